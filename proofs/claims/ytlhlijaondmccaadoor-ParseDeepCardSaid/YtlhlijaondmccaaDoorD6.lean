/- Part 6 of the proof of a law of the parser, its names made short by a program. No condition. -/
import Derived.Test.YtlhlijaondmccaaDoorD5
import Derived.KernelRfl
import Derived.Test.YtlhlijaondmccaaDoorRows
import Derived.WalkKit
import Derived.ProofKit
import Derived.LaidMore
import Derived.LaidLaws
import Derived.MakeChecks
import Derived.Stop.Joined
import Derived.Stop.LaidErr
import Derived.Lib.LaidTab
import Derived.OpenShut
import Derived.ShutString
import Derived.ChangeOld
import Derived.Below
import Derived.SizedLaws
import Derived.DataOpen
import Derived.ChangeSlices
import Derived.Test.YtlhlijaondmccaaDoorCards
import Derived.Test.YtlhlijaondmccaaDoorTie
import Derived.SevenTiedAt
set_option linter.all false
set_option maxRecDepth 100000
set_option maxHeartbeats 4000000
open _root_.Bool renaming and_eq_true → an, and_self → bn, and_true → bI, false_eq_true → ab, not_false → aY, not_true → bz, true_and → bA
open _root_.Int renaming cast_ofNat_Int → aa, natCast_zero → gZ
open _root_.List renaming all_cons → bB, all_eq_true → dD, all_nil → cq, cons_append → aR, drop_nil → bY, drop_succ_cons → aL, drop_zero → bg, getD_cons_succ → aP, getD_cons_zero → aQ, getElem?_cons_succ → ay, getElem?_cons_zero → aC, length_append → bh, length_cons → ak, length_nil → aA, length_singleton → bE, map_cons → bq, map_nil → aW, modify_succ_cons → aM, modify_zero_cons → aN, nil_append → bu, range → gg, take_left → bH, take_nil → bN, take_succ_cons → az, take_zero → bw, toList_toArray → aS
open _root_.Nat renaming add_zero → bx, beq → ai, ble → di, blt → fC, le_refl → aq, reduceAdd → bQ, zero_add → aZ
open _root_.Option renaming bind_none → ba, bind_some → ag, map_some → aO
namespace Go.Proofs.YtlhlijaondmccaaDoor.S
open Go Go.AM Go.Proofs
attribute [local simp] cV cy bR bS cz eY fk ef db ec cZ ed da fj bT gQ dV gR gL gG AM.ae aP aQ ba aO aD AM.onG fJ cd ep Ex.bf cond_true cond_false cR cQ cP cO cN cT cM cU cS eg dc de cx cW AM.dj AM.cellsOf AM.av bP beq_true cK ak aA aZ bx bQ decide_true decide_false bI bA bn bz aY aC ay bu aR cX cY fg az bH bw bN cv dU dZ cG eu et set_set eB dy fG dz cF bC dx dw cE dv eA eC fA fB bD cf en fw dN aK aS aE AM.aV ah cL bL bq aW aN aM AM.part bg aL bY cc bZ bX bX.eK AM.dL bB cq dG fv aK laid aG aX cm
attribute [-simp] ag
attribute [local congr] dH
abbrev pg0 : Pg := ⟨[], [], [], []⟩
theorem yk {ts : List Tok} (hr : Row ts) {m : Nat} (hm : m ≤ 1000000) (ih : qc ts m) : ∀ n g l x, g.gS.length + g.gls.length + g.gP.length + g.ths.length + n ≤ 1000000 → Sfx ts l → gN n m g l = some x → ly ts 0 g l x := by
 intro n
 induction n with
 | zero => intro g l x _ _ hx; simp [gN] at hx
 | succ n ihn =>
  intro g l x hg h hx; simp only [gN] at hx
  have ihp : ∀ g2 l x, g2.gS.length + g2.gls.length + g2.gP.length + g2.ths.length = g.gS.length + g.gls.length + g.gP.length + g.ths.length + 1 → Sfx ts l → gN n m g2 l = some x → ly ts 0 g2 l x := fun g2 l x e h hx => ihn g2 l x (by omega) h hx
  by_cases k0 : (hd l).kind = 0
  · rw [if_pos k0] at hx
    exact Ae hr h k0 hx
  rw [if_neg k0] at hx
  cases p0 : isT l [114, 101, 99, 111, 114, 100] with
  | true => rw [if_pos p0] at hx; exact uE hr rfl hm ih (by omega) ihp h k0 p0 hx
  | false =>
  rw [if_neg (by rw [p0]; decide)] at hx
  cases p1 : isT l [103, 108, 111, 98, 97, 108] with
  | true => rw [if_pos p1] at hx; exact uD hr rfl hm ih (by omega) ihp h k0 p0 p1 hx
  | false =>
  rw [if_neg (by rw [p1]; decide)] at hx
  cases p2 : isT l [102, 117, 110] with
  | true => rw [if_pos p2] at hx; exact yj hr rfl hm ih (by omega) ihp h k0 p0 p1 p2 hx
  | false =>
  rw [if_neg (by rw [p2]; decide)] at hx
  cases p3 : isT l [116, 104, 114, 101, 97, 100] with
  | true => rw [if_pos p3] at hx; exact uF hr rfl hm ih (by omega) ihp h k0 p0 p1 p2 p3 hx
  | false =>
  rw [if_neg (by rw [p3]; decide)] at hx; exact yl hr h k0 p0 p1 p2 p3 hx
theorem vR {ts : List Tok} (hr : Row ts) {m n : Nat} (hm : m ≤ 1000000) (hn : n ≤ 1000000) {l : List Tok} {x : PR Pg} (h : Sfx ts l) (hx : gN n m pg0 l = some x) : Rd 26 [] ts 0 0 l nO x := by
 have h1 := yk hr hm (Ax hr m hm).1 n pg0 l x (by simpa using hn) h hx
 cases x with
 | bad er q =>
  obtain ⟨a', d'', h1⟩ := h1; refine ⟨a', d'', fun b Y hb => ?_⟩; obtain ⟨P0, P1, tk', hit⟩ := h1 b Y hb _ _ _ rfl rfl rfl .nil .nil .nil .nil [] (iU.zero _); rw [y0]; obtain ⟨N, T, Lb, hN, hT, hL⟩ := lens3 Y; rw [hN] at hb; rw [hN] at hit
  conv => lhs; rw [← aj (Y.af false b (pc ts l 0))]
  rw [hL] at hit; simp only [pc, pcf, z4, pgC, pg0, jJ, nms, nh, ny, aW, gZ] at hit ⊢
  generalize aw ts = es at *
  simp [S26, hN, hT, hL, hb, hit, Ex.bf]
 | ok g l' =>
  refine ⟨h1.1, fun b Y hb => ?_⟩; obtain ⟨k1, k2, k3, k4, P, tk', hit⟩ := h1.2 b Y hb _ _ _ rfl rfl rfl .nil .nil .nil .nil [] (iU.zero _); rw [y0]; obtain ⟨N, T, Lb, hN, hT, hL⟩ := lens3 Y; rw [hN] at hb; rw [hN] at hit
  conv => lhs; rw [← aj (Y.af false b (pc ts l 0))]
  rw [hL] at hit; simp only [pc, pcf, z4, pgC, pg0, jJ, nms, nh, ny, aW, gZ] at hit ⊢
  generalize aw ts = es at *
  simp [S26, hN, hT, hL, hb, hit, Ex.bf]; exact ⟨rfl, rfl, rfl, rfl⟩
end Go.Proofs.YtlhlijaondmccaaDoor.S
namespace Go.Proofs.YtlhlijaondmccaaDoor.S
open Go Go.AM Go.Proofs
def Tot {α : Type} (c : α → Nat) (m : Nat) (o : Option (PR α)) : Prop := ∃ x, o = some x ∧ ∀ a l', x = .ok a l' → c a + 8 * l'.length ≤ m
section
variable {α β : Type} {c : α → Nat} {c' : β → Nat} {m m' : Nat}
theorem Tot.le {k : α → Nat} {o : Option (PR α)} (h : Tot c m o) (hm : ∀ a n, c a + 8 * n ≤ m → k a + 8 * n ≤ m') : Tot k m' o := by
 obtain ⟨x, h1, h2⟩ := h; exact ⟨x, h1, fun a l' e => hm a l'.length (h2 a l' e)⟩
theorem dK {a : α} {l : List Tok} (h : c a + 8 * l.length ≤ m) : Tot c m (some (.ok a l)) := ⟨_, rfl, fun a l' e => by cases e; exact h⟩
theorem j8 {e : Nat} {q : Nat × Nat} : Tot c m (some (.bad e q : PR α)) := ⟨_, rfl, fun a l' e => by cases e⟩
theorem bV {x : Option (PR α)} {K : α → List Tok → Option (PR β)} (h : Tot c m x) (hk : ∀ a l', c a + 8 * l'.length ≤ m → Tot c' m' (K a l')) : Tot c' m' (pb x K) := by
 obtain ⟨x, rfl, h2⟩ := h
 cases x with
 | ok a l => exact hk a l (h2 a l rfl)
 | bad e q => exact j8
theorem dr {p : Prop} [Decidable p] {x y : Option (PR α)} (h : p → Tot c m x) (g : ¬ p → Tot c m y) : Tot c m (if p then x else y) := by
 split
 · exact h ‹_›
 · exact g ‹_›
theorem tB {f : α → β} {x : PR α} (h : Tot (fun a => c' (f a)) m (some x)) : Tot c' m (some (x.map f)) := by
 obtain ⟨y, h1, h2⟩ := h; obtain rfl := Option.some.inj h1
 cases x with
 | ok a l => exact dK (h2 a l rfl)
 | bad e q => exact j8
theorem rp {d : Nat} {t : Tok} {x : Option (PR α)} (h : Tot c m x) : Tot c m (qt d t x) := dr (fun _ => j8) fun _ => h
end
theorem vE {l : List Tok} (h : (hd l).kind ≠ 0) : 1 ≤ l.length := by
 cases l with
 | nil => exact absurd rfl h
 | cons t r => simp
theorem zN {l : List Tok} {s : List UInt8} (h : isT l s = true) : (hd l).kind ≠ 0 := by
 unfold isT at h; simp only [an, Bool.or_eq_true, decide_eq_true_eq] at h; omega
theorem dp {l : List Tok} {s : List UInt8} (h : isT l s = true) : 1 ≤ l.length ∧ l.tail.length = l.length - 1 := ⟨vE (zN h), List.length_tail⟩
theorem fU {l : List Tok} (h : (hd l).kind ≠ 0) : 1 ≤ l.length ∧ (dJ l).length = l.length - 1 := ⟨vE h, by rw [dJ, if_neg h]; exact List.length_tail⟩
theorem ux (l : List Tok) : (dJ l).length ≤ l.length := by
 unfold dJ; split
 · exact aq _
 · rw [List.length_tail]; omega
theorem fo (s : List UInt8) (l : List Tok) : Tot (fun _ => 8) (8 * l.length) (some (dt s l)) := by
 unfold dt; split
 · rename_i h; have := dp h; exact dK (by omega)
 · exact j8
theorem fY {k : Nat} (hk : k ≠ 0) (l : List Tok) : Tot (fun _ => 8) (8 * l.length) (some (eW k l)) := by
 unfold eW; split
 · rename_i h; have := fU (l := l) (by omega); exact dK (by omega)
 · exact j8
theorem Ca (l : List Tok) : Tot (fun _ => 8) (8 * l.length) (some (yP l)) := by
 unfold yP; split
 · rename_i h; have := dp h; exact dK (by omega)
 split
 · rename_i h; have := dp h; exact dK (by omega)
 split
 · rename_i h; have := dp h; exact dK (by omega)
 exact tB (fY (by omega) l)
theorem pa (l : List Tok) : Tot (fun _ => 24) (8 * l.length) (np l) :=
 bV (fY (by omega) l) fun t l1 h1 => bV (fo _ l1) fun _ l2 h2 => bV (Ca l2) fun ty l3 h3 => dK (by omega)
abbrev wX (e : X) : Nat := e.sz + 7
theorem mq : x0.sz = 1 := by simp [x0, X.sz, szs]
theorem oF (t : Tok) (op n kd : Int) (rc name : List UInt8) : (atX t op n kd rc name).sz = 1 := by simp [atX, X.sz, szs]
theorem zh (a b c d : Int) (r n : ByteArray) (e k : X) (p q : Int) : X.sz ⟨a, b, c, d, r, n, [e, k], p, q⟩ = e.sz + k.sz + 1 := by simp [X.sz, szs]
theorem Ei (a b c d : Int) (r n : ByteArray) (k : X) (p q : Int) : X.sz ⟨a, b, c, d, r, n, [k], p, q⟩ = k.sz + 1 := by simp [X.sz, szs]
structure Ek (n : Nat) : Prop where
 atom : ∀ d l, 10 * l.length + 1 ≤ n → Tot wX (8 * l.length) (qg n d l)
 pre : ∀ d l, 10 * l.length + 2 ≤ n → Tot wX (8 * l.length) (j0 n d l)
 chain : ∀ lv d l, lv ≤ 3 → 10 * l.length + 6 ≤ n + lv → Tot wX (8 * l.length) (fK n lv d l)
 rest : ∀ lv d e l, lv < 3 → 10 * l.length + 1 ≤ n → Tot X.sz (e.sz + 8 * l.length) (mP n lv d e l)
theorem wY : ∀ n, Ek n
 | 0 => ⟨fun d l h => by omega, fun d l h => by omega, fun lv d l h h' => by omega, fun lv d e l h h' => by omega⟩
 | n + 1 => by
  have ih := wY n; refine ⟨fun d l h => ?_, fun d l h => ?_, fun lv d l hlv h => ?_, fun lv d e l hlv h => ?_⟩
  · simp only [qg]
    refine dr (fun k => dK ?_) fun _ => dr (fun k => dK ?_) fun _ => dr (fun k => dK ?_) fun _ => dr (fun k => ?_) fun _ => dr (fun k => ?_) fun _ => dr (fun k => ?_) fun _ => j8
    · have := fU (l := l) (by omega); simp only [wX, oF]; omega
    · have := fU (l := l) (by omega); simp only [wX, oF]; omega
    · have := fU (l := l) (by omega); simp only [wX, oF]; omega
    · have := fU (l := l) (by omega)
      exact tB ((fY (by omega) (dJ l)).le fun a n h => by simp only [wX, oF]; omega)
    · have := fU (l := l) (by omega)
      refine dr (fun k => dK ?_) fun _ => tB ((fY (by omega) (dJ l)).le fun a n h => by simp only [wX, oF]; omega)
      have := dp k; simp only [wX, oF]; omega
    · have := fU (l := l) (by omega)
      exact rp (bV (ih.chain 0 (d + 1) (dJ l) (by omega) (by omega)) fun e l1 h1 => bV (fo _ l1) fun _ l2 h2 => dK (by omega))
  · simp only [j0]
    refine dr (fun k => ih.atom d l (by omega)) fun k => ?_
    have : (hd l).kind ≠ 0 := by
     intro q; apply k; unfold iu; rw [if_neg (by omega)]
    have := fU this; exact rp (bV (ih.pre (d + 1) (dJ l) (by omega)) fun e l1 h1 => dK (by simp only [wX, Ei] at h1 ⊢; omega))
  · simp only [fK]
    refine dr (fun k => ih.pre d l (by omega)) fun k => ?_
    exact bV (ih.chain (lv + 1) d l (by omega) (by omega)) fun e l1 h1 => (ih.rest lv d e l1 (by omega) (by simp only [wX] at h1; omega)).le fun a n h => by simp only [wX] at h1 ⊢; omega
  · simp only [mP]
    cases hs : o5 lv (hd l) with
    | none => exact dK (aq _)
    | some b =>
     have : (hd l).kind ≠ 0 := by
      unfold o5 at hs; split at hs
      · omega
      · cases hs
     have := fU this
     exact bV (ih.chain (lv + 1) d (dJ l) (by omega) (by omega)) fun k l1 h1 => dr (fun _ => dK (by simp only [wX, zh] at h1 ⊢; omega)) fun _ => (ih.rest lv d _ l1 hlv (by simp only [wX] at h1; omega)).le fun a n h => by simp only [wX, zh] at h1 h ⊢; omega
theorem jC {n d : Nat} {l : List Tok} (h : 10 * l.length + 6 ≤ n) : Tot wX (8 * l.length) (fK n 0 d l) := (wY n).chain 0 d l (by omega) (by omega)
abbrev wP (p : Pl) : Nat := p.index.sz + 7
theorem si {n d : Nat} {l : List Tok} (h : 10 * l.length + 6 ≤ n) : Tot wP (8 * l.length) (oX n d l) :=
 bV (fY (by omega) l) fun t l1 h1 => dr
  (fun k => by have := dp k; exact bV (fY (by omega) l1.tail) fun u l2 h2 => dK (by simp only [wP, mq]; omega)) fun _ => dr
  (fun k => by have := dp k; exact bV (jC (by omega)) fun e l2 h2 => bV (fo _ l2) fun _ l3 h3 => dK (by simp only [wP, wX] at h2 ⊢; omega)) fun _ => dK (by simp only [wP, mq]; omega)
abbrev wR (r : Rt) : Nat := r.e.sz + r.place.index.sz + 6
theorem so {n d : Nat} {l : List Tok} (h : 10 * l.length + 6 ≤ n) : Tot wR (8 * l.length) (ko n d l) := by
 simp only [ko]
 refine dr (fun k => ?_) fun _ => dr (fun k => ?_) fun _ => dr (fun k => dr (fun k' => ?_) fun _ => ?_) fun _ => ?_
 · have := dp k; exact bV (si (by omega)) fun x l1 h1 => dK (by simp only [wP, wR, mq] at h1 ⊢; omega)
 · have := dp k; exact bV (fY (by omega) _) fun x l1 h1 => dK (by simp only [wR, mq, pl0]; omega)
 · have := dp k; have := dp k'; exact bV (jC (by omega)) fun x l1 h1 => dK (by simp only [wX, wR, mq, pl0] at h1 ⊢; omega)
 · have := dp k; exact bV (fY (by omega) _) fun x l1 h1 => dK (by simp only [wR, mq, pl0]; omega)
 · exact bV (jC (by omega)) fun x l1 h1 => dK (by simp only [wX, wR, mq, pl0] at h1 ⊢; omega)
theorem uW (xs : List X) (x : X) : szs (xs ++ [x]) = szs xs + x.sz := by rw [xy]; simp [szs]
theorem yB (xs : List S) (x : S) : gT (xs ++ [x]) = gT xs + x.sz := by rw [uS]; simp [gT]
theorem tO {m d : Nat} : ∀ (n : Nat) (acc : List X) (l : List Tok), l.length + 1 ≤ n → 10 * l.length + 6 ≤ m → Tot szs (szs acc + 8 * l.length) (qf n m d acc l)
 | 0, acc, l, h, _ => by omega
 | n + 1, acc, l, h, hm => by
  simp only [qf]
  refine bV (jC hm) fun e l1 h1 => dr (fun k => dK (by have := dp k; simp only [wX, uW] at h1 ⊢; omega)) fun _ => bV (fo _ l1) fun _ l2 h2 => ?_
  simp only [wX] at h1
  exact (tO n _ l2 (by omega) (by omega)).le fun a n h => by simp only [uW] at h ⊢; omega
theorem xP {n d : Nat} {l : List Tok} (h : 10 * l.length + 6 ≤ n) : Tot (fun xs => szs xs + 8) (8 * l.length) (tM n d l) :=
 bV (fo _ l) fun _ l1 h1 => dr (fun k => dK (by have := dp k; simp only [szs]; omega)) fun _ => (tO n [] l1 (by omega) (by omega)).le fun a n h => by simp only [szs] at h; omega
theorem jL {m : Nat} {s : S} {l : List Tok} (h : s.sz + 8 * l.length ≤ m + 8) : Tot S.sz m (gu s l) := bV (fo _ l) fun _ l1 h1 => dK (by omega)
theorem jF (t : Tok) (op : Int) (name : ByteArray) (right : Rt) (place : Pl) (e : X) (n : Int) (args : List X) (body els : List S) : (mkS t op name right place e n args body els).sz = right.e.sz + right.place.index.sz + place.index.sz + e.sz + szs args + gT body + gT els + 1 := S.Cw _
theorem Dx : rt0.e.sz = 1 ∧ rt0.place.index.sz = 1 ∧ pl0.index.sz = 1 := ⟨mq, mq, mq⟩
structure StT (n : Nat) : Prop where
 blk : ∀ d l, 10 * l.length + 7 ≤ n → Tot (fun b => gT b + 8) (8 * l.length) (gi n d l)
 row : ∀ d acc l, 10 * l.length + 9 ≤ n → Tot gT (gT acc + 8 * l.length) (rD n d acc l)
 lp : ∀ d t nm l, 10 * l.length + 8 ≤ n → Tot (fun s : S => s.sz + 1) (8 * l.length) (lY n d t nm l)
 st : ∀ d l, 10 * l.length + 8 ≤ n → Tot (fun s : S => s.sz + 1) (8 * l.length) (ri n d l)
theorem vY : ∀ n, StT n
 | 0 => ⟨fun d l h => by omega, fun d acc l h => by omega, fun d t nm l h => by omega, fun d l h => by omega⟩
 | n + 1 => by
  have ih := vY n; have z := Dx; have z0 := mq; refine ⟨fun d l h => ?_, fun d acc l h => ?_, fun d t nm l h => ?_, fun d l h => ?_⟩
  · simp only [gi]
    exact bV (fo _ _) fun t l1 h1 => rp ((ih.row (d + 1) [] l1 (by omega)).le fun a n h => by simp only [gT] at h; omega)
  · simp only [rD]
    refine dr (fun k => dK (by have := dp k; omega)) fun _ => bV (ih.st d l (by omega)) fun s l1 h1 => ?_
    have : 1 ≤ s.sz := by rw [S.Cw]; omega
    exact (ih.row d _ l1 (by omega)).le fun a n h => by simp only [yB] at h; omega
  · simp only [lY]
    exact bV (fY (by omega) l) fun u l1 h1 => bV (ih.blk d l1 (by omega)) fun b l2 h2 => dK (by simp only [jF, szs, gT, z, z0]; omega)
  · simp only [ri]
    refine dr (fun k => ?_) fun _ => dr (fun k => ?_) fun _ => dr (fun k => ?_) fun _ => dr (fun k => ?_) fun _ => dr (fun k => ?_) fun _ => dr (fun k => ?_) fun _ => dr (fun k => ?_) fun _ => dr (fun k => ?_) fun _ => dr (fun k => ?_) fun _ => dr (fun k => ?_) fun _ => j8
    · have := fU (l := l) (by omega)
      refine dr (fun k' => ?_) fun _ => ?_
      · have := dp k'
        exact bV (fo _ _) fun _ l1 h1 => (ih.lp d _ _ l1 (by omega)).le fun a n h => by omega
      · exact bV (fo _ _) fun _ l1 h1 => bV (so (by omega)) fun r l2 h2 => (jL (m := 8 * l.length - 1) (by simp only [wR] at h2; simp only [jF, szs, gT, z, z0]; omega)).le fun a n h => by omega
    · have := dp k; exact (ih.lp d _ _ l.tail (by omega)).le fun a n h => by omega
    · have := dp k
      refine bV (jC (by omega)) fun e l1 h1 => ?_
      simp only [wX] at h1
      exact bV (ih.blk d l1 (by omega)) fun b l2 h2 => dr
       (fun k' => by have := dp k'; exact bV (ih.blk d l2.tail (by omega)) fun c l3 h3 => dK (by simp only [jF, szs, gT, z, z0]; omega)) fun _ => dK (by simp only [jF, szs, gT, z, z0]; omega)
    · have := dp k; exact bV (ih.blk d l.tail (by omega)) fun b l1 h1 => dK (by simp only [jF, szs, gT, z, z0]; omega)
    · have : (hd l).kind ≠ 0 := by rcases k with k | k <;> exact zN k
      have := fU this
      exact bV (fY (by omega) _) fun u l1 h1 => bV (fo _ l1) fun _ l2 h2 => bV (so (by omega)) fun r l3 h3 => (jL (m := 8 * l.length - 1) (by simp only [wR] at h3; simp only [jF, szs, gT, z, z0]; omega)).le fun a n h => by omega
    · have := dp k
      refine bV (si (by omega)) fun x l1 h1 => bV (fo _ l1) fun _ l2 h2 => ?_
      simp only [wP] at h1
      exact bV (jC (by omega)) fun e l3 h3 => (jL (m := 8 * l.length - 1) (by simp only [wX] at h3; simp only [jF, szs, gT, z, z0]; omega)).le fun a n h => by omega
    · have := dp k; exact bV (jC (by omega)) fun e l1 h1 => (jL (m := 8 * l.length - 1) (by simp only [wX] at h1; simp only [jF, szs, gT, z, z0]; omega)).le fun a n h => by omega
    · have := dp k
      have h2 : (gm l.tail).2.length ≤ l.tail.length := by
       unfold gm; split
       · exact ux _
       · exact aq _
      exact (jL (m := 8 * l.length - 1) (by simp only [jF, szs, gT, z, z0]; omega)).le fun a n h => by omega
    · have := dp k
      have h2 : (gm l.tail).2.length ≤ l.tail.length := by
       unfold gm; split
       · exact ux _
       · exact aq _
      exact (jL (m := 8 * l.length - 1) (by simp only [jF, szs, gT, z, z0]; omega)).le fun a n h => by omega
    · have := dp k
      exact bV (fY (by omega) _) fun u l1 h1 => bV (xP (by omega)) fun xs l2 h2 => (jL (m := 8 * l.length - 1) (by simp only [jF, szs, gT, z, z0]; omega)).le fun a n h => by omega
theorem qy : ∀ (n : Nat) (acc : List Nm) (l : List Tok), l.length + 1 ≤ n → Tot List.length (acc.length + 8 * l.length) (k9 n acc l)
 | 0, acc, l, h => by omega
 | n + 1, acc, l, h => by
  simp only [k9]
  exact dr (fun k => dK (by have := dp k; omega)) fun _ => bV (pa l) fun f l1 h1 => bV (fo _ l1) fun _ l2 h2 =>
   (qy n _ l2 (by omega)).le fun a n h => by simp only [bh, bE] at h; omega
theorem BX {n : Nat} {l : List Tok} (h : l.length + 1 ≤ n) : Tot (fun r : Rec => r.fields.length + 1) (8 * l.length) (Aj n l) :=
 bV (fY (by omega) l) fun t l1 h1 => bV (fo _ l1) fun _ l2 h2 => bV (qy n [] l2 (by omega)) fun fs l3 h3 => dK (by simp only [aA] at h3; show fs.length + 1 + 8 * l3.length ≤ _; omega)
theorem qS : ∀ (n : Nat) (acc : List Nm) (l : List Tok), l.length + 1 ≤ n → Tot List.length (acc.length + 8 * l.length) (jY n acc l)
 | 0, acc, l, h => by omega
 | n + 1, acc, l, h => by
  simp only [jY]
  exact bV (pa l) fun f l1 h1 => dr (fun k => dK (by have := dp k; simp only [bh, bE]; omega)) fun _ => bV (fo _ l1) fun _ l2 h2 =>
   (qS n _ l2 (by omega)).le fun a n h => by simp only [bh, bE] at h; omega
theorem BC {n : Nat} {l : List Tok} (h : 10 * l.length + 7 ≤ n) : Tot (fun f : Fu => f.params.length + gT f.body + 1) (8 * l.length) (BB n l) :=
 bV (fY (by omega) l) fun t l1 h1 => bV (fo _ l1) fun _ l2 h2 => bV (c := List.length) (m := 8 * l2.length)
  (dr (fun k => dK (by have := dp k; simp only [aA]; omega)) fun _ => (qS n [] l2 (by omega)).le fun a n h => by simpa using h) fun ps l3 h3 =>
  bV ((vY n).blk 0 l3 (by omega)) fun b l4 h4 => dK (by simp only []; omega)
def Pg.sz (g : Pg) : Nat := (g.gS.map fun r => r.fields.length + 1).sum + g.gls.length + (g.gP.map fun f => f.params.length + gT f.body + 1).sum + (g.ths.map fun t => gT t.body + 1).sum
theorem uG {m : Nat} : ∀ (n : Nat) (g : Pg) (l : List Tok), l.length + 1 ≤ n → 10 * l.length + 7 ≤ m → Tot Pg.sz (g.sz + 8 * l.length) (gN n m g l)
 | 0, g, l, h, _ => by omega
 | n + 1, g, l, h, hm => by
  simp only [gN]
  refine dr (fun k => dK (aq _)) fun k0 => ?_
  have := vE k0
  have go : ∀ g' l2, l2.length < l.length → g'.sz + 8 * l2.length ≤ g.sz + 8 * l.length → Tot Pg.sz (g.sz + 8 * l.length) (gN n m g' l2) := fun g' l2 h2 h3 => (uG n g' l2 (by omega) (by omega)).le fun a n h => by omega
  refine dr (fun k => ?_) fun _ => dr (fun k => ?_) fun _ => dr (fun k => ?_) fun _ => dr (fun k => ?_) fun _ => j8
  · have := dp k; exact bV (BX (by omega)) fun r l1 h1 => go _ _ (by omega) (by simp only [Pg.sz, List.map_append, List.sum_append, bq, aW, List.sum_cons, List.sum_nil] at h1 ⊢; omega)
  · have := dp k; exact bV (pa _) fun r l1 h1 => bV (fo _ l1) fun _ l2 h2 => go _ _ (by omega) (by simp only [Pg.sz, bh, bE]; omega)
  · have := dp k; exact bV (BC (by omega)) fun r l1 h1 => go _ _ (by omega) (by simp only [Pg.sz, List.map_append, List.sum_append, bq, aW, List.sum_cons, List.sum_nil] at h1 ⊢; omega)
  · have := dp k; exact bV ((vY m).blk 0 l.tail (by omega)) fun r l1 h1 => go _ _ (by omega) (by simp only [Pg.sz, List.map_append, List.sum_append, bq, aW, List.sum_cons, List.sum_nil] at h1 ⊢; omega)
theorem zR : ∀ (k : Nat) (rest : List UInt8) (p : Nat × Nat), rest.length = k → ∀ ts, iv rest p = .ok ts → ts.length ≤ rest.length + 1 ∧ ∀ t ∈ ts, t.text.length ≤ rest.length := by
 intro k
 induction k using Nat.strongRecOn with
 | ind k ih =>
  intro rest p hk ts h
  cases rest with
  | nil =>
   rw [qH] at h; obtain rfl := LR.ok.inj h; exact ⟨by simp, by simp⟩
  | cons c l =>
   by_cases hb : fZ (c :: l) = 0
   · cases ht : (eO (c :: l)).2.2.2 with
     | false => rw [qG hb ht] at h; cases h
     | true =>
      rw [qI hb ht] at h; have hpos := mo ht; have hdl : ((c :: l).drop (eO (c :: l)).2.1).length = (c :: l).length - (eO (c :: l)).2.1 := List.length_drop ..
      cases hr : iv ((c :: l).drop (eO (c :: l)).2.1) (adv ((c :: l).take (eO (c :: l)).2.1) p) with
      | err q => rw [hr] at h; cases h
      | ok ts' =>
       rw [hr] at h; obtain rfl := LR.ok.inj h; simp only [ak] at hdl hk; obtain ⟨h1, h2⟩ := ih _ (by omega) _ _ rfl ts' hr; refine ⟨by simp only [ak]; omega, fun t hm => ?_⟩
       rcases List.mem_cons.1 hm with rfl | hm
       · simp only [mn]; exact Nat.le_trans (List.length_take_le _ _) (pY c l)
       · have := h2 t hm; simp only [ak]; omega
   · rw [nk hb] at h
     have hdl : ((c :: l).drop (fZ (c :: l))).length = (c :: l).length - fZ (c :: l) := List.length_drop ..; simp only [ak] at hdl hk; obtain ⟨h1, h2⟩ := ih _ (by omega) _ _ rfl ts h; exact ⟨by simp only [ak]; omega, fun t hm => by have := h2 t hm; simp only [ak]; omega⟩
theorem wk : ∀ w ∈ kx, ∀ lv, lv < 3 → (gA lv).contains w = false := by
 intro w hw lv hlv
 have : lv = 0 ∨ lv = 1 ∨ lv = 2 := by omega
 rcases this with rfl | rfl | rfl <;> revert w <;> decide
theorem ot {t : Tok} (h : Tk t) : t.kind ≠ 0 ∧ (t.n < 9223372036854775808 ∨ t.kind = 4) ∧ (t.kind = 5 → ∀ c ∈ t.text, c ≠ 32) ∧ (t.kind = 2 → jO t.text = true) := by
 obtain ⟨a, l, h1, h2, h3⟩ := h.ex; have hk := yN (c := a) (l := l) (by rw [h3]); rw [h3] at hk; refine ⟨hk, ?_⟩; rw [h1]
 cases ha : ew a with
 | true =>
  rw [iO ha] at h3; obtain ⟨e1, e2⟩ := Prod.mk.inj h3; obtain ⟨e2, e3⟩ := Prod.mk.inj e2; obtain ⟨e3, e4⟩ := Prod.mk.inj e3; rw [e2, List.take_length] at e1 e3; unfold j9 at e1 e3
  cases hw : jO (a :: l) with
  | true =>
   simp only [hw, if_true] at e1 e3; exact ⟨.inl (by omega), fun q => by omega, fun _ => rfl⟩
  | false =>
   cases hn : pz (a :: l) with
   | true =>
    simp only [hw, hn, if_true, if_false, ab] at e1 e3; exact ⟨.inl (by omega), fun q => by omega, fun q => by omega⟩
   | false =>
    simp only [hw, hn, if_false, ab] at e1 e3; have := xt (a :: l); exact ⟨.inl (by omega), fun q => by omega, fun q => by omega⟩
 | false =>
  by_cases hc : a = 35
  · subst hc
    rw [ib] at h3; obtain ⟨e1, e2⟩ := Prod.mk.inj h3; exact ⟨.inr e1.symm, fun q => by omega, fun q => by omega⟩
  · rw [gM ha hc] at h3
    obtain ⟨e1, e2⟩ := Prod.mk.inj h3; obtain ⟨e2, e3⟩ := Prod.mk.inj e2; obtain ⟨e3, e4⟩ := Prod.mk.inj e3; refine ⟨.inl (by omega), fun _ => ?_, fun q => by omega⟩; unfold fm at e2; split at e2
    · rename_i hp
      have : ∃ b, l = [b] := by
       cases l with
       | nil => simp at e2
       | cons b l => cases l with
        | nil => exact ⟨b, rfl⟩
        | cons _ _ => simp at e2
      obtain ⟨b, rfl⟩ := this; simp only [Bool.or_eq_true, List.isPrefixOf, an, beq_iff_eq] at hp; intro c hm; simp only [List.mem_cons, List.not_mem_nil, or_false] at hm
      rcases hp with (⟨rfl, rfl, _⟩ | ⟨rfl, rfl, _⟩) | ⟨rfl, rfl, _⟩ <;> rcases hm with rfl | rfl <;> decide
    · simp only at e2
      split at e2
      · rename_i hs
        have : l = [] := List.length_eq_zero_iff.1 (by simp only [ak] at e2; omega); subst this; intro c hm; rw [List.mem_singleton] at hm; subst hm
        rintro rfl
        revert hs
        decide
      · simp at e2
theorem BQ {l : List UInt8} (hl : l.length ≤ 8192) {p : Nat × Nat} {ts : List Tok} (h : iv l p = .ok ts) : Row ts ∧ CM ts ∧ ts.length ≤ l.length + 1 := by
 obtain ⟨t0, h1, h2⟩ := vJ l.length l p rfl ts h; obtain ⟨h3, h4⟩ := zR l.length l p rfl ts h
 have hm : ∀ t ∈ ts, Tk t ∨ t = ⟨0, [], 0, adv l p⟩ := by
  intro t ht; rw [h2] at ht
  rcases List.mem_append.1 ht with ht | ht
  · exact .inl (h1 t ht)
  · exact .inr (List.mem_singleton.1 ht)
 refine ⟨⟨by omega, ⟨t0, adv l p, h2, fun t ht => (ot (h1 t ht)).1⟩, fun t ht => ?_, fun t ht => by have := h4 t ht; omega, fun t ht k => ?_⟩, fun t ht k => ?_, h3⟩
 · rcases hm t ht with q | rfl
   · exact (ot q).2.1
   · exact .inl (by simp)
 · rcases hm t ht with q | rfl
   · exact (ot q).2.2.1 k
   · simp at k
 · rcases hm t ht with q | rfl
   · have := (ot q).2.2.2 k
     exact wk _ (by simpa [jO] using this)
   · simp at k
def qT (ts : List Tok) : PR Pg := ((gN 10000 100000 ⟨[], [], [], []⟩ ts).getD (.bad 0 (0, 0)))
theorem vP {ts : List Tok} (h : ts.length ≤ 8193) : gN 10000 100000 ⟨[], [], [], []⟩ ts = some (qT ts) ∧ ∀ g l', qT ts = .ok g l' → g.sz ≤ 70000 := by
 obtain ⟨x, h1, h2⟩ := uG (m := 100000) 10000 ⟨[], [], [], []⟩ ts (by omega) (by omega); unfold qT; rw [h1]; refine ⟨rfl, fun g l' e => ?_⟩; have := h2 g l' e; simp only [Pg.sz, aW, List.sum_nil, aA] at this; simp only [Pg.sz]; omega
def dX (l : List UInt8) : Pg × Nat × Nat × Nat := if (oP l).1 = 0 then match qT (uv l) with | .ok g _ => (g, 0, 0, 0) | .bad e q => (pg0, e, q.1, q.2) else (pg0, oP l)
def yi {R : Type} (x : Ex) (A B : Option R) : Option R := match x with
 | .normal => A
 | .ret => B
 | _ => none
noncomputable def H47 (a0 a1 a2 : PV) (st : St) : Option St :=
(aX [(0, 1), (1, 1), (2, 1), (3, 1)] [.sl [] .nil, .sl [] .nil, .sl [] .nil, .sl [] .nil] []).bind fun p1 =>
(al false 1 a0 st).bind fun p2 =>
(aE p2).bind fun p3 =>
(av p3 3).bind fun p4 =>
(al true 3 p4 st).bind fun p5 =>
(au st.stk.length 4 a1 p1 st).bind fun st6 =>
(au st.stk.length 3 a2 p5 st6).bind fun st7 =>
some st7
theorem CK (a0 a1 a2 : PV) (st : St) : zH [a0, a1, a2] 92 (.agg #[]) st = H47 a0 a1 a2 st := by kernel_rfl
noncomputable def S10 (call : bG) (a0 : PV) (st : St) : Option (PV × St) :=
let q2 : PV := .ptr false st.stk.length 0
let st1 := st.push [.sl [] .nil, .sl [] .nil, .sl [] .nil, .sl [] .nil]
let q4 : PV := .ptr false st1.stk.length 0
let st3 := st1.push [.v (.int .i64 0), .v (.int .i64 0), .v (.int .i64 0)]
(call (.func 24) [ah a0] st3).bind fun r5 =>
(aV r5.1 0).bind fun p6 =>
(aV r5.1 1).bind fun p7 =>
let q9 : PV := .ptr false r5.2.stk.length 0
let st8 := r5.2.push [.v (.int .i64 0), .v (.int .i64 0), .v (.int .i64 0)]
(au st.stk.length 3 q9 p7 st8).bind fun st10 =>
(al true 3 q9 st10).bind fun p11 =>
(aX [(0, 1), (1, 1), (2, 1)] [.v (.int .i64 0), .v (.int .i64 0), .v (.int .i64 0)] []).bind fun p12 =>
(aT Tryd.prog false .neq 38 p11 p12).bind fun p13 =>
aD p13 fun b14 => (bif b14 then
(aX [(0, 1), (1, 1), (2, 1), (3, 1)] [.sl [] .nil, .sl [] .nil, .sl [] .nil, .sl [] .nil] []).bind fun p16 =>
(al true 3 q9 st10).bind fun p17 =>
bM (st10 = st10) <|
(au st.stk.length 4 q2 p16 st10).bind fun st18 =>
bM (((al true 3 q9 st18).bind fun p19 =>
some (Rs.ret p19, st18)) = some (Rs.ret p17, st18)) <|
(au st.stk.length 3 q4 p17 st18).bind fun st20 =>
some (Ex.ret, [q2, q4, p6], st20)
else
some (Ex.normal, [q2, q4, p6], st10)).bind fun r15 =>
yi r15.1 ((aX [(0, 1), (1, 1), (2, 1), (3, 3)] [.sl [] .nil, .v (.int .i64 0), .v (.int .i64 0), .v (.int .i64 0), .v (.int .i64 0), .v (.int .i64 0)] [(0, (ae r15.2.1 2))]).bind fun p21 =>
(cellsOf p21).bind fun b22 =>
let q24 : PV := .ptr false r15.2.2.stk.length 0
let st23 := r15.2.2.push b22
let q26 : PV := .ptr false st23.stk.length 0
let st25 := st23.push [.v (.pointer none)]
(au st.stk.length 1 q26 q24 st25).bind fun st27 =>
(ky (Fn.func 25) true [q26, (ae r15.2.1 0), (ae r15.2.1 1)]).bind fun p28 =>
qO 25 3 p28 fun cs29 =>
(al false 1 q26 st27).bind fun p30 =>
(call (.func 26) [ah p30] st27).bind fun r31 =>
aK r31 (fun p32 st33 =>
(aX [(0, 1), (1, 1), (2, 1)] [.v (.int .i64 0), .v (.int .i64 0), .v (.int .i64 0)] []).bind fun p37 =>
(au st.stk.length 4 (ae r15.2.1 0) p32 st33).bind fun st38 =>
(au st.stk.length 3 (ae r15.2.1 1) p37 st38).bind fun st39 =>
(al true 4 (ae r15.2.1 0) st39).bind fun p40 =>
(al true 3 (ae r15.2.1 1) st39).bind fun p41 =>
fin st.stk.length st.tk.length st.lp.length [p40, p41] st39) (fun t34 x35 st36 =>
(zH cs29 t34 x35 st36).bind fun st42 =>
(al true 4 (ae r15.2.1 0) st42).bind fun p43 =>
(al true 3 (ae r15.2.1 1) st42).bind fun p44 =>
fin st.stk.length st.tk.length st.lp.length [p43, p44] st42)) ((al true 4 (ae r15.2.1 0) r15.2.2).bind fun p45 =>
(al true 3 (ae r15.2.1 1) r15.2.2).bind fun p46 =>
fin st.stk.length st.tk.length st.lp.length [p45, p46] r15.2.2)
theorem vh (a0 : PV) (st : St) : E L (.func 10) [a0] st = S10 (E L) a0 st := (wx (L := L) (q := iZ.lh) (by kernel_rfl) _ _).trans (by kernel_rfl)
theorem Ay {s : St} {N : Nat} (hN : s.stk.length = N) {j off base sz : Nat} {bl : List Blk} {x : Blk} {cs : List PV} {tk : List (Nat × Nat)} {lp : List Aux} (hj : bl[j]? = some x) (hb : N + j < base) (hl : off + cs.length ≤ x.cs.length) (hz : cs.length = sz) (h0 : sz ≠ 0) (hs : cs.all o8 = true) (hk : aG cs = true) :
 au base sz (.ptr false (N + j) off) (.agg cs) (s.app bl tk lp) = some (s.app (bl.modify j fun y => ⟨laid x.cs off cs, y.tk⟩) tk lp) := by
 subst hN
 have h1 : (s.app bl tk lp).blk false (s.stk.length + j) = some x.cs := by
  show ((s.stk ++ bl)[s.stk.length + j]?).map Blk.cs = _
  rw [List.getElem?_append_right (by omega), show s.stk.length + j - s.stk.length = j by omega, hj]
  rfl
 have h3 : di (off + cs.length) x.cs.length = true := by rw [Nat.ble_eq]; exact hl
 have h5 : (ai cs.length sz && !ai sz 0) = true := by
  rw [hz, Nat.beq_refl]
  cases sz with
  | zero => exact absurd rfl h0
  | succ n => rfl
 have h6 : fC (s.stk.length + j) base = true := by rw [Nat.blt_eq]; exact hb
 simp only [au, AM.cellsOf, ag, putCells, h1, h3, hk, h5, h6, bn, cond_true, Bool.or_true, Bool.false_or, jh hs, iz]
attribute [local simp] cV cy bR bS cz eY fk ef db ec cZ ed da fj bT gQ dV gR gL gG AM.ae aP aQ ba aO aD AM.onG fJ cd ep Ex.bf cond_true cond_false cR cQ cP cO cN cT cM cU cS eg dc de cx cW AM.dj AM.cellsOf AM.av bP beq_true cK ak aA aZ bx bQ decide_true decide_false bI bA bn bz aY aC ay bu aR cX cY fg az bH bw bN cv dU dZ cG eu et set_set eB dy fG dz cF bC dx dw cE dv eA eC fA fB bD cf en fw dN aK aS aE AM.aV ah cL bL bq aW aN aM AM.part bg aL bY cc bZ bX bX.eK AM.dL bB cq dG fv aK laid aG aX cm
attribute [-simp] ag
attribute [local congr] dH
theorem sY (b : Bool) (x y z u v w : Int) : aT Tryd.prog b .neq 38 (.agg [.v (.int .i64 x), .v (.int .i64 y), .v (.int .i64 z)]) (.agg [.v (.int .i64 u), .v (.int .i64 v), .v (.int .i64 w)]) = some (.v (.bool (!((x == u) && ((y == v) && ((z == w) && true)))))) := by kernel_rfl
abbrev z3 : List PV := [.v (.int .i64 0), .v (.int .i64 0), .v (.int .i64 0)]
abbrev lD (A B F : List PV) (p : List PV) (N : Nat) : List Blk := [⟨A, []⟩, ⟨B, []⟩, ⟨F, []⟩, ⟨p, []⟩, ⟨[.ptr false (N + 3) 0], []⟩]
theorem CL {s : St} {N T Lb : Nat} (hN : s.stk.length = N) (hT : s.tk.length = T) (hL : s.lp.length = Lb) (F : List PV) (es : List (List PV)) (a d e q1 q2 : Int) :
 H47 (.ptr false (N + 4) 0) (.ptr false N 0) (.ptr false (N + 1) 0) (s.app (lD z4 z3 F (pcf es a d e q1 q2) N) [] []) = some (s.app (lD z4 [.v (.int .i64 e), .v (.int .i64 q1), .v (.int .i64 q2)] F (pcf es a d e q1 q2) N) [] []) := by
 have hlen : (s.app (lD z4 z3 F (pcf es a d e q1 q2) N) [] []).stk.length = N + 5 := by rw [cv, hN]; rfl
 have s1 := Ay hN (j := 0) (off := 0) (base := N + 5) (sz := 4) (bl := lD z4 z3 F (pcf es a d e q1 q2) N) (x := ⟨z4, []⟩) (cs := z4) (tk := []) (lp := []) rfl (by omega) (by decide) rfl (by decide) rfl rfl; have s2 := Ay hN (j := 1) (off := 0) (base := N + 5) (sz := 3) (bl := lD z4 z3 F (pcf es a d e q1 q2) N) (x := ⟨z3, []⟩) (cs := [.v (.int .i64 e), .v (.int .i64 q1), .v (.int .i64 q2)]) (tk := []) (lp := []) rfl (by omega) (aq 3) rfl (by decide) rfl rfl; have m1 : (lD z4 z3 F (pcf es a d e q1 q2) N).modify 0 (fun y => ⟨laid (⟨z4, []⟩ : Blk).cs 0 z4, y.tk⟩) = lD z4 z3 F (pcf es a d e q1 q2) N := rfl; have m2 : (lD z4 z3 F (pcf es a d e q1 q2) N).modify 1 (fun y => ⟨laid (⟨z3, []⟩ : Blk).cs 0 [.v (.int .i64 e), .v (.int .i64 q1), .v (.int .i64 q2)], y.tk⟩) = lD z4 [.v (.int .i64 e), .v (.int .i64 q1), .v (.int .i64 q2)] F (pcf es a d e q1 q2) N := rfl; rw [m1] at s1; rw [m2] at s2; unfold H47; rw [hlen]; simp only [lD, pcf, z4, z3, bx] at s1 s2 ⊢; simp [hN, hT, hL, s1, s2, aX, cm]
theorem sy {l : List UInt8} (hl : l.length < 100000) (st : St) : E L (.func 10) [str l] st = some (.tup [nO (dX l).1, .agg (vA (dX l).2)], st) := by
 have e46 := Cz (l := l) (by omega); unfold dX
 by_cases h0 : (oP l).1 = 0
 · rw [if_pos h0]
   have hlen : l.length ≤ 8192 := by
    have := h0; unfold oP at this; split at this
    · simp at this
    · omega
   obtain ⟨ts, hts⟩ : ∃ ts, iv l (1, 1) = .ok ts := by
    cases hL : iv l (1, 1) with
    | ok ts => exact ⟨ts, rfl⟩
    | err q => have := (zS hlen hL).2; rw [this] at h0; simp at h0
   have hlt := BP hlen hts; rw [hlt.1] at e46 ⊢; rw [hlt.2] at e46; obtain ⟨hr, hns, hn⟩ := BQ hlen hts
   have hne : ts ≠ [] := by
    obtain ⟨t0, q, e, _⟩ := hr.shape
    rw [e]; simp
   have hp := (vP (ts := ts) (by omega)).1; have h1 := vR hr (m := 100000) (n := 10000) (by omega) (by omega) ⟨hne, [], rfl⟩ hp
   have hA : pcA ts ts = 0 := by simp [pcA]
   cases hq : qT ts with
   | ok g l' =>
    rw [hq] at h1; rw [vh]; obtain ⟨N, T, Lb, hN, hT, hL⟩ := lens3 st
    conv => lhs; rw [← aj st]
    have e48 := h1.2 (N + 3) (st.app (lD z4 z3 z3 (pc ts ts 0) N) [] []) (by rw [cv, hN]; show N + 3 < N + 5; omega)
    have m1 : ∀ cs, (st.app (lD z4 z3 z3 (pc ts ts 0) N) [] []).af false (N + 3) cs = st.app (lD z4 z3 z3 cs N) [] [] := fun cs => by subst hN; exact iz st _ [] [] 3 cs
    rw [m1, m1] at e48; simp only [pc, pcf, lD, z3, z4, hA, nO, gZ] at e46 e48 ⊢
    generalize aw ts = es at *
    generalize jJ g.gS = rs at *
    generalize nms g.gls = gs at *
    generalize nh g.gP = fs at *
    generalize ny g.ths = hs at *
    simp [S10, sY, hN, hT, hL, e46, e48, yi, aX, cm, ky, qO, eM]
   | bad er q =>
    rw [hq] at h1; obtain ⟨a', d'', h1⟩ := h1; rw [vh]; obtain ⟨N, T, Lb, hN, hT, hL⟩ := lens3 st
    conv => lhs; rw [← aj st]
    have e48 := h1 (N + 3) (st.app (lD z4 z3 z3 (pc ts ts 0) N) [] []) (by rw [cv, hN]; show N + 3 < N + 5; omega)
    have m1 : ∀ cs, (st.app (lD z4 z3 z3 (pc ts ts 0) N) [] []).af false (N + 3) cs = st.app (lD z4 z3 z3 cs N) [] [] := fun cs => by subst hN; exact iz st _ [] [] 3 cs
    rw [m1, m1] at e48; have e47 := CL hN hT hL z3 (aw ts) a' d'' er q.1 q.2; rw [← CK] at e47; have ez : (jJ pg0.gS = [] ∧ nms pg0.gls = []) ∧ nh pg0.gP = [] ∧ ny pg0.ths = [] := ⟨⟨rfl, rfl⟩, rfl, rfl⟩; simp only [pc, pcf, lD, z3, z4, hA, nO, ez, gZ] at e46 e47 e48 ⊢
    generalize aw ts = es at *
    simp [S10, sY, hN, hT, hL, e46, e47, e48, yi, aX, cm, ky, qO, eM]; exact ⟨rfl, rfl, rfl, rfl⟩
 · rw [if_neg h0]
   have h0' : ¬ (((oP l).1 : Int) = 0) := by omega
   rw [vh]; obtain ⟨N, T, Lb, hN, hT, hL⟩ := lens3 st
   conv => lhs; rw [← aj st]
   have ez : (jJ pg0.gS = [] ∧ nms pg0.gls = []) ∧ nh pg0.gP = [] ∧ ny pg0.ths = [] := ⟨⟨rfl, rfl⟩, rfl, rfl⟩
   generalize oP l = f at *
   simp only [nO, ez]; simp [S10, sY, hN, hT, hL, e46, h0, h0', yi, aX, cm]; exact ⟨rfl, rfl, rfl, rfl⟩
end Go.Proofs.YtlhlijaondmccaaDoor.S
namespace Go.Proofs.YtlhlijaondmccaaDoor.S
open Go Go.AM Go.Proofs
attribute [local simp] cV cy bR bS cz eY fk ef db ec cZ ed da fj bT gQ dV gR gL gG AM.ae aP aQ ba aO aD AM.onG fJ cd ep Ex.bf cond_true cond_false cR cQ cP cO cN cT cM cU cS eg dc de cx cW AM.dj AM.cellsOf AM.av bP beq_true cK ak aA aZ bx bQ decide_true decide_false bI bA bn bz aY aC ay bu aR cX cY fg az bH bw bN cv dU dZ cG eu et set_set eB dy fG dz cF bC dx dw cE dv eA eC fA fB bD cf en fw dN aK aS aE AM.aV ah cL bL bq aW aN aM AM.part bg aL bY cc bZ bX bX.eK AM.dL bB cq dG fv aK laid aG aX cm
attribute [-simp] ag
attribute [local congr] dH
abbrev cA : List UInt8 := [116, 104, 114, 101, 97, 100, 32, 123, 32, 112, 114, 105, 110, 116, 32, 49, 32, 43, 32, 50, 32, 42, 32, 51, 59, 32, 125]
abbrev cB : List UInt8 := [116, 104, 114, 101, 97, 100, 32, 123, 32, 112, 114, 105, 110, 116, 32, 59, 32, 125]
def Dm : PV → List (List PV)
 | .sl es _ => es
 | _ => []
def SA : List PV := ((dX cA).1.ths.flatMap fun t => fa t.body).flatten
def KA (i : Nat) : List PV := (Dm (SA.getD 49 .u)).getD i []
theorem pA : (nO (dX cA).1, (dX cA).2) = (.agg [.sl [] .dead, .sl [] .dead, .sl [] .dead, .sl [[.sl [SA] .dead, int 1, int 1]] .dead], (0, 0, 0)) := by kernel_rfl
theorem pB : (nO (dX cB).1, (dX cB).2) = (.agg [.sl [] .dead, .sl [] .dead, .sl [] .dead, .sl [] .dead], (4, 1, 16)) := by kernel_rfl
theorem sA0 : SA[0]? = some (int 5) := by kernel_rfl
theorem Ey : SA[49]? = some (.sl [KA 0, KA 1] .dead) := by kernel_rfl
theorem sAl : SA.length = 58 := by kernel_rfl
theorem kAl : (KA 1).length = 9 := by kernel_rfl
theorem kA1 : (KA 1)[1]? = some (int 2) := by kernel_rfl
theorem la (b : Bool) (x y z u v w : Int) : aT Tryd.prog b .eql 38 (.agg [.v (.int .i64 x), .v (.int .i64 y), .v (.int .i64 z)]) (.agg [.v (.int .i64 u), .v (.int .i64 v), .v (.int .i64 w)]) = some (.v (.bool ((x == u) && ((y == v) && ((z == w) && true))))) := by kernel_rfl
theorem pf (st : St) : E L (.func 9) [] st = some (.v (.bool true), st) := by
 rw [DN]; obtain ⟨N, T, Lb, hN, hT, hL⟩ := lens3 st
 conv => lhs; rw [← aj (st)]
 have e1 : ∀ X, E L (.func 10) [str cA] X = _ := sy (by decide)
 have e2 : ∀ X, E L (.func 10) [str cB] X = _ := sy (by decide)
 have a1 := congrArg Prod.fst pA; have a2 := congrArg Prod.snd pA; have b1 := congrArg Prod.fst pB; have b2 := congrArg Prod.snd pB; simp only at a1 a2 b1 b2; rw [a1, a2] at e1; rw [b1, b2] at e2; clear a1 a2 b1 b2; have s0 := sA0; have s49 := Ey; have k1 := kA1; have sl := sAl; have kl := kAl
 generalize SA = s at *
 generalize KA 0 = k0 at *
 generalize KA 1 = k1' at *
 simp only [vA, aa, gZ] at e1 e2
 have s0' : ∀ h : 0 < s.length, s[0] = int 5 := fun h => (List.getElem_eq_iff h).2 s0
 have s49' : ∀ h : 49 < s.length, s[49] = .sl [k0, k1'] .dead := fun h => (List.getElem_eq_iff h).2 s49
 have k1q : ∀ h : 1 < k1'.length, k1'[1] = int 2 := fun h => (List.getElem_eq_iff h).2 k1
 simp [S9, s0', s49', k1q, la, e1, e2, s0, s49, k1, sl, kl, Dp, Dq, Dr, DU, DV, DW, aX, cm, AM.part, eT]
end Go.Proofs.YtlhlijaondmccaaDoor.S
namespace Go.Proofs.YtlhlijaondmccaaDoor.S
open Go Go.AM Go.Proofs
def dO (n : Nat) (w : List UInt8) : List UInt8 := match n with
 | 0 => []
 | n + 1 => w ++ dO n w
theorem vU (w : List UInt8) : ∀ n, dO n w ++ w = dO (n + 1) w
 | 0 => by simp [dO]
 | n + 1 => by
  show w ++ dO n w ++ w = w ++ dO (n + 1) w
  rw [List.append_assoc, vU w n]
theorem jK (w : List UInt8) : ∀ n, (dO n w).length = n * w.length
 | 0 => by simp [dO]
 | n + 1 => by rw [dO, bh, jK w n, Nat.succ_mul, Nat.add_comm]
abbrev d8 : List UInt8 := [116, 104, 114, 101, 97, 100, 32, 123]
abbrev d15 : List UInt8 := [116, 104, 114, 101, 97, 100, 32, 123, 32, 112, 114, 105, 110, 116, 32]
abbrev dAt : List UInt8 := [97, 116, 111, 109, 105, 99, 32, 123]
def dA (o c : List UInt8) (n : Nat) : List UInt8 := d15 ++ dO n o ++ [49] ++ dO n c ++ [59, 32, 125]
def dB (n : Nat) : List UInt8 := d8 ++ dO n dAt ++ dO n [125] ++ [125]
def dex (a n : Nat) : Nat × Nat × Nat := if n ≤ 11 then (0, 0, 0) else (10, 1, a)
theorem Bj : ((gg 26).all fun i => decide ((dX (dA [40] [41] (i + 0))).2 = dex 27 (i + 0))) = true := by kernel_rfl
theorem Bk : ((gg 26).all fun i => decide ((dX (dA [40] [41] (i + 26))).2 = dex 27 (i + 26))) = true := by kernel_rfl
theorem Bl : ((gg 26).all fun i => decide ((dX (dA [40] [41] (i + 52))).2 = dex 27 (i + 52))) = true := by kernel_rfl
theorem Bm : ((gg 26).all fun i => decide ((dX (dA [40] [41] (i + 78))).2 = dex 27 (i + 78))) = true := by kernel_rfl
theorem Bo : ((gg 26).all fun i => decide ((dX (dA [45] [] (i + 0))).2 = dex 27 (i + 0))) = true := by kernel_rfl
theorem Bp : ((gg 26).all fun i => decide ((dX (dA [45] [] (i + 26))).2 = dex 27 (i + 26))) = true := by kernel_rfl
theorem Bq : ((gg 26).all fun i => decide ((dX (dA [45] [] (i + 52))).2 = dex 27 (i + 52))) = true := by kernel_rfl
theorem Br : ((gg 26).all fun i => decide ((dX (dA [45] [] (i + 78))).2 = dex 27 (i + 78))) = true := by kernel_rfl
theorem Bs : ((gg 26).all fun i => decide ((dX (dB (i + 0))).2 = dex 104 (i + 0))) = true := by kernel_rfl
theorem Bt : ((gg 26).all fun i => decide ((dX (dB (i + 26))).2 = dex 104 (i + 26))) = true := by kernel_rfl
theorem Bu : ((gg 26).all fun i => decide ((dX (dB (i + 52))).2 = dex 104 (i + 52))) = true := by kernel_rfl
theorem Bv : ((gg 26).all fun i => decide ((dX (dB (i + 78))).2 = dex 104 (i + 78))) = true := by kernel_rfl
theorem vw {f : Nat → List UInt8} {a : Nat} (h0 : ((gg 26).all fun i => decide ((dX (f (i + 0))).2 = dex a (i + 0))) = true) (h1 : ((gg 26).all fun i => decide ((dX (f (i + 26))).2 = dex a (i + 26))) = true)
 (h2 : ((gg 26).all fun i => decide ((dX (f (i + 52))).2 = dex a (i + 52))) = true) (h3 : ((gg 26).all fun i => decide ((dX (f (i + 78))).2 = dex a (i + 78))) = true) {n : Nat} (h : n ≤ 100) : (dX (f n)).2 = dex a n := by
 have key : ∀ b, ((gg 26).all fun i => decide ((dX (f (i + b))).2 = dex a (i + b))) = true → b ≤ n → n < b + 26 → (dX (f n)).2 = dex a n := fun b hb h1 h2 => by
  have := of_decide_eq_true (dD.1 hb (n - b) (List.mem_range.2 (by omega)))
  rwa [show n - b + b = n by omega] at this
 by_cases a0 : n < 26
 · exact key 0 h0 (by omega) (by omega)
 by_cases a1 : n < 52
 · exact key 26 h1 (by omega) (by omega)
 by_cases a2 : n < 78
 · exact key 52 h2 (by omega) (by omega)
 · exact key 78 h3 (by omega) (by omega)
theorem Bn {n : Nat} (h : n ≤ 100) : (dX (dA [40] [41] n)).2 = dex 27 n ∧ (dX (dA [45] [] n)).2 = dex 27 n ∧ (dX (dB n)).2 = dex 104 n :=
 ⟨vw (f := dA [40] [41]) Bj Bk Bl Bm h, vw (f := dA [45] []) Bo Bp Bq Br h, vw Bs Bt Bu Bv h⟩
attribute [local simp] cV cy bR bS cz eY fk ef db ec cZ ed da fj bT gQ dV gR gL gG AM.ae aP aQ ba aO aD AM.onG fJ cd ep Ex.bf cond_true cond_false cR cQ cP cO cN cT cM cU cS eg dc de cx cW AM.dj AM.cellsOf AM.av bP beq_true cK ak aA aZ bx bQ decide_true decide_false bI bA bn bz aY aC ay bu aR cX cY fg az bH bw bN cv dU dZ cG eu et set_set eB dy fG dz cF bC dx dw cE dv eA eC fA fB bD cf en fw dN aK aS aE AM.aV ah cL bL bq aW aN aM AM.part bg aL bY cc bZ bX bX.eK AM.dL bB cq dG fv aK laid aG aX cm
attribute [-simp] ag
attribute [local congr] dH
theorem rN {n : Nat} (hn : n ≤ 100) (k : Int) (o c : List UInt8) (ho : o.length ≤ 8) (hc : c.length ≤ 8) {X : St} {N T Lb : Nat} (hN : X.stk.length = N) (hT : X.tk.length = T) (hL : X.lp.length = Lb) : ∀ j i, i + j = n →
 itE (S4.b0 (E L) itE N Lb) [.v (.int .i64 (n : Int)), .v (.int .i64 k), .v (.bool false), str o, str c, str (dO i o), str (dO i c), .v (.int .i64 (i : Int))] (X.app [] [] []) =
  some (.exit 0, [.v (.int .i64 (n : Int)), .v (.int .i64 k), .v (.bool false), str o, str c, str (dO n o), str (dO n c), .v (.int .i64 (n : Int))], X.app [] [] []) := by
 intro j
 induction j with
 | zero =>
  intro i h
  obtain rfl : i = n := by omega
  apply hG; simp [S4.b0, hN, hT, hL, eQ]
 | succ j ih =>
  intro i h
  have hlt : (i : Int) < (n : Int) := by omega
  have w1 : IntKind.i64.wrap ((i : Int) + 1) = ((i + 1 : Nat) : Int) := by rw [IntWalk.i64_in _ (by omega)]; omega
  have l1 := jK o i; have l2 := jK c i; have m1 : i * o.length ≤ 800 := Nat.le_trans (Nat.mul_le_mul (show i ≤ 100 by omega) ho) (by omega); have m2 : i * c.length ≤ 800 := Nat.le_trans (Nat.mul_le_mul (show i ≤ 100 by omega) hc) (by omega)
  have s1 : ∀ cst, aT Tryd.prog cst .add 9 (str (dO i o)) (str o) = some (str (dO (i + 1) o)) := fun cst => by rw [oh (by omega), vU]
  have s2 : ∀ cst, aT Tryd.prog cst .add 9 (str (dO i c)) (str c) = some (str (dO (i + 1) c)) := fun cst => by rw [oh (by omega), vU]
  have step := ih (i + 1) (by omega); rw [bW (vs' := [.v (.int .i64 (n : Int)), .v (.int .i64 k), .v (.bool false), str o, str c, str (dO (i + 1) o), str (dO (i + 1) c), .v (.int .i64 ((i + 1 : Nat) : Int))]) (st' := X.app [] [] [])]
  · exact step
  · generalize dO (i + 1) o = O1 at *
    generalize dO (i + 1) c = C1 at *
    generalize ((i + 1 : Nat) : Int) = q at w1 ⊢; simp [S4.b0, hN, hT, hL, hlt, w1, s1, s2, eQ]
theorem Ch {m : Nat} (hm : m ≤ 100) (k : Int) (h2 : k ≠ 2) (o c : List UInt8) (ho : o.length ≤ 8) (hc : c.length ≤ 8) (hk : k = 1 ∧ o = [45] ∧ c = [] ∨ k ≠ 1 ∧ o = [40] ∧ c = [41]) (hd : (dX (dA o c m)).2 = dex 27 m) (st : St) : E L (.func 4) [.v (.int .i64 (m : Int)), .v (.int .i64 k)] st = some (.v (.bool true), st) := by
 rw [wH]; obtain ⟨N, T, Lb, hN, hT, hL⟩ := lens3 st
 conv => lhs; rw [← aj (st)]
 have hit := rN hm k o c ho hc hN hT hL m 0 (by omega); have l1 := jK o m; have l2 := jK c m; have m1 : m * o.length ≤ 800 := Nat.le_trans (Nat.mul_le_mul hm ho) (by omega); have m2 : m * c.length ≤ 800 := Nat.le_trans (Nat.mul_le_mul hm hc) (by omega)
 have g1 : ¬ ((m : Int) < 0) := by omega
 have g2 : ¬ ((100 : Int) < (m : Int)) := by omega
 have f1 : ∀ X, E L (.func 10) [str (dA o c m)] X = _ := sy (by simp only [dA, bh, ak, aA]; omega)
 have x1 : ∀ cst, aT Tryd.prog cst .add 9 (str d8) (str (dO m o)) = some (str (d8 ++ dO m o)) := fun cst => oh (by simp only [ak, aA]; omega)
 have x2 : ∀ cst, aT Tryd.prog cst .add 9 (str (d8 ++ dO m o)) (str (dO m c)) = some (str (d8 ++ dO m o ++ dO m c)) := fun cst => oh (by simp only [bh, ak, aA]; omega)
 have x3 : ∀ cst, aT Tryd.prog cst .add 9 (str (d8 ++ dO m o ++ dO m c)) (str [125]) = some (str (d8 ++ dO m o ++ dO m c ++ [125])) := fun cst => oh (by simp only [bh, ak, aA]; omega)
 have y1 : ∀ cst, aT Tryd.prog cst .add 9 (str d15) (str (dO m o)) = some (str (d15 ++ dO m o)) := fun cst => oh (by simp only [ak, aA]; omega)
 have y2 : ∀ cst, aT Tryd.prog cst .add 9 (str (d15 ++ dO m o)) (str [49]) = some (str (d15 ++ dO m o ++ [49])) := fun cst => oh (by simp only [bh, ak, aA]; omega)
 have y3 : ∀ cst, aT Tryd.prog cst .add 9 (str (d15 ++ dO m o ++ [49])) (str (dO m c)) = some (str (d15 ++ dO m o ++ [49] ++ dO m c)) := fun cst => oh (by simp only [bh, ak, aA]; omega)
 have y4 : ∀ cst, aT Tryd.prog cst .add 9 (str (d15 ++ dO m o ++ [49] ++ dO m c)) (str [59, 32, 125]) = some (str (dA o c m)) := fun cst => oh (by simp only [bh, ak, aA]; omega)
 generalize dX (dA o c m) = P at *
 obtain ⟨G, q⟩ := P; simp only at hd; subst hd; simp only [nO, pgC, vA] at f1
 generalize dA o c m = D1 at *
 generalize d8 ++ dO m o ++ dO m c ++ [125] = D2 at *
 generalize d8 ++ dO m o ++ dO m c = D3 at *
 generalize d15 ++ dO m o ++ [49] ++ dO m c = D4 at *
 generalize d15 ++ dO m o ++ [49] = D5 at *
 generalize d15 ++ dO m o = D6 at *
 generalize d8 ++ dO m o = D7 at *
 generalize e8 : dO m o = D8 at *
 generalize e9 : dO m c = D9 at *
 simp only [dO, gZ] at hit
 by_cases hle : m ≤ 11
 · have hle' : (m : Int) ≤ 11 := by omega
   simp only [dex, if_pos hle] at f1
   rcases hk with ⟨rfl, rfl, rfl⟩ | ⟨hk, rfl, rfl⟩
   · simp [S4, hN, hT, hL, pf, g1, g2, hit, x1, x2, x3, y1, y2, y3, y4, f1, hle', la, aX, cm]
   · simp [S4, hN, hT, hL, pf, g1, g2, h2, hk, hit, x1, x2, x3, y1, y2, y3, y4, f1, hle', la, aX, cm]
 · have hle' : ¬ ((m : Int) ≤ 11) := by omega
   simp only [dex, if_neg hle] at f1
   rcases hk with ⟨rfl, rfl, rfl⟩ | ⟨hk, rfl, rfl⟩
   · simp [S4, hN, hT, hL, pf, g1, g2, hit, x1, x2, x3, y1, y2, y3, y4, f1, hle', la, aX, cm]
   · simp [S4, hN, hT, hL, pf, g1, g2, h2, hk, hit, x1, x2, x3, y1, y2, y3, y4, f1, hle', la, aX, cm]
theorem Dj {m : Nat} (hm : m ≤ 100) (hd : (dX (dB m)).2 = dex 104 m) (st : St) : E L (.func 4) [.v (.int .i64 (m : Int)), .v (.int .i64 2)] st = some (.v (.bool true), st) := by
 rw [wH]; obtain ⟨N, T, Lb, hN, hT, hL⟩ := lens3 st
 conv => lhs; rw [← aj (st)]
 have hit := rN hm 2 dAt [125] (by decide) (by decide) hN hT hL m 0 (by omega); have l1 := jK dAt m; have l2 := jK [125] m; simp only [ak, aA] at l1 l2
 have g1 : ¬ ((m : Int) < 0) := by omega
 have g2 : ¬ ((100 : Int) < (m : Int)) := by omega
 have f1 : ∀ X, E L (.func 10) [str (dB m)] X = _ := sy (by simp only [dB, bh, ak, aA]; omega)
 have x1 : ∀ cst, aT Tryd.prog cst .add 9 (str d8) (str (dO m dAt)) = some (str (d8 ++ dO m dAt)) := fun cst => oh (by simp only [ak, aA]; omega)
 have x2 : ∀ cst, aT Tryd.prog cst .add 9 (str (d8 ++ dO m dAt)) (str (dO m [125])) = some (str (d8 ++ dO m dAt ++ dO m [125])) := fun cst => oh (by simp only [bh, ak, aA]; omega)
 have x3 : ∀ cst, aT Tryd.prog cst .add 9 (str (d8 ++ dO m dAt ++ dO m [125])) (str [125]) = some (str (dB m)) := fun cst => oh (by simp only [bh, ak, aA]; omega)
 generalize dX (dB m) = P at *
 obtain ⟨G, q⟩ := P; simp only at hd; subst hd; simp only [nO, pgC, vA] at f1
 generalize dB m = D1 at *
 generalize d8 ++ dO m dAt ++ dO m [125] = D3 at *
 generalize d8 ++ dO m dAt = D7 at *
 generalize e8 : dO m dAt = D8 at *
 generalize e9 : dO m [125] = D9 at *
 simp only [dO, gZ] at hit
 by_cases hle : m ≤ 11
 · have hle' : (m : Int) ≤ 11 := by omega
   simp only [dex, if_pos hle] at f1; simp [S4, hN, hT, hL, pf, g1, g2, hit, x1, x2, x3, f1, hle', la, aX, cm]
 · have hle' : ¬ ((m : Int) ≤ 11) := by omega
   simp only [dex, if_neg hle] at f1; simp [S4, hN, hT, hL, pf, g1, g2, hit, x1, x2, x3, f1, hle', la, aX, cm]
theorem kQ (n k : Int) {w1 : Prop} (_ : w1) {w2 : Prop} (_ : w2) (st : St) : E L (.func 4) [.v (.int .i64 n), .v (.int .i64 k)] st = some (.v (.bool true), st) := by
 by_cases h1 : n < 0
 · have hX : True := trivial
   rw [wH]; obtain ⟨N, T, Lb, hN, hT, hL⟩ := lens3 st
   conv => lhs; rw [← aj (st)]
   simp [S4, hN, hT, hL, pf, h1]
 by_cases h2 : 100 < n
 · have hX : True := trivial
   rw [wH]; obtain ⟨N, T, Lb, hN, hT, hL⟩ := lens3 st
   conv => lhs; rw [← aj (st)]
   simp [S4, hN, hT, hL, pf, h1, h2]
 obtain ⟨m, rfl⟩ : ∃ m : Nat, n = m := ⟨n.toNat, by omega⟩
 have hm : m ≤ 100 := by omega
 obtain ⟨d1, d2, d3⟩ := Bn hm
 by_cases k2 : k = 2
 · subst k2; exact Dj hm d3 st
 by_cases k1 : k = 1
 · exact Ch hm k k2 [45] [] (by decide) (by decide) (.inl ⟨k1, rfl, rfl⟩) d2 st
 · exact Ch hm k k2 [40] [41] (by decide) (by decide) (.inr ⟨k1, rfl, rfl⟩) d1 st
end Go.Proofs.YtlhlijaondmccaaDoor.S
namespace Go.Proofs.YtlhlijaondmccaaDoor
open Go Go.AM Go.ChangeShapes Go.WideShapes Go.ChangeAt Go.RowKit
theorem own : ownKnob Tryd.prog.godebug = none := by kernel_rfl
theorem rz {H : Type} {enc : TypeId × Value → H} {a : Assume} {C : Checked} {os : Os} {f : FuncId} {fn : Func} {s : ChangeSpec} {conds : List PathCond} {apart fresh handsOn again : Bool} {X : World → Array Value → Prop}
 (hX : ∀ (w w' : World) (args : Array Value), w.heap = w'.heap → X w args → X w' args)
 (own : ownKnob C.prog.godebug = none) (started : os.Started) (noInit : C.prog.inits.idxOf? f = none) (hfn : C.prog.funcs[f]? = some fn)
 (witness : ∃ (w : World) (tape : Tape) (i : Input), w.os = os ∧ (w.forCall tape i).Shaped C.prog ∧ i.vars = [] ∧ Input.okWide C.prog (w.forCall tape i) .any w.heap.size f i ∧
  ((s.pre enc C.prog fn conds apart (w.forCall tape i).memory i.args ∧ X (w.forCall tape i).memory i.args) ∧ sizedMet enc C.prog fn (OpenSpec.ofChange s) apart (w.forCall tape i).memory i.args) ∧ a.holds C.prog (lone (Frame.enter C.prog f i.args .normal) [] (w.forCall tape i)))
 (contract : ∀ (W : World) (base : Nat) (args : Array Value) (ds gs : List (DataW H)) (before : List MemPlace),
  (∀ (j : Nat) t v, fn.params[j]? = some t → args[j]? = some v → Value.okWide C.prog W .any base t v) →
  DataW.Whole enc C.prog fn.params.toList s.vars apart W args.toList ds gs before → X W args → W.ShapedOpen C.prog →
  Calls C.prog f args W fun e W' => ∃ v, e = .returned v ∧ s.post enc C.prog fn apart fresh handsOn again W args v W') :
 ReturnsInHanded a C os f .any (fun w args => (s.pre enc C.prog fn conds apart w args ∧ X w args) ∧ sizedMet enc C.prog fn (OpenSpec.ofChange s) apart w args) (s.post enc C.prog fn apart fresh handsOn again) := by
 refine returnsInHanded_of_calls own started noInit witness ?_; intro w tape i _ hsh _ hok hpre _; obtain ⟨_, _, _, fn', hfn', _, _, _, _, hval⟩ := hok; have e : fn' = fn := Option.some.inj (hfn'.symm.trans hfn); subst e; obtain ⟨⟨⟨ds, gs, before, hw, hc⟩, hx⟩, hz⟩ := hpre; have hw' := DataW.Whole.of_heap (w' := w.forCall tape i) (by rfl) hw
 refine (contract (w.forCall tape i) w.heap.size i.args ds gs before hval hw' (hX _ _ _ (by rfl) hx) hsh).mono fun e W' ⟨v, he, hp⟩ => ?_
 subst he; exact ChangeSpec.post_blind hp
theorem DR : Tryd.prog.globalNamed "strconv.ErrSyntax" = some 2 := by kernel_rfl
theorem DQ : Tryd.prog.globalNamed "strconv.ErrRange" = some 3 := by kernel_rfl
theorem Ef : (Tryd.prog.globals[2]?).map (·.type) = some 110 := by kernel_rfl
theorem Ee : (Tryd.prog.globals[3]?).map (·.type) = some 110 := by kernel_rfl
theorem Ep : Tryd.prog.globalNamed "internal/strconv.uint64pow10" = some 1 := by kernel_rfl
theorem Eg : (Tryd.prog.globals[1]?).map (·.type) = some 206 := by kernel_rfl
theorem star : "*errors.errorString" = "*" ++ "errors.errorString" := by decide
theorem Ct (u : TypeId) (h : Tryd.prog.typeName? 3 u = some "*errors.errorString") : u = 216 :=
 typeName_ptr_named (nm := "errors.errorString") (by rw [← star]; kernel_rfl) (by kernel_rfl) (by decide) u (by rw [← star]; exact h)
theorem wQ {W : World} {g o : Nat} {v : Value} (h : W.cell? ⟨g, o, none⟩ = some v) : g < W.heap.size := by
 unfold World.cell? at h
 cases hb : W.heap[g]? with
 | none => simp [hb] at h
 | some x => exact (Array.getElem?_eq_some_iff.1 hb).1
theorem Dl {W : World} (hs : W.ShapedOpen Tryd.prog) (hL : laidMetH Tryd.prog Rows.parseDeepRow.laid W) : ∃ gv : GV, S.Gvs gv ∧ lG gv W (zq W) := by
 rw [MakeChecks.laidMetH_plain _ _ _ (by kernel_rfl)] at hL
 have hT : Lib.TabIs Tryd.prog W "internal/strconv.uint64pow10" .u64 Lib.pow10Tab := Lib.tabIs_of_head Ep Eg Tryd.underlying206 Tryd.underlying45 (by kernel_rfl) (by kernel_rfl) hL.tail.tail
 obtain ⟨a1, s1, hv1, _⟩ := laid_sentinel hL.tail.tail.tail DQ Ee Tryd.underlying110 Ct Tryd.underlying216 Tryd.underlying218 rfl rfl Tryd.underlying9 (by kernel_rfl) (by kernel_rfl); obtain ⟨a2, s2, hv2, _⟩ := laid_sentinel hL.tail.tail.tail.tail DR Ef Tryd.underlying110 Ct Tryd.underlying216 Tryd.underlying218 rfl rfl Tryd.underlying9 (by kernel_rfl) (by kernel_rfl); obtain ⟨m, hm⟩ := cell_of_shapedOpen_int (g := 0) (k := .i64) (zero := #[.int .i64 0]) (t := 3) hs (of_decide_eq_true (by kernel_rfl)) (by kernel_rfl) rfl (by kernel_rfl) (by kernel_rfl) Tryd.underlying3
 have c1 : W.cell? ⟨2, 0, none⟩ = some (.iface 216 (.pointer (some a2))) := by simpa using World.var?_cell DR hv2 0
 have c2 : W.cell? ⟨3, 0, none⟩ = some (.iface 216 (.pointer (some a1))) := by simpa using World.var?_cell DQ hv1 0
 refine ⟨⟨fun g o => if g < 6 ∧ o = 0 then W.cell? ⟨g, o, none⟩ else none, W⟩, ⟨⟨m, ?_⟩, ⟨.iface 216 (.pointer (some a2)), ?_, .inr ⟨216, .pointer (some a2), rfl⟩⟩, ⟨.iface 216 (.pointer (some a1)), ?_, .inr ⟨216, .pointer (some a1), rfl⟩⟩, hT, ?_⟩, fun g o v h => ?_, aq _, Below.refl _ _⟩
 · show (if 0 < 6 ∧ 0 = 0 then W.cell? ⟨0, 0, none⟩ else none) = _
   rw [if_pos (by omega)]; exact hm
 · show (if 2 < 6 ∧ 0 = 0 then W.cell? ⟨2, 0, none⟩ else none) = _
   rw [if_pos (by omega)]; exact c1
 · show (if 3 < 6 ∧ 0 = 0 then W.cell? ⟨3, 0, none⟩ else none) = _
   rw [if_pos (by omega)]; exact c2
 · exact wQ c2
 · have h' : (if g < 6 ∧ o = 0 then W.cell? ⟨g, o, none⟩ else none) = some v := h
   split at h'
   · exact ⟨wQ h', h'⟩
   · cases h'
theorem zr (os : Os) (args : Array Value) : laidMetH Tryd.prog Rows.parseDeepRow.laid ((World.doorLaid Tryd.prog 110 os).forCall (fun _ _ => 0) ⟨#[], args, []⟩).memory :=
 laidMetH_of_parts3 (fuel := 8) (laidMet_of_run' 65 (by kernel_rfl) (by kernel_rfl)) (by kernel_rfl) (by kernel_rfl)
end Go.Proofs.YtlhlijaondmccaaDoor
namespace Go.Proofs.YtlhlijaondmccaaDoor.Pure
open Go Go.AM Go.Proofs
theorem kQ (n : Int) {w1 : Prop} (h1 : w1) (m : Int) {w2 : Prop} (h2 : w2) : ∃ k st', evF S.L k (.func 4) [.v (.int .i64 n), .v (.int .i64 m)] st0 = some (.v (.bool true), st') := by
 obtain ⟨k, hk⟩ := DI (S.kQ n m h1 h2 st0); exact ⟨k, st0, hk⟩
end Go.Proofs.YtlhlijaondmccaaDoor.Pure
namespace Go.Proofs.YtlhlijaondmccaaDoor.sd
open Go Go.AM Go.ChangeShapes Go.WideShapes Go.ChangeAt Go.RowKit
open Go.ChangeMaps (open_string shut_string)
theorem lifted (os : Os) (started : os.Started) (H : Type) (enc : TypeId × Value → H) :
 ReturnsInHanded {} Tryd.checked os 4 .any (fun w args => (Rows.parseDeepSpec.pre enc Tryd.prog Tryd.f4 [] false w args ∧ laidMetH Tryd.prog Rows.parseDeepRow.laid w) ∧ sizedMet enc Tryd.prog Tryd.f4 (OpenSpec.ofChange Rows.parseDeepSpec) false w args)
  (Rows.parseDeepSpec.post enc Tryd.prog Tryd.f4 false true false false) := by
 refine rz (C := Tryd.checked) (X := fun w _ => laidMetH Tryd.prog Rows.parseDeepRow.laid w) (fun _ _ _ hh h => h.of_heap hh) own started (by kernel_rfl) Tryd.func4
  (ChangeSpec.witness_shaped (enc := enc) (C := Tryd.checked) (os := os) (X := fun w _ => laidMetH Tryd.prog Rows.parseDeepRow.laid w) false (World.doorLaid Tryd.prog 110 os) #[.int .i64 0, .int .i64 0] 8 rfl (World.shaped_of_RefB (by kernel_rfl) (by kernel_rfl)) (by kernel_rfl) (by kernel_rfl) (by kernel_rfl) (zr os _)) ?_
 intro W base args ds gs before hval0 hW hL hshape
 have hval : ∀ (j : Nat) t v, Tryd.f4.params[j]? = some t → args[j]? = some v → Value.okWide Tryd.prog W .any base t v := hval0
 have hW' := hW; obtain ⟨p, q, hA0, hV, rfl, hfz, hnd⟩ := hW; have hA : DataW.TrodAll enc Tryd.prog W 0 (fun _ => true) true Tryd.f4.params.toList args.toList ds p := hA0; rw [Tryd.params4] at hA hval; obtain ⟨v0, vs0, d0, ds0, p0, q0, hargs, rfl, rfl, h0, r0⟩ := trodAll_cons hA; obtain ⟨v1, vs1, d1, ds1, p1, q1, rfl, rfl, rfl, h1, r1⟩ := trodAll_cons r0; obtain ⟨rfl, rfl, rfl⟩ := trodAll_nil r1
 obtain rfl : args = #[v0, v1] := by cases args; simp_all
 obtain ⟨rfl, rfl⟩ := trodVars_none hV; obtain ⟨a0, rfl, rfl, rfl, w0⟩ := open_int Tryd.underlying3 (hval 0 3 v0 rfl rfl) h0; obtain ⟨a1, rfl, rfl, rfl, w1⟩ := open_int Tryd.underlying3 (hval 1 3 v1 rfl rfl) h1; clear hA0 hval0; obtain ⟨gv, hgv, hgi⟩ := Dl hshape hL; obtain ⟨kf, st', hev⟩ := Pure.kQ a0 w0 a1 w1
 refine (xY (xs := #[.int .i64 a0, .int .i64 a1]) (S.ok hgv) hev hgi rfl ?_).mono fun e W' ⟨he, bel⟩ => ?_
 · intro i x p hx hp
   match i, hx, hp with
   | 0, hx, hp => cases hx; cases hp; exact xv _ _ _ _
   | 1, hx, hp => cases hx; cases hp; exact xv _ _ _ _
   | i + 2, hx, hp => simp at hx
 subst he; exact ⟨_, rfl, _, _, _, [], _, [], hW', trodAll_mk1 (shut_bool Tryd.underlying4 _), (trodAll_cons_mk (shut_int Tryd.underlying3 w0) (trodAll_cons_mk (shut_int Tryd.underlying3 w1) trodAll_mk0)), rfl, bel.frame _, fun h => by cases h⟩
theorem over : Rows.parseDeepRow.holds Tryd.pinned (OpenSpec.ofChange Rows.parseDeepSpec) :=
 OpenClaim.holds_of_wide 4 Tryd.f4 rfl rfl rfl rfl rfl rfl rfl ⟨rfl, rfl, rfl, rfl, rfl⟩ rfl rfl rfl rfl rfl (by kernel_rfl) Tryd.func4 (by kernel_rfl)
  (of_decide_eq_true (by kernel_rfl)) (by unfold Func.isWrapper; first | (rw [if_pos (by decide +kernel)]; kernel_rfl) | (rw [if_neg (by decide +kernel)]; exact ⟨rfl, rfl⟩))
  (fun os started H enc _ => lifted os started H enc)
theorem DP : Rows.ParseDeepCardSaid :=
 Claim7.holds_tied_plain_at .later [] [.data, .data, .data, .sentinel, .sentinel] true (true, "fa14c5bee940d3225b8df54b2ac2da5d3b75d6be3c2368ae27aca9884776013a") true
  over (fun _ h => by cases h) (by kernel_rfl) (fun _ h => by cases h) parseDeep_row_tie rfl ⟨rfl, rfl⟩ (by kernel_rfl) rfl
  (fun f fn hf hfn => by
   obtain rfl : f = 4 := Option.some.inj ((show Tryd.prog.funcNamed "padlock/padlocklaw05.ParseDeep" = some 4 by kernel_rfl).symm.trans hf) |>.symm
   obtain rfl : fn = Tryd.f4 := (Option.some.inj (Tryd.func4.symm.trans hfn)).symm
   exact ⟨by kernel_rfl, fun j t ht => by
    rw [Tryd.params4] at ht
    have hm : t ∈ [3] := by simpa using Array.mem_of_getElem? ht
    have hall : ([3].all fun u => !Tryd.prog.wantsStandIn u) = true := by kernel_rfl
    exact (show Tryd.prog.wantsStandIn t = false by simpa using dD.1 hall t hm)⟩)
  (by kernel_rfl)
#print axioms DP
end Go.Proofs.YtlhlijaondmccaaDoor.sd
namespace Go.Proofs.YtlhlijaondmccaaDoor
theorem parseDeep_holds : Rows.ParseDeepCardSaid := sd.DP
end Go.Proofs.YtlhlijaondmccaaDoor
