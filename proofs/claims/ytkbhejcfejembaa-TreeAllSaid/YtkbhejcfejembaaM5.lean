/- The abstract machine: stores into a block, and rows that grow. No condition. -/
import Derived.Test.YtkbhejcfejembaaM4
set_option linter.all false
set_option linter.unusedVariables false
namespace Go.AM
open Go Go.RowKit

def laidA (c : Array Value) (off : Nat) : List Value → Array Value
  | [] => c
  | v :: vs => laidA (c.setIfInBounds off v) (off + 1) vs

theorem laidA_size : ∀ (vs : List Value) (c : Array Value) (off : Nat), (laidA c off vs).size = c.size
  | [], _, _ => rfl
  | v :: vs, c, off => by rw [laidA, laidA_size vs]; simp

theorem laidA_get : ∀ (vs : List Value) (c : Array Value) (off i : Nat), off + vs.length ≤ c.size →
    (laidA c off vs)[i]? = if off ≤ i ∧ i < off + vs.length then vs[i - off]? else c[i]?
  | [], c, off, i, _ => by rw [laidA, if_neg (by simp <;> omega)]
  | v :: vs, c, off, i, h => by
    simp only [List.length_cons] at h ⊢
    rw [laidA, laidA_get vs _ (off + 1) i (by simp; omega)]
    by_cases h1 : off + 1 ≤ i ∧ i < off + 1 + vs.length
    · rw [if_pos h1, if_pos (by omega), show i - off = (i - (off + 1)) + 1 by omega, List.getElem?_cons_succ]
    · rw [if_neg h1]
      by_cases h2 : i = off
      · subst h2
        rw [if_pos (by omega), Nat.sub_self, Array.getElem?_setIfInBounds_self_of_lt (by omega), List.getElem?_cons_zero]
      · rw [if_neg (by omega), Array.getElem?_setIfInBounds_ne (Ne.symm h2)]

theorem laid_length : ∀ (cs : List PV) (l : List PV) (off : Nat), (laid l off cs).length = l.length
  | [], _, _ => rfl
  | c :: cs, l, off => by rw [laid, laid_length cs]; simp

theorem laid_get : ∀ (cs : List PV) (l : List PV) (off i : Nat), off + cs.length ≤ l.length →
    (laid l off cs)[i]? = if off ≤ i ∧ i < off + cs.length then cs[i - off]? else l[i]?
  | [], l, off, i, _ => by rw [laid, if_neg (by simp <;> omega)]
  | v :: vs, l, off, i, h => by
    simp only [List.length_cons] at h ⊢
    rw [laid, laid_get vs _ (off + 1) i (by simp; omega)]
    by_cases h1 : off + 1 ≤ i ∧ i < off + 1 + vs.length
    · rw [if_pos h1, if_pos (by omega), show i - off = (i - (off + 1)) + 1 by omega, List.getElem?_cons_succ]
    · rw [if_neg h1]
      by_cases h2 : i = off
      · subst h2
        rw [if_pos (by omega), Nat.sub_self, List.getElem?_set_self (by omega), List.getElem?_cons_zero]
      · rw [if_neg (by omega), List.getElem?_set_ne (Ne.symm h2)]

theorem setCell_heap (w : World) (b o : Nat) (v : Value) (B : Nat) : (w.setCell ⟨b, o, none⟩ v).heap[B]? =
    if B = b then (match w.heap[b]? with | some (.cells c e fr) => some (.cells (c.setIfInBounds o v) e fr) | x => x) else w.heap[B]? := by
  simp only [World.setCell, Array.getElem?_modify]
  by_cases h : b = B
  · subst h
    simp only [if_true]
    cases w.heap[b]? with
    | none => rfl
    | some x => cases x <;> rfl
  · rw [if_neg h, if_neg (Ne.symm h)]

theorem setCells_heap : ∀ (vs : List Value) (w : World) (b o B : Nat), (w.setCells b o vs).heap[B]? =
    if B = b then (match w.heap[b]? with | some (.cells c e fr) => some (.cells (laidA c o vs) e fr) | x => x) else w.heap[B]?
  | [], w, b, o, B => by
    simp only [World.setCells, laidA]
    split
    · rename_i h; subst h; split <;> rename_i h <;> simp [h]
    · rfl
  | v :: vs, w, b, o, B => by
    rw [World.setCells, setCells_heap vs, setCell_heap, setCell_heap]
    simp only [if_true]
    by_cases h : B = b
    · rw [if_pos h, if_pos h]
      cases w.heap[b]? with
      | none => rfl
      | some x => cases x <;> rfl
    · rw [if_neg h, if_neg h, if_neg h]

theorem setCells_size (w : World) (b : Nat) : ∀ (vs : List Value) (o : Nat) , (w.setCells b o vs).heap.size = w.heap.size := by
  intro vs
  induction vs generalizing w with
  | nil => intro o; rfl
  | cons v vs ih => intro o; rw [World.setCells, ih]; simp [World.setCell]

/-- Cells of a block that is not read in another place may be overwritten. -/
theorem below_set {N B : Nat} (hB : N ≤ B) : ∀ (vs : List Value) (off : Nat) (w : World), Below N w (w.setCells B off vs)
  | [], _, _ => Below.refl _ _
  | v :: vs, off, w => ((Below.refl N w).setCell (p := ⟨B, off, none⟩) hB v).trans (below_set hB vs (off + 1) _)

theorem setCells_shape (w : World) (b off : Nat) (vs : List Value) {B : Nat} {arr : Array Value} {elem : TypeId} {fr : Nat × Nat} (h : w.heap[B]? = some (.cells arr elem fr)) :
    (w.setCells b off vs).heap[B]? = some (.cells (if B = b then laidA arr off vs else arr) elem fr) := by
  rw [setCells_heap]
  by_cases e : B = b
  · subst e; rw [if_pos rfl, if_pos rfl, h]
  · rw [if_neg e, if_neg e]; exact h
theorem setCells_other (w : World) (b off : Nat) (vs : List Value) {B : Nat} {ob : Obj} (h : w.heap[B]? = some ob) (ho : ∀ arr elem fr, ob ≠ .cells arr elem fr) :
    (w.setCells b off vs).heap[B]? = some ob := by
  rw [setCells_heap]
  by_cases e : B = b
  · subst e
    rw [if_pos rfl, h]
    cases ob <;> first | rfl | exact absurd rfl (ho _ _ _)
  · rw [if_neg e]; exact h

theorem Ext.of_set {w : World} {C : Ctx} {B off : Nat} {vs : List Value} (h : ∀ i, off ≤ i → i < off + vs.length → ¬ C.S B i) (hN : vs = [] ∨ C.N ≤ B) : Ext w C (w.setCells B off vs) C := by
  refine ⟨by rw [setCells_size]; exact Nat.le_refl _, rfl, (by
    rcases hN with rfl | hN
    · exact Below.refl _ _
    · exact below_set hN vs off w), fun _ _ x => x, ?_, fun _ _ _ x => x, fun _ _ B f to e _ x => ⟨B, f, to, e, x, Nat.le_refl _, fun _ => ⟨rfl, rfl, rfl⟩⟩, fun _ _ x => x, ?_, ?_⟩
  · intro B' o x
    refine World.cell?_setCells_out B vs off w _ fun h1 _ => ?_
    simp only at h1 ⊢
    subst h1
    by_cases q : off ≤ o ∧ o < off + vs.length
    · exact absurd x (h o q.1 q.2)
    · omega
  · intro a b B' x arr elem fr y
    refine ⟨_, _, _, setCells_shape w B off vs y, ?_⟩
    split
    · exact laidA_size _ _ _
    · rfl
  · intro D x
    exact setCells_other w B off vs x (by intro _ _ _ q; cases q)

theorem spare_set {w : World} {C : Ctx} {B off : Nat} {vs : List Value} {B' o : Nat} (x : spare w C B' o) : spare (w.setCells B off vs) C B' o := by
  obtain ⟨h1, h2, arr, elem, fr, h3, h4, h5⟩ := x
  refine ⟨h1, h2, _, _, _, setCells_shape w B off vs h3, ?_, h5⟩
  split
  · rw [laidA_size]; exact h4
  · exact h4

section
variable {w : World} {C : Ctx} {st : St} {bs : List (Nat × Nat × Nat)}

/-- A block's cells are written, and what is known of them is told anew. -/
theorem Sim.put (H : Sim w C st bs) {h : Bool} {b B off : Nat} {old ds : List PV} {vs : List Value} {arr : Array Value} {elem : TypeId} {fr : Nat × Nat}
    (hσ : C.σ h b = some B) (hb : st.blk h b = some old) (hB : w.heap[B]? = some (.cells arr elem fr)) (hl : ds.length ≤ arr.size) (hone : ∀ v ∈ vs, v.oneCell' = true) (hin : off + vs.length ≤ arr.size)
    (hne : old ≠ [] ∨ vs = [] ∧ ds = [])
    (hrep : ∀ (o : Nat) (x : Value) (p : PV), (laidA arr off vs)[o]? = some x → ds[o]? = some p → Rep w C x p)
    (hcut : ∀ m t l, (m, t, l) ∈ bs → (h = true ∨ b < m) → ∀ (o : Nat) (x : Value) (p : PV), (laidA arr off vs)[o]? = some x → ds[o]? = some p → Rep w (C.cut m t l) x p) :
    Sim (w.setCells B off vs) C (st.setBlk h b ds) bs ∧ Ext w C (w.setCells B off vs) C := by
  obtain ⟨B', arr', elem', fr', a1, a2, a3, a4, a5, a6, a7, a8⟩ := H.blk h b old hb
  rw [hσ] at a1
  obtain rfl := Option.some.inj a1
  rw [hB] at a2
  obtain ⟨rfl, rfl, rfl⟩ : arr = arr' ∧ elem = elem' ∧ fr = fr' := by cases a2; exact ⟨rfl, rfl, rfl⟩
  have hx : Ext w C (w.setCells B off vs) C := Ext.of_set (fun i k1 k2 => by
    rcases hne with hne | ⟨rfl, _⟩
    · exact a5 hne i
    · simp at k2; omega) (Or.inr (H.low.2.1 _ _ _ hσ))
  refine ⟨⟨?_, ?_, ?_, ?_, ?_, ?_, H.disj, ?_, ⟨by rw [setCells_size]; exact H.low.1, H.low.2⟩, ?_, ?_, H.lpinj⟩, hx⟩
  · intro h' b' es hd
    rw [blk_setBlk st h b _ h' b' hb] at hd
    by_cases e : h' = h ∧ b' = b
    · obtain ⟨rfl, rfl⟩ := e
      rw [if_pos ⟨rfl, rfl⟩] at hd
      obtain rfl := Option.some.inj hd
      refine ⟨B, laidA arr off vs, elem, fr, hσ, ?_, ?_, a4, ?_, ?_, fun o x p hx' hp => (hrep o x p hx' hp).mono hx, fun m t l hm hbm o x p hx' hp => (hcut m t l hm hbm o x p hx' hp).mono (hx.cut m t l)⟩
      · rw [setCells_heap, if_pos rfl, hB]
      · rw [laidA_size]; exact hl
      · intro q
        rcases hne with hne | ⟨_, rfl⟩
        · exact a5 hne
        · exact absurd rfl q
      · intro o x hx'
        rw [laidA_get vs arr off o hin] at hx'
        split at hx'
        · exact hone x (List.mem_of_getElem? hx')
        · exact a6 o x hx'
    · rw [if_neg e] at hd
      obtain ⟨B2, arr2, elem2, fr2, c1, c2, c3, c4, c5, c6, c7, c8⟩ := H.blk h' b' es hd
      by_cases hBB : B2 = B
      · subst hBB
        rcases H.inj _ _ _ _ _ c1 hσ with q | q | q
        · exact absurd q e
        · rw [hd] at q
          obtain rfl := Option.some.inj q
          refine ⟨B2, _, _, _, c1, setCells_shape w B2 off vs c2, Nat.zero_le _, c4, fun q => absurd rfl q, ?_, by simp, by simp⟩
          rw [c2] at hB
          cases hB
          intro o x hx'
          rw [if_pos rfl, laidA_get vs arr off o hin] at hx'
          split at hx'
          · exact hone x (List.mem_of_getElem? hx')
          · exact a6 o x hx'
        · rw [hb] at q
          obtain rfl := Option.some.inj q
          rcases hne with hne | ⟨rfl, rfl⟩
          · exact absurd rfl hne
          · exact ⟨B2, arr2, elem2, fr2, c1, c2, c3, c4, c5, c6, c7, c8⟩
      · refine ⟨B2, arr2, elem2, fr2, c1, ?_, c3, c4, c5, c6, fun o x p hx' hp => (c7 o x p hx' hp).mono hx, fun m t l hm hbm o x p hx' hp => (c8 m t l hm hbm o x p hx' hp).mono (hx.cut m t l)⟩
        rw [setCells_heap, if_neg hBB]; exact c2
  · intro h' b' B2 x
    rw [blk_setBlk st h b _ h' b' hb]
    split
    · exact ⟨_, rfl⟩
    · exact H.dom h' b' B2 x
  · intro h1 b1 h2 b2 B2 x y
    rw [blk_setBlk st h b _ h1 b1 hb, blk_setBlk st h b _ h2 b2 hb]
    rcases H.inj h1 b1 h2 b2 B2 x y with q | q | q
    · exact Or.inl q
    · split
      · rename_i e
        obtain ⟨rfl, rfl⟩ := e
        rw [hb] at q
        obtain rfl := Option.some.inj q
        rcases hne with hne | ⟨_, rfl⟩
        · exact absurd rfl hne
        · exact Or.inr (Or.inl rfl)
      · exact Or.inr (Or.inl q)
    · right
      split
      · rename_i e
        obtain ⟨rfl, rfl⟩ := e
        by_cases e2 : h2 = h1 ∧ b2 = b1
        · obtain ⟨rfl, rfl⟩ := e2
          rw [hb] at q
          obtain rfl := Option.some.inj q
          rcases hne with hne | ⟨_, rfl⟩
          · exact absurd rfl hne
          · exact Or.inl rfl
        · rw [if_neg e2]; exact Or.inr q
      · by_cases e2 : h2 = h ∧ b2 = b
        · obtain ⟨rfl, rfl⟩ := e2
          rw [hb] at q
          obtain rfl := Option.some.inj q
          rcases hne with hne | ⟨_, rfl⟩
          · exact absurd rfl hne
          · rw [if_pos ⟨rfl, rfl⟩]; exact Or.inr rfl
        · rw [if_neg e2]; exact Or.inr q
  · intro B2 o x; rw [setCells_size]; exact H.Sok B2 o x
  · intro h' t B2 f to e s x
    exact ⟨by rw [tok_setBlk]; exact (H.tok h' t B2 f to e s x).1, fun o h1 h2 => spare_set ((H.tok h' t B2 f to e s x).2 o h1 h2)⟩
  · intro h' t e s x
    rw [tok_setBlk] at x
    exact H.tokdom h' t e s x
  · intro m t l hm
    have := H.bnd m t l hm
    have h1 : (st.setBlk h b ds).stk.length = st.stk.length := len_upB st h b _ false
    rw [h1, St.setBlk, tk_upB, lp_upB]
    exact this
  · intro i r hr
    rw [St.setBlk, lp_upB] at hr
    obtain ⟨B2, h1, h2⟩ := H.lps i r hr
    exact ⟨B2, h1, h2.mono hx fun _ a b => setCells_other w B off vs a b⟩
  · intro i B2 x
    rw [St.setBlk, lp_upB]
    exact H.lpdom i B2 x

/-- Cells of a block are written, those beside them stay. -/
theorem Sim.store (H : Sim w C st bs) {h : Bool} {b B off : Nat} {old cs : List PV} {vs : List Value}
    (hσ : C.σ h b = some B) (hb : st.blk h b = some old) (hl : vs.length = cs.length) (hr : off + cs.length ≤ old.length)
    (hone : ∀ v ∈ vs, v.oneCell' = true) (hrep : ∀ (i : Nat) (x : Value) (p : PV), vs[i]? = some x → cs[i]? = some p → Rep w C x p)
    (hcut : ∀ m t l, (m, t, l) ∈ bs → (h = true ∨ b < m) → ∀ (i : Nat) (x : Value) (p : PV), vs[i]? = some x → cs[i]? = some p → Rep w (C.cut m t l) x p) :
    Sim (w.setCells B off vs) C (st.setBlk h b (laid old off cs)) bs ∧ Ext w C (w.setCells B off vs) C := by
  obtain ⟨B', arr, elem, fr, a1, a2, a3, a4, a5, a6, a7, a8⟩ := H.blk h b old hb
  rw [hσ] at a1
  obtain rfl := Option.some.inj a1
  refine H.put hσ hb a2 (by rw [laid_length]; exact a3) hone (by omega) ?_ ?_ ?_
  · by_cases q : old = []
    · right
      subst q
      simp at hr
      obtain ⟨rfl, hr⟩ := hr
      subst hr
      simp at hl
      exact ⟨hl, rfl⟩
    · exact Or.inl q
  · intro o x p hx' hp
    rw [laidA_get vs arr off o (by omega)] at hx'
    rw [laid_get cs old off o (by omega), ← hl] at hp
    split at hx'
    · rename_i hin; rw [if_pos hin] at hp; exact hrep _ x p hx' hp
    · rename_i hin; rw [if_neg hin] at hp; exact a7 o x p hx' hp
  · intro m t l hm hbm o x p hx' hp
    rw [laidA_get vs arr off o (by omega)] at hx'
    rw [laid_get cs old off o (by omega), ← hl] at hp
    split at hx'
    · rename_i hin; rw [if_pos hin] at hp; exact hcut m t l hm hbm _ x p hx' hp
    · rename_i hin; rw [if_neg hin] at hp; exact a8 m t l hm hbm o x p hx' hp

/-- Nothing is known of a block any more. -/
theorem Sim.shut (H : Sim w C st bs) {h : Bool} {b : Nat} {old : List PV} (hb : st.blk h b = some old) : Sim w C (st.setBlk h b []) bs := by
  obtain ⟨B, arr, elem, fr, a1, a2, a3, a4, a5, a6, a7, a8⟩ := H.blk h b old hb
  have := (H.put (vs := []) (off := 0) (ds := []) a1 hb a2 (Nat.zero_le _) (by simp) (by simp) (Or.inr ⟨rfl, rfl⟩) (by simp) (by simp)).1
  simpa [World.setCells] using this

/-- Cells that nobody reads are overwritten. -/
theorem Sim.scribble (H : Sim w C st bs) {B off : Nat} {vs : List Value}
    (hS : ∀ i, off ≤ i → i < off + vs.length → ¬ C.S B i) (hσ : vs ≠ [] → (∀ h b, C.σ h b ≠ some B) ∧ C.N ≤ B) :
    Sim (w.setCells B off vs) C st bs ∧ Ext w C (w.setCells B off vs) C := by
  have hx : Ext w C (w.setCells B off vs) C := Ext.of_set hS (by cases vs with | nil => exact Or.inl rfl | cons v vs => exact Or.inr (hσ (by simp)).2)
  refine ⟨⟨?_, H.dom, H.inj, ?_, ?_, H.tokdom, H.disj, H.bnd, ⟨by rw [setCells_size]; exact H.low.1, H.low.2⟩, ?_, H.lpdom, H.lpinj⟩, hx⟩
  · intro h' b' ds hd
    obtain ⟨B2, arr2, elem2, fr2, c1, c2, c3, c4, c5, c6, c7, c8⟩ := H.blk h' b' ds hd
    refine ⟨B2, arr2, elem2, fr2, c1, ?_, c3, c4, c5, c6, fun o x p hx' hp => (c7 o x p hx' hp).mono hx, fun m t l hm hbm o x p hx' hp => (c8 m t l hm hbm o x p hx' hp).mono (hx.cut m t l)⟩
    cases vs with
    | nil => exact c2
    | cons v vs =>
      have hne : B2 ≠ B := fun q => by subst q; exact (hσ (by simp)).1 _ _ c1
      rw [setCells_heap, if_neg hne]; exact c2
  · intro B2 o x; rw [setCells_size]; exact H.Sok B2 o x
  · intro h' t B2 f to e s x
    exact ⟨(H.tok h' t B2 f to e s x).1, fun o h1 h2 => spare_set ((H.tok h' t B2 f to e s x).2 o h1 h2)⟩
  · intro i r hr
    obtain ⟨B2, h1, h2⟩ := H.lps i r hr
    exact ⟨B2, h1, h2.mono hx fun _ a b => setCells_other w B off vs a b⟩

/-- Worlds that differ in nothing but what was drawn, or is outside. -/
theorem Sim.heap {w' : World} (H : Sim w C st bs) (e : w'.heap = w.heap) (e1 : w'.os = w.os) (e2 : w'.tape = w.tape) (e3 : w'.output = w.output) : Sim w' C st bs ∧ Ext w C w' C := by
  have hx : Ext w C w' C := ⟨by rw [e]; exact Nat.le_refl _, rfl, ⟨e1, e2, e3, by rw [e]; exact Nat.le_refl _, fun k _ => by rw [e]⟩, fun _ _ x => x, fun B o _ => by simp only [World.cell?, e], fun _ _ _ x => x, fun _ _ B f to e _ x => ⟨B, f, to, e, x, Nat.le_refl _, fun _ => ⟨rfl, rfl, rfl⟩⟩,
    fun _ _ x => x, fun _ _ _ _ arr elem fr h => ⟨arr, elem, fr, by rw [e]; exact h, rfl⟩, fun _ h => by rw [e]; exact h⟩
  refine ⟨⟨?_, H.dom, H.inj, by rw [e]; exact H.Sok, ?_, H.tokdom, H.disj, H.bnd, by rw [e]; exact H.low, ?_, H.lpdom, H.lpinj⟩, hx⟩
  · intro h' b' ds hd
    obtain ⟨B2, arr2, elem2, fr2, c1, c2, c3, c4, c5, c6, c7, c8⟩ := H.blk h' b' ds hd
    exact ⟨B2, arr2, elem2, fr2, c1, by rw [e]; exact c2, c3, c4, c5, c6, fun o x p hx' hp => (c7 o x p hx' hp).mono hx, fun m t l hm hbm o x p hx' hp => (c8 m t l hm hbm o x p hx' hp).mono (hx.cut m t l)⟩
  · intro h' t B2 f to e' s x
    refine ⟨(H.tok h' t B2 f to e' s x).1, fun o h1 h2 => ?_⟩
    obtain ⟨g1, g2, arr, elem, fr, g3, g4, g5⟩ := (H.tok h' t B2 f to e' s x).2 o h1 h2
    exact ⟨g1, g2, arr, elem, fr, by rw [e]; exact g3, g4, g5⟩
  · intro i r hr
    obtain ⟨B2, h1, h2⟩ := H.lps i r hr
    exact ⟨B2, h1, h2.mono hx fun _ a _ => by rw [e]; exact a⟩

/-! ### a token goes on -/
noncomputable def Ctx.claim (C : Ctx) (X : Nat → Nat → Prop) (o : Ow) (t : Nat) (y : Nat × Nat × Nat × Nat × Nat) : Ctx :=
  ⟨fun B i => C.S B i ∨ X B i, C.σ, fun o' t' => open Classical in if o' = o ∧ t' = t then some y else C.tl o' t', C.lp, C.N⟩

theorem Sim.claim {st' : St} (H : Sim w C st bs) {X : Nat → Nat → Prop} {o : Ow} {t B f to e s : Nat}
    (hblk : ∀ a b, st'.blk a b = st.blk a b) (htok : ∀ o' t', st'.tok o' t' = open Classical in if o' = o ∧ t' = t then some (e, s) else st.tok o' t')
    (hstk : st'.stk.length = st.stk.length) (htk : st.tk.length ≤ st'.tk.length) (hlp : st'.lp = st.lp)
    (hX : ∀ B i, X B i → B < w.heap.size ∧ (∀ a b cs, C.σ a b = some B → st.blk a b = some cs → cs = []))
    (hself : ∀ i, f ≤ i → i < to → spare w C B i ∧ ¬ X B i)
    (hother : ∀ o' t' B' f' to' e' s', C.tl o' t' = some (B', f', to', e', s') → ¬ (o' = o ∧ t' = t) → ∀ i, f' ≤ i → i < to' → ¬ X B' i ∧ (B' = B → i < f ∨ to ≤ i))
    (hgo : ∀ B' f' to' e' s', C.tl o t = some (B', f', to', e', s') → s' = s ∧ e' ≤ e ∧ (e' = e → B' = B ∧ f' = f ∧ to' = to)) :
    Sim w (C.claim X o t (B, f, to, e, s)) st' bs ∧ Ext w C w (C.claim X o t (B, f, to, e, s)) := by
  classical
  have hx : Ext w C w (C.claim X o t (B, f, to, e, s)) := by
    refine Ext.same rfl (fun _ _ x => Or.inl x) (fun _ _ _ x => x) ?_ (fun _ _ x => x)
    intro h' t' B' f' to' e' s' x
    simp only [Ctx.claim]
    by_cases q : h' = o ∧ t' = t
    · obtain ⟨rfl, rfl⟩ := q
      rw [if_pos ⟨rfl, rfl⟩]
      obtain ⟨rfl, g1, g2⟩ := hgo B' f' to' e' s' x
      exact ⟨B, f, to, e, rfl, g1, fun q => by obtain ⟨rfl, rfl, rfl⟩ := g2 q; exact ⟨rfl, rfl, rfl⟩⟩
    · rw [if_neg q]
      exact ⟨B', f', to', e', x, Nat.le_refl _, fun _ => ⟨rfl, rfl, rfl⟩⟩
  refine ⟨⟨?_, ?_, ?_, ?_, ?_, ?_, ?_, ?_, H.low, ?_, ?_, H.lpinj⟩, hx⟩
  · intro h' b' ds hd
    rw [hblk] at hd
    obtain ⟨B2, arr2, elem2, fr2, c1, c2, c3, c4, c5, c6, c7, c8⟩ := H.blk h' b' ds hd
    refine ⟨B2, arr2, elem2, fr2, c1, c2, c3, c4, ?_, c6, fun o x p hx' hp => (c7 o x p hx' hp).mono hx, fun m t l hm hbm o x p hx' hp => (c8 m t l hm hbm o x p hx' hp).mono (hx.cut m t l)⟩
    rintro hne o (x | x)
    · exact c5 hne o x
    · exact hne ((hX _ _ x).2 _ _ _ c1 hd)
  · intro a b B2 x; rw [hblk]; exact H.dom a b B2 x
  · intro a b a' b' B2 x y; rw [hblk, hblk]; exact H.inj a b a' b' B2 x y
  · rintro B2 o (x | x)
    · exact H.Sok B2 o x
    · exact (hX _ _ x).1
  · intro h' t' B' f' to' e' s' x
    rw [htok]
    simp only [Ctx.claim] at x
    split at x
    · rename_i q
      simp only [Option.some.injEq, Prod.mk.injEq] at x
      obtain ⟨rfl, rfl, rfl, rfl, rfl⟩ := x
      rw [if_pos q]
      refine ⟨rfl, fun o h1 h2 => ?_⟩
      obtain ⟨⟨g1, g2, g3⟩, g4⟩ := hself o h1 h2
      exact ⟨fun z => z.elim g1 g4, g2, g3⟩
    · rename_i q
      rw [if_neg q]
      refine ⟨(H.tok h' t' B' f' to' e' s' x).1, fun o h1 h2 => ?_⟩
      obtain ⟨g1, g2, g3⟩ := (H.tok h' t' B' f' to' e' s' x).2 o h1 h2
      exact ⟨fun z => z.elim g1 (hother h' t' B' f' to' e' s' x q o h1 h2).1, g2, g3⟩
  · intro h' t' e' s' x
    rw [htok] at x
    simp only [Ctx.claim]
    split at x
    · rename_i q
      rw [if_pos q]
      obtain ⟨rfl, rfl⟩ := Prod.mk.inj (Option.some.inj x)
      exact ⟨B, f, to, rfl⟩
    · rename_i q
      rw [if_neg q]
      exact H.tokdom h' t' e' s' x
  · intro h1 t1 h2 t2 B' f1 to1 e1 s1 f2 to2 e2 s2 x y
    simp only [Ctx.claim] at x y
    split at x
    · rename_i q1
      split at y
      · rename_i q2
        exact Or.inl ⟨q1.1.trans q2.1.symm, q1.2.trans q2.2.symm⟩
      · rename_i q2
        simp only [Option.some.injEq, Prod.mk.injEq] at x
        obtain ⟨rfl, rfl, rfl, rfl, rfl⟩ := x
        refine Or.inr fun o a b c d => ?_
        rcases (hother h2 t2 B f2 to2 e2 s2 y q2 o c d).2 rfl with z | z <;> omega
    · rename_i q1
      split at y
      · rename_i q2
        simp only [Option.some.injEq, Prod.mk.injEq] at y
        obtain ⟨rfl, rfl, rfl, rfl, rfl⟩ := y
        refine Or.inr fun o a b c d => ?_
        rcases (hother h1 t1 B f1 to1 e1 s1 x q1 o a b).2 rfl with z | z <;> omega
      · exact H.disj h1 t1 h2 t2 B' f1 to1 e1 s1 f2 to2 e2 s2 x y
  · intro m t' l hm
    have := H.bnd m t' l hm
    rw [hstk, hlp]
    exact ⟨this.1, by omega, this.2.2⟩
  · intro i r hr
    rw [hlp] at hr
    obtain ⟨B2, h1, h2⟩ := H.lps i r hr
    exact ⟨B2, h1, h2.mono hx fun _ a _ => a⟩
  · intro i B2 x
    rw [hlp]
    exact H.lpdom i B2 x

end
end Go.AM
