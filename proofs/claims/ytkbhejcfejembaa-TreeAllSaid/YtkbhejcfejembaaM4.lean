/- The abstract machine: what a memory holds for a state, and how it goes on when something is laid, stored or grown. No condition. -/
import Derived.Test.YtkbhejcfejembaaM3
import Derived.Laws.IdiomCopy
import Derived.Laws.Cells
import Derived.Laws.Entries
set_option linter.all false
set_option linter.unusedVariables false
namespace Go.AM
open Go Go.RowKit

/-! ### states -/
theorem bk_lay (st : St) (h : Bool) (cs : List PV) (h' : Bool) (b : Nat) : (st.lay h cs).bk h' b = if h' = h ∧ b = st.len h then some ⟨cs, []⟩ else st.bk h' b := by
  have key : ∀ (l : List Blk), (l ++ [⟨cs, []⟩])[b]? = if b = l.length then some ⟨cs, []⟩ else l[b]? := by
    intro l
    rw [List.getElem?_append]
    split
    · rename_i hlt; rw [if_neg (by omega)]
    · rename_i hlt
      by_cases e : b = l.length
      · subst e; simp
      · rw [if_neg e, List.getElem?_eq_none (by simp; omega), List.getElem?_eq_none (by omega)]
  cases h <;> cases h' <;> simp [St.lay, St.bk, St.push, St.hpush, St.len, key]

theorem blk_lay (st : St) (h : Bool) (cs : List PV) (h' : Bool) (b : Nat) : (st.lay h cs).blk h' b = if h' = h ∧ b = st.len h then some cs else st.blk h' b := by
  simp only [St.blk, bk_lay]
  split <;> rfl

theorem bk_len (st : St) (h : Bool) (b : Nat) (hb : st.len h ≤ b) : st.bk h b = none := by
  cases h <;> simpa [St.bk, St.len] using hb
theorem bk_lt {st : St} {h : Bool} {b : Nat} {x : Blk} (e : st.bk h b = some x) : b < st.len h := by
  cases h <;> exact (List.getElem?_eq_some_iff.1 e).1
theorem blk_lt {st : St} {h : Bool} {b : Nat} {x : List PV} (e : st.blk h b = some x) : b < st.len h := by
  obtain ⟨y, hy, _⟩ := Option.map_eq_some_iff.1 e
  exact bk_lt hy

theorem tok_lay (st : St) (h : Bool) (cs : List PV) (o : Ow) (t : Nat) : (st.lay h cs).tok o t = st.tok o t := by
  cases o with
  | fr => cases h <;> rfl
  | bl h' b =>
    simp only [St.tok, bk_lay]
    split
    · rename_i e
      obtain ⟨rfl, rfl⟩ := e
      rw [bk_len st h' _ (Nat.le_refl _)]
      simp
    · rfl

theorem bk_upB (st : St) (h : Bool) (b : Nat) (f : Blk → Blk) (h' : Bool) (b' : Nat) : (st.upB h b f).bk h' b' = if h' = h ∧ b' = b then (st.bk h b).map f else st.bk h' b' := by
  cases h <;> cases h' <;> simp only [St.upB, St.bk, Bool.false_eq_true, Bool.true_eq_false, false_and, true_and, if_false]
  · rw [List.getElem?_modify]
    by_cases e : b = b'
    · subst e; simp
    · simp [e, Ne.symm e]
  · rw [List.getElem?_modify]
    by_cases e : b = b'
    · subst e; simp
    · simp [e, Ne.symm e]

theorem blk_setBlk (st : St) (h : Bool) (b : Nat) (cs : List PV) (h' : Bool) (b' : Nat) {old : List PV} (hb : st.blk h b = some old) :
    (st.setBlk h b cs).blk h' b' = if h' = h ∧ b' = b then some cs else st.blk h' b' := by
  obtain ⟨y, hy, _⟩ := Option.map_eq_some_iff.1 hb
  simp only [St.setBlk, St.blk, bk_upB]
  split
  · rw [hy]; rfl
  · rfl

theorem tok_setBlk (st : St) (h : Bool) (b : Nat) (cs : List PV) (o : Ow) (t : Nat) : (st.setBlk h b cs).tok o t = st.tok o t := by
  cases o with
  | fr => cases h <;> rfl
  | bl h' b' =>
    simp only [St.setBlk, St.tok, bk_upB]
    split
    · rename_i e
      obtain ⟨rfl, rfl⟩ := e
      cases st.bk h' b' <;> rfl
    · rfl

theorem lp_lay (st : St) (h : Bool) (cs : List PV) : (st.lay h cs).lp = st.lp := by cases h <;> rfl
theorem tk_lay (st : St) (h : Bool) (cs : List PV) : (st.lay h cs).tk = st.tk := by cases h <;> rfl
theorem len_lay (st : St) (h : Bool) (cs : List PV) (h' : Bool) : (st.lay h cs).len h' = if h' = h then st.len h + 1 else st.len h' := by
  cases h <;> cases h' <;> simp [St.lay, St.len, St.push, St.hpush]
theorem lp_upB (st : St) (h : Bool) (b : Nat) (f : Blk → Blk) : (st.upB h b f).lp = st.lp := by cases h <;> rfl
theorem tk_upB (st : St) (h : Bool) (b : Nat) (f : Blk → Blk) : (st.upB h b f).tk = st.tk := by cases h <;> rfl
theorem len_upB (st : St) (h : Bool) (b : Nat) (f : Blk → Blk) (h' : Bool) : (st.upB h b f).len h' = st.len h' := by
  cases h <;> cases h' <;> simp [St.upB, St.len]

theorem Ow.is_iff {o : Ow} {h : Bool} {b : Nat} : o.is h b = true ↔ o = .bl h b := by
  cases o with
  | fr => simp [Ow.is]
  | bl h' b' =>
    cases h <;> cases h' <;> simp [Ow.is, eqB]

/-! ### memory -/
def notFrozen (fr : Nat × Nat) (o : Nat) : Prop := ¬ (fr.1 ≤ o ∧ o < fr.2)

/-- Cell o of block B can be written, and nobody reads it. -/
def spare (w : World) (C : Ctx) (B o : Nat) : Prop :=
  ¬ C.S B o ∧ ((∀ h b, C.σ h b ≠ some B) ∧ C.N ≤ B) ∧ ∃ arr elem fr, w.heap[B]? = some (.cells arr elem fr) ∧ o < arr.size ∧ notFrozen fr o

def stateOf : Nat → LoopState
  | 0 => .ready
  | 1 => .busy
  | _ => .done
def pendOf : Ex → Option Code
  | .normal => none
  | .exit i => some (.exit i)
  | .ret => some .ret
/-- A loop's record. -/
def recOf (r : Lp) (fn D : Nat) (tmps : Array Value) : Loop :=
  { state := stateOf r.at_, pending := pendOf r.pend, fn := fn, tmps := tmps, params := r.ps.toArray, assign := r.assign, body := r.body, defers := D }

/-- What lies beside the blocks, in memory. -/
def AuxAt (w : World) (C : Ctx) (bs : List (Nat × Nat × Nat)) (i B : Nat) : Aux → Prop
  | .iter s pos => w.heap[B]? = some (.stringIter s pos)
  | .loop r => ∃ fn D tmps, w.heap[B]? = some (.loop (recOf r fn D tmps)) ∧ tmps.size = r.n ∧
      (∀ j, Rep w C (tmps.getD j undef) (mkEnv r.live r.vs j)) ∧ ∀ m t l, (m, t, l) ∈ bs → i < l → ∀ j, Rep w (C.cut m t l) (tmps.getD j undef) (mkEnv r.live r.vs j)
theorem AuxAt.mono {w w' : World} {C C' : Ctx} {bs : List (Nat × Nat × Nat)} {i B : Nat} {r : Aux} (h : AuxAt w C bs i B r) (hx : Ext w C w' C')
    (hB : ∀ ob, w.heap[B]? = some ob → (∀ arr elem fr, ob ≠ .cells arr elem fr) → w'.heap[B]? = some ob) : AuxAt w' C' bs i B r := by
  cases r with
  | iter s pos => exact hB _ h (by intro _ _ _ q; cases q)
  | loop r =>
    obtain ⟨fn, D, tmps, h1, h2, h3, h4⟩ := h
    exact ⟨fn, D, tmps, hB _ h1 (by intro _ _ _ q; cases q), h2, fun j => (h3 j).mono hx, fun m t l hm hl j => (h4 m t l hm hl j).mono (hx.cut m t l)⟩
theorem AuxAt.lt {w : World} {C : Ctx} {bs : List (Nat × Nat × Nat)} {i B : Nat} {r : Aux} (h : AuxAt w C bs i B r) : B < w.heap.size := by
  cases r with
  | iter s pos => exact (Array.getElem?_eq_some_iff.1 h).1
  | loop r =>
    obtain ⟨fn, D, tmps, h1, _⟩ := h
    exact (Array.getElem?_eq_some_iff.1 h1).1

structure Sim (w : World) (C : Ctx) (st : St) (bs : List (Nat × Nat × Nat)) : Prop where
  blk : ∀ h b cs, st.blk h b = some cs → ∃ B arr elem fr, C.σ h b = some B ∧ w.heap[B]? = some (.cells arr elem fr) ∧ cs.length ≤ arr.size ∧
    (∀ o, notFrozen fr o) ∧ (cs ≠ [] → ∀ o, ¬ C.S B o) ∧ (∀ (o : Nat) (x : Value), arr[o]? = some x → x.oneCell' = true) ∧
    (∀ (o : Nat) (x : Value) (p : PV), arr[o]? = some x → cs[o]? = some p → Rep w C x p) ∧
    (∀ m t l, (m, t, l) ∈ bs → (h = true ∨ b < m) → ∀ (o : Nat) (x : Value) (p : PV), arr[o]? = some x → cs[o]? = some p → Rep w (C.cut m t l) x p)
  dom : ∀ h b B, C.σ h b = some B → ∃ cs, st.blk h b = some cs
  inj : ∀ h b h' b' B, C.σ h b = some B → C.σ h' b' = some B → (h = h' ∧ b = b') ∨ st.blk h b = some [] ∨ st.blk h' b' = some []
  Sok : ∀ B o, C.S B o → B < w.heap.size
  tok : ∀ o t B f to e s, C.tl o t = some (B, f, to, e, s) → st.tok o t = some (e, s) ∧ ∀ i, f ≤ i → i < to → spare w C B i
  tokdom : ∀ o t e s, st.tok o t = some (e, s) → ∃ B f to, C.tl o t = some (B, f, to, e, s)
  disj : ∀ o t o' t' B f to e s f' to' e' s', C.tl o t = some (B, f, to, e, s) → C.tl o' t' = some (B, f', to', e', s') → (o = o' ∧ t = t') ∨ ∀ i, f ≤ i → i < to → f' ≤ i → i < to' → False
  bnd : ∀ m t l, (m, t, l) ∈ bs → m ≤ st.stk.length ∧ t ≤ st.tk.length ∧ l ≤ st.lp.length
  low : C.N ≤ w.heap.size ∧ (∀ h b B, C.σ h b = some B → C.N ≤ B) ∧ ∀ i B, C.lp i = some B → C.N ≤ B
  lps : ∀ i r, st.lp[i]? = some r → ∃ B, C.lp i = some B ∧ AuxAt w C bs i B r
  lpdom : ∀ i B, C.lp i = some B → ∃ r, st.lp[i]? = some r
  lpinj : ∀ i i' B, C.lp i = some B → C.lp i' = some B → i = i'

section
variable {w : World} {C : Ctx} {st : St} {bs : List (Nat × Nat × Nat)}

theorem Sim.σlt (h : Sim w C st bs) {a : Bool} {b B : Nat} (x : C.σ a b = some B) : B < w.heap.size := by
  obtain ⟨cs, hc⟩ := h.dom a b B x
  obtain ⟨B', arr, elem, fr, h1, h2, _⟩ := h.blk a b cs hc
  rw [x] at h1
  obtain rfl := Option.some.inj h1
  exact (Array.getElem?_eq_some_iff.1 h2).1

theorem Sim.σlen (h : Sim w C st bs) {a : Bool} {b B : Nat} (x : C.σ a b = some B) : b < st.len a := by
  obtain ⟨cs, hc⟩ := h.dom a b B x
  exact blk_lt hc

theorem Sim.σstk (h : Sim w C st bs) {b B : Nat} (x : C.σ false b = some B) : b < st.stk.length := h.σlen x

theorem Sim.σnone (h : Sim w C st bs) {a : Bool} {b : Nat} (x : st.len a ≤ b) : C.σ a b = none := by
  cases e : C.σ a b with
  | none => rfl
  | some B => have := h.σlen e; omega

theorem Sim.tlnone (h : Sim w C st bs) {t : Nat} (x : st.tk.length ≤ t) : C.tl .fr t = none := by
  cases e : C.tl .fr t with
  | none => rfl
  | some q =>
    obtain ⟨B, f, to, e', s⟩ := q
    have := (h.tok .fr t B f to e' s e).1
    have := (List.getElem?_eq_some_iff.1 this).1
    omega

theorem Sim.tlbnone (h : Sim w C st bs) {a : Bool} {b : Nat} (x : st.len a ≤ b) (t : Nat) : C.tl (.bl a b) t = none := by
  cases e : C.tl (.bl a b) t with
  | none => rfl
  | some q =>
    obtain ⟨B, f, to, e', s⟩ := q
    have := (h.tok _ t B f to e' s e).1
    simp only [St.tok, bk_len st a b x] at this
    cases this

theorem Sim.lpnone (h : Sim w C st bs) {i : Nat} (x : st.lp.length ≤ i) : C.lp i = none := by
  cases e : C.lp i with
  | none => rfl
  | some B =>
    obtain ⟨r, hr⟩ := h.lpdom i B e
    have := (List.getElem?_eq_some_iff.1 hr).1
    omega

theorem Sim.lplt (h : Sim w C st bs) {i B : Nat} (x : C.lp i = some B) : B < w.heap.size := by
  obtain ⟨r, hr⟩ := h.lpdom i B x
  obtain ⟨B', h1, h2⟩ := h.lps i r hr
  rw [x] at h1
  obtain rfl := Option.some.inj h1
  exact h2.lt

/-- The cut at the whole of the stack changes nothing. -/
theorem Sim.cut_self (h : Sim w C st bs) : C.cut st.stk.length st.tk.length st.lp.length = C := by
  cases C with
  | mk S σ tl lp N =>
    simp only [Ctx.cut, Ctx.mk.injEq, true_and, and_true]
    refine ⟨?_, ?_, ?_⟩
    · funext a b
      cases a with
      | true => rfl
      | false =>
        simp only []
        split
        · rfl
        · exact (h.σnone (a := false) (by simp only [St.len]; omega)).symm
    · funext a b
      cases a with
      | fr =>
        simp only []
        split
        · rfl
        · exact (h.tlnone (by omega)).symm
      | bl a b' =>
        cases a with
        | true => rfl
        | false =>
          simp only []
          split
          · rfl
          · exact (h.tlbnone (a := false) (by simp only [St.len]; omega) b).symm
    · funext i
      split
      · rfl
      · exact (h.lpnone (by omega)).symm

theorem Sim.enter (h : Sim w C st bs) : Sim w C st ((st.stk.length, st.tk.length, st.lp.length) :: bs) := by
  refine ⟨?_, h.dom, h.inj, h.Sok, h.tok, h.tokdom, h.disj, ?_, h.low, ?_, h.lpdom, h.lpinj⟩
  · intro a b cs hc
    obtain ⟨B, arr, elem, fr, h1, h2, h3, h4, h5, h6, h7, h8⟩ := h.blk a b cs hc
    refine ⟨B, arr, elem, fr, h1, h2, h3, h4, h5, h6, h7, fun m t l hm => ?_⟩
    rcases List.mem_cons.1 hm with hm | hm
    · obtain ⟨rfl, rfl, rfl⟩ : m = st.stk.length ∧ t = st.tk.length ∧ l = st.lp.length := by simpa using hm
      intro _
      rw [h.cut_self]
      exact h7
    · exact h8 m t l hm
  · intro m t l hm
    rcases List.mem_cons.1 hm with hm | hm
    · obtain ⟨rfl, rfl, rfl⟩ : m = st.stk.length ∧ t = st.tk.length ∧ l = st.lp.length := by simpa using hm
      exact ⟨Nat.le_refl _, Nat.le_refl _, Nat.le_refl _⟩
    · exact h.bnd m t l hm
  · intro i r hr
    obtain ⟨B, h1, h2⟩ := h.lps i r hr
    refine ⟨B, h1, ?_⟩
    cases r with
    | iter s pos => exact h2
    | loop r =>
    obtain ⟨fn, D, tmps, h2, h3, h4, h5⟩ := h2
    refine ⟨fn, D, tmps, h2, h3, h4, fun m t l hm => ?_⟩
    rcases List.mem_cons.1 hm with hm | hm
    · obtain ⟨rfl, rfl, rfl⟩ : m = st.stk.length ∧ t = st.tk.length ∧ l = st.lp.length := by simpa using hm
      intro _
      rw [h.cut_self]
      exact h4
    · exact h5 m t l hm

/-! ### a new object -/
theorem cell_push (w : World) (o : Obj) {B i : Nat} (h : B < w.heap.size) : World.cell? { w with heap := w.heap.push o } ⟨B, i, none⟩ = w.cell? ⟨B, i, none⟩ := by
  simp only [World.cell?]
  rw [Array.getElem?_push, if_neg (by omega)]

theorem get_push (w : World) (o : Obj) {B : Nat} {x : Obj} (h : w.heap[B]? = some x) : ({ w with heap := w.heap.push o } : World).heap[B]? = some x := by
  have := (Array.getElem?_eq_some_iff.1 h).1
  show (w.heap.push o)[B]? = _
  rw [Array.getElem?_push, if_neg (by omega)]; exact h

theorem Ext.of_push (hS : ∀ B o, C.S B o → B < w.heap.size) (hN : C.N ≤ w.heap.size) (ob : Obj) : Ext w C { w with heap := w.heap.push ob } C :=
  ⟨by simp, rfl, (Below.refl _ _).alloc hN ob, fun _ _ x => x, fun B i x => cell_push w ob (hS B i x), fun _ _ _ x => x, fun _ _ B f to e _ x => ⟨B, f, to, e, x, Nat.le_refl _, fun _ => ⟨rfl, rfl, rfl⟩⟩,
    fun _ _ x => x, fun _ _ _ _ arr elem fr h => ⟨arr, elem, fr, get_push w ob h, rfl⟩, fun _ h => get_push w ob h⟩

/-- A new object of the memory's, that no block means. -/
theorem Sim.alloc (H : Sim w C st bs) (ob : Obj) : Sim { w with heap := w.heap.push ob } C st bs ∧ Ext w C { w with heap := w.heap.push ob } C := by
  have hx := Ext.of_push (C := C) H.Sok H.low.1 ob
  refine ⟨⟨?_, H.dom, H.inj, ?_, ?_, H.tokdom, H.disj, H.bnd, ⟨Nat.le_trans H.low.1 (by simp), H.low.2⟩, ?_, H.lpdom, H.lpinj⟩, hx⟩
  · intro h' b' ds hd
    obtain ⟨B2, arr2, elem2, fr2, c1, c2, c3, c4, c5, c6, c7, c8⟩ := H.blk h' b' ds hd
    exact ⟨B2, arr2, elem2, fr2, c1, get_push w ob c2, c3, c4, c5, c6, fun o x p hx' hp => (c7 o x p hx' hp).mono hx, fun m t l hm hbm o x p hx' hp => (c8 m t l hm hbm o x p hx' hp).mono (hx.cut m t l)⟩
  · intro B2 o x; have := H.Sok B2 o x; simp; omega
  · intro h' t B2 f to e s x
    refine ⟨(H.tok h' t B2 f to e s x).1, fun o h1 h2 => ?_⟩
    obtain ⟨g1, g2, arr, elem, fr, g3, g4, g5⟩ := (H.tok h' t B2 f to e s x).2 o h1 h2
    exact ⟨g1, g2, arr, elem, fr, get_push w ob g3, g4, g5⟩
  · intro i r hr
    obtain ⟨B, h1, h2⟩ := H.lps i r hr
    exact ⟨B, h1, h2.mono hx fun _ a _ => get_push w ob a⟩

/-! ### a new block -/
def Ctx.lay (C : Ctx) (h : Bool) (n B : Nat) : Ctx := ⟨C.S, fun h' b => if h' = h ∧ b = n then some B else C.σ h' b, C.tl, C.lp, C.N⟩

theorem Sim.layAt (H : Sim w C st bs) (h : Bool) {B : Nat} {arr : Array Value} {elem : TypeId} {fr : Nat × Nat} {cs : List PV} (hB : w.heap[B]? = some (.cells arr elem fr)) (hfr : ∀ o, notFrozen fr o)
    (hS : ∀ o, ¬ C.S B o) (hN : C.N ≤ B) (hσ : ∀ h' b', C.σ h' b' = some B → st.blk h' b' = some [])
    (htk : ∀ o t B' f to e s i, C.tl o t = some (B', f, to, e, s) → f ≤ i → i < to → B' ≠ B) (hlen : cs.length ≤ arr.size)
    (hone : ∀ (o : Nat) (x : Value), arr[o]? = some x → x.oneCell' = true)
    (hrep : ∀ (o : Nat) (x : Value) (p : PV), arr[o]? = some x → cs[o]? = some p → Rep w C x p)
    (hcut : ∀ m t l, (m, t, l) ∈ bs → h = true → ∀ (o : Nat) (x : Value) (p : PV), arr[o]? = some x → cs[o]? = some p → Rep w (C.cut m t l) x p) :
    Sim w (C.lay h (st.len h) B) (st.lay h cs) bs ∧ Ext w C w (C.lay h (st.len h) B) := by
  have hx : Ext w C w (C.lay h (st.len h) B) := by
    refine Ext.same rfl (fun _ _ x => x) ?_ (fun _ _ B f to e _ x => ⟨B, f, to, e, x, Nat.le_refl _, fun _ => ⟨rfl, rfl, rfl⟩⟩) (fun _ _ x => x)
    intro a b B' x
    simp only [Ctx.lay]
    rw [if_neg (by rintro ⟨rfl, rfl⟩; have := H.σlen x; omega)]
    exact x
  refine ⟨⟨?_, ?_, ?_, H.Sok, ?_, ?_, H.disj, ?_, ?_, ?_, ?_, H.lpinj⟩, hx⟩
  · intro a b ds hb
    rw [blk_lay] at hb
    split at hb
    · rename_i hab
      obtain ⟨rfl, rfl⟩ := hab
      obtain rfl := Option.some.inj hb
      refine ⟨B, arr, elem, fr, by simp [Ctx.lay], hB, hlen, hfr, fun _ => hS, hone, fun o x p hx' hp => (hrep o x p hx' hp).mono hx, ?_⟩
      intro m t l hm hbm o x p hx' hp
      rcases hbm with hbm | hbm
      · exact (hcut m t l hm hbm o x p hx' hp).mono (hx.cut m t l)
      · have := (H.bnd m t l hm).1
        cases a with
        | true => exact (hcut m t l hm rfl o x p hx' hp).mono (hx.cut m t l)
        | false => simp only [St.len] at hbm; omega
    · rename_i hab
      obtain ⟨B', arr', elem', fr', h1, h2, h3, h4, h5, h6, h7, h8⟩ := H.blk a b ds hb
      exact ⟨B', arr', elem', fr', hx.σ _ _ _ h1, h2, h3, h4, h5, h6, fun o x p hx' hp => (h7 o x p hx' hp).mono hx, fun m t l hm hbm o x p hx' hp => (h8 m t l hm hbm o x p hx' hp).mono (hx.cut m t l)⟩
  · intro a b B' x
    rw [blk_lay]
    split
    · exact ⟨_, rfl⟩
    · rename_i hab
      simp only [Ctx.lay] at x
      rw [if_neg hab] at x
      exact H.dom a b B' x
  · intro a b a' b' B' x y
    simp only [Ctx.lay] at x y
    rw [blk_lay, blk_lay]
    split at x
    · rename_i e1
      split at y
      · rename_i e2; exact Or.inl ⟨e1.1.trans e2.1.symm, e1.2.trans e2.2.symm⟩
      · rename_i e2
        obtain rfl := Option.some.inj x
        right; right
        rw [if_neg e2]
        exact hσ _ _ y
    · rename_i e1
      split at y
      · rename_i e2
        obtain rfl := Option.some.inj y
        right; left
        rw [if_neg e1]
        exact hσ _ _ x
      · rename_i e2
        rw [if_neg e1, if_neg e2]
        exact H.inj a b a' b' B' x y
  · intro o t B' f to e s x
    rw [tok_lay]
    refine ⟨(H.tok o t B' f to e s x).1, fun i a b => ?_⟩
    obtain ⟨g1, g2, g3⟩ := (H.tok o t B' f to e s x).2 i a b
    refine ⟨g1, ⟨fun a' b' => ?_, g2.2⟩, g3⟩
    simp only [Ctx.lay]
    split
    · intro q
      exact htk o t B' f to e s i x a b (Option.some.inj q).symm
    · exact g2.1 a' b'
  · intro o t e s x
    rw [tok_lay] at x
    exact H.tokdom o t e s x
  · intro m t l hm
    have := H.bnd m t l hm
    have h1 := len_lay st h cs false
    rw [tk_lay, lp_lay]
    refine ⟨?_, this.2⟩
    have h2 : (st.lay h cs).stk.length = (st.lay h cs).len false := rfl
    rw [h2, h1]
    have h3 : st.stk.length = st.len false := rfl
    split
    · rename_i q; rw [← q]; omega
    · omega
  · refine ⟨H.low.1, fun a b B' x => ?_, H.low.2.2⟩
    simp only [Ctx.lay] at x
    split at x
    · obtain rfl := Option.some.inj x; exact hN
    · exact H.low.2.1 a b B' x
  · intro i r hr
    rw [lp_lay] at hr
    obtain ⟨B', h1, h2⟩ := H.lps i r hr
    exact ⟨B', h1, h2.mono hx fun _ a _ => a⟩
  · intro i B' x
    rw [lp_lay]
    exact H.lpdom i B' x

/-- A new block in a new object. -/
theorem Sim.lay (H : Sim w C st bs) (h : Bool) (arr : Array Value) (elem : TypeId) (cs : List PV)
    (hlen : cs.length ≤ arr.size) (hone : ∀ (o : Nat) (x : Value), arr[o]? = some x → x.oneCell' = true)
    (hrep : ∀ (o : Nat) (x : Value) (p : PV), arr[o]? = some x → cs[o]? = some p → Rep w C x p)
    (hcut : ∀ m t l, (m, t, l) ∈ bs → h = true → ∀ (o : Nat) (x : Value) (p : PV), arr[o]? = some x → cs[o]? = some p → Rep w (C.cut m t l) x p) :
    Sim { w with heap := w.heap.push (.cells arr elem (0, 0)) } (C.lay h (st.len h) w.heap.size) (st.lay h cs) bs ∧ Ext w C { w with heap := w.heap.push (.cells arr elem (0, 0)) } (C.lay h (st.len h) w.heap.size) := by
  obtain ⟨h1, h2⟩ := H.alloc (.cells arr elem (0, 0))
  obtain ⟨g1, g2⟩ := h1.layAt h (B := w.heap.size) (arr := arr) (elem := elem) (fr := (0, 0)) (cs := cs) (by simp) (fun o => by simp [notFrozen]) (fun o x => by have := H.Sok _ _ x; omega) H.low.1
    (fun h' b' x => by have := H.σlt x; omega) (fun o t B' f to e s i x a b => by
      obtain ⟨_, _, arr', elem', fr', q, _⟩ := (H.tok o t B' f to e s x).2 i a b
      have := (Array.getElem?_eq_some_iff.1 q).1
      omega) hlen hone (fun o x p a b => (hrep o x p a b).mono h2) (fun m t l hm hh o x p a b => (hcut m t l hm hh o x p a b).mono (h2.cut m t l))
  exact ⟨g1, h2.trans g2⟩

end
end Go.AM
