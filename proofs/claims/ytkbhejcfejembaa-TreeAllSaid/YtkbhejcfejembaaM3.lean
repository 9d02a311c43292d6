/- The abstract machine: what it means that memory holds a plain value, and that a later memory still does. No condition. -/
import Derived.Test.YtkbhejcfejembaaM1
import Derived.Below
set_option linter.all false
namespace Go.AM
open Go Go.RowKit

structure Ctx where
  /-- The cells that stay as they are. -/
  S : Nat → Nat → Prop
  /-- Where a block lies. -/
  σ : Bool → Nat → Option Nat
  /-- What room a token owns: the block, from where, up to where; where the slice ends; an element's size. -/
  tl : Ow → Nat → Option (Nat × Nat × Nat × Nat × Nat)
  /-- Where a loop's record lies. -/
  lp : Nat → Option Nat
  /-- What lies below is never touched. -/
  N : Nat

def Ctx.fz (C : Ctx) : Ctx := ⟨C.S, fun h b => match h with | true => C.σ true b | false => none, fun _ _ => none, fun _ => none, C.N⟩
def Ctx.cut (C : Ctx) (m t l : Nat) : Ctx :=
  ⟨C.S, fun h b => match h with | true => C.σ true b | false => if b < m then C.σ false b else none,
    fun o i => match o with | .fr => if i < t then C.tl .fr i else none | .bl true b => C.tl (.bl true b) i | .bl false b => if b < m then C.tl (.bl false b) i else none,
    fun i => if i < l then C.lp i else none, C.N⟩

def CapRep (C : Ctx) (base : Option Addr) (len cap sz : Nat) : Cap → Prop
  | .nil => base = none
  | .full => cap = len
  | .dead => True
  | .own o t e => ∃ B f to e' s, C.tl o t = some (B, f, to, e', s) ∧ e ≤ e' ∧
      (e = e' → s = sz ∧ (cap = len ∨ ∃ o, base = some ⟨B, o, none⟩ ∧ f = o + len * sz ∧ to = o + cap * sz))

def NilCap (C : Ctx) : Cap → Prop
  | .own o t e => ∃ B f to e' s, C.tl o t = some (B, f, to, e', s) ∧ e ≤ e'
  | _ => True

inductive Rep (w : World) : Ctx → Value → PV → Prop
  | u {C : Ctx} {x : Value} : Rep w C x .u
  | v {C : Ctx} {x : Value} : flatV x = true → Rep w C x (.v x)
  | agg {C : Ctx} {xs : Array Value} {ps : List PV} : xs.size = ps.length → (∀ (i : Nat) (x : Value), xs[i]? = some x → x.oneCell' = true) →
      (∀ (i : Nat) (x : Value) (p : PV), xs[i]? = some x → ps[i]? = some p → Rep w C x p) → Rep w C (.agg xs) (.agg ps)
  | tup {C : Ctx} {xs : Array Value} {ps : List PV} : xs.size = ps.length →
      (∀ (i : Nat) (x : Value) (p : PV), xs[i]? = some x → ps[i]? = some p → Rep w C x p) → Rep w C (.tuple xs) (.tup ps)
  | ptr {C : Ctx} {h : Bool} {b off B : Nat} : C.σ h b = some B → Rep w C (.pointer (some ⟨B, off, none⟩)) (.ptr h b off)
  | fp {C : Ctx} {cs : List PV} {off B o : Nat} (val : Nat → Value) : (∀ (j : Nat) (p : PV), cs[j]? = some p → C.S B (o + j)) →
      (∀ (j : Nat) (p : PV), cs[j]? = some p → w.cell? ⟨B, o + j, none⟩ = some (val j)) → (∀ (j : Nat) (p : PV), cs[j]? = some p → (val j).oneCell' = true) →
      (∀ (j : Nat) (p : PV), cs[j]? = some p → Rep w C.fz (val j) p) → Rep w C (.pointer (some ⟨B, o + off, none⟩)) (.fp cs off)
  | slnil {C : Ctx} {c : Cap} : NilCap C c → Rep w C (.slice none 0 0) (.sl [] c)
  | sl {C : Ctx} {es : List (List PV)} {B o len cap : Nat} {c : Cap} (sz : Nat) (val : Nat → Nat → Value) : len = es.length → len ≤ cap →
      (∀ (i : Nat) (e : List PV), es[i]? = some e → e.length = sz) →
      (∀ (i : Nat) (e : List PV) (j : Nat) (p : PV), es[i]? = some e → e[j]? = some p → C.S B (o + i * sz + j)) →
      (∀ (i : Nat) (e : List PV) (j : Nat) (p : PV), es[i]? = some e → e[j]? = some p → w.cell? ⟨B, o + i * sz + j, none⟩ = some (val i j)) →
      (∀ (i : Nat) (e : List PV) (j : Nat) (p : PV), es[i]? = some e → e[j]? = some p → (val i j).oneCell' = true) →
      (∀ (i : Nat) (e : List PV) (j : Nat) (p : PV), es[i]? = some e → e[j]? = some p → Rep w C.fz (val i j) p) →
      CapRep C (some ⟨B, o, none⟩) len cap sz c → Rep w C (.slice (some ⟨B, o, none⟩) len cap) (.sl es c)
  | rs {C : Ctx} {h : Bool} {b off len cap sz B : Nat} {arr : Array Value} {elem : TypeId} {fr : Nat × Nat} : C.σ h b = some B → len ≤ cap → w.heap[B]? = some (.cells arr elem fr) → off + cap * sz = arr.size →
      Rep w C (.slice (some ⟨B, off, none⟩) len cap) (.rs h b off len sz)
  | ni {C : Ctx} {t : TypeId} {x : Value} : Rep w C (.iface t x) .ni
  | it {C : Ctx} {i B : Nat} : C.lp i = some B → Rep w C (.pointer (some ⟨B, 0, none⟩)) (.it i)
  | yld {C : Ctx} {i B : Nat} : C.lp i = some B → Rep w C (.func (.yield B) #[] #[]) (.clo (.yield i) [])
  | clo {C : Ctx} {f : FuncId} {xs : Array Value} {ps : List PV} : xs.size = ps.length →
      (∀ (i : Nat) (x : Value) (p : PV), xs[i]? = some x → ps[i]? = some p → Rep w C x p) → Rep w C (.func (.func f) #[] xs) (.clo (.func f) ps)

/-- A later memory: the cells that stay are as they were, blocks lie where they lay, tokens go on. -/
structure Ext (w : World) (C : Ctx) (w' : World) (C' : Ctx) : Prop where
  size : w.heap.size ≤ w'.heap.size
  N : C'.N = C.N
  below : Below C.N w w'
  S : ∀ B o, C.S B o → C'.S B o
  cell : ∀ B o, C.S B o → w'.cell? ⟨B, o, none⟩ = w.cell? ⟨B, o, none⟩
  σ : ∀ h b B, C.σ h b = some B → C'.σ h b = some B
  tl : ∀ o t B f to e s, C.tl o t = some (B, f, to, e, s) → ∃ B' f' to' e', C'.tl o t = some (B', f', to', e', s) ∧ e ≤ e' ∧ (e = e' → B' = B ∧ f' = f ∧ to' = to)
  lp : ∀ i B, C.lp i = some B → C'.lp i = some B
  shape : ∀ h b B, C.σ h b = some B → ∀ arr elem fr, w.heap[B]? = some (.cells arr elem fr) → ∃ arr' elem' fr', w'.heap[B]? = some (.cells arr' elem' fr') ∧ arr'.size = arr.size
  dfr : ∀ D : Nat, w.heap[D]? = some (Obj.deferred (some [])) → w'.heap[D]? = some (Obj.deferred (some []))

theorem Ext.refl (w : World) (C : Ctx) : Ext w C w C :=
  ⟨Nat.le_refl _, rfl, Below.refl _ _, fun _ _ h => h, fun _ _ _ => rfl, fun _ _ _ h => h, fun _ _ B f to e _ h => ⟨B, f, to, e, h, Nat.le_refl _, fun _ => ⟨rfl, rfl, rfl⟩⟩, fun _ _ h => h, fun _ _ _ _ arr elem fr h => ⟨arr, elem, fr, h, rfl⟩, fun _ h => h⟩

/-- One memory, and two of whom the second one knows more. -/
theorem Ext.same {w : World} {C C' : Ctx} (hN : C'.N = C.N) (hS : ∀ B o, C.S B o → C'.S B o) (hσ : ∀ h b B, C.σ h b = some B → C'.σ h b = some B)
    (htl : ∀ o t B f to e s, C.tl o t = some (B, f, to, e, s) → ∃ B' f' to' e', C'.tl o t = some (B', f', to', e', s) ∧ e ≤ e' ∧ (e = e' → B' = B ∧ f' = f ∧ to' = to)) (hlp : ∀ i B, C.lp i = some B → C'.lp i = some B) : Ext w C w C' :=
  ⟨Nat.le_refl _, hN, Below.refl _ _, hS, fun _ _ _ => rfl, hσ, htl, hlp, fun _ _ _ _ arr elem fr h => ⟨arr, elem, fr, h, rfl⟩, fun _ h => h⟩

theorem Ext.trans {w w1 w2 : World} {C C1 C2 : Ctx} (h : Ext w C w1 C1) (g : Ext w1 C1 w2 C2) : Ext w C w2 C2 := by
  refine ⟨Nat.le_trans h.size g.size, g.N.trans h.N, h.below.trans (h.N ▸ g.below), fun B o x => g.S B o (h.S B o x), fun B o x => (g.cell B o (h.S B o x)).trans (h.cell B o x), fun a b B x => g.σ a b B (h.σ a b B x), ?_,
    fun i B x => g.lp i B (h.lp i B x), ?_, fun D x => g.dfr D (h.dfr D x)⟩
  · intro a t B f to e s x
    obtain ⟨B1, f1, to1, e1, y, le1, k1⟩ := h.tl a t B f to e s x
    obtain ⟨B2, f2, to2, e2, z, le2, k2⟩ := g.tl a t B1 f1 to1 e1 s y
    refine ⟨B2, f2, to2, e2, z, Nat.le_trans le1 le2, fun q => ?_⟩
    subst q
    obtain rfl : e = e1 := Nat.le_antisymm le1 le2
    obtain ⟨rfl, rfl, rfl⟩ := k1 rfl
    exact k2 rfl
  · intro a b B x arr elem fr y
    obtain ⟨arr1, elem1, fr1, y1, z1⟩ := h.shape a b B x arr elem fr y
    obtain ⟨arr2, elem2, fr2, y2, z2⟩ := g.shape a b B (h.σ a b B x) arr1 elem1 fr1 y1
    exact ⟨arr2, elem2, fr2, y2, z2.trans z1⟩

theorem Ext.fz {w w' : World} {C C' : Ctx} (h : Ext w C w' C') : Ext w C.fz w' C'.fz := by
  refine ⟨h.size, h.N, h.below, h.S, h.cell, ?_, fun _ _ _ _ _ _ _ x => by simp [Ctx.fz] at x, fun _ _ x => by simp [Ctx.fz] at x, ?_, h.dfr⟩
  · intro a b B x
    cases a with
    | true => exact h.σ true b B x
    | false => simp [Ctx.fz] at x
  · intro a b B x
    cases a with
    | true => exact h.shape true b B x
    | false => simp [Ctx.fz] at x

theorem Ext.cut {w w' : World} {C C' : Ctx} (h : Ext w C w' C') (m t l : Nat) : Ext w (C.cut m t l) w' (C'.cut m t l) := by
  refine ⟨h.size, h.N, h.below, h.S, h.cell, ?_, ?_, ?_, ?_, h.dfr⟩
  · intro a b B x
    cases a with
    | true => exact h.σ true b B x
    | false =>
      simp only [Ctx.cut] at x ⊢
      split at x
      · rename_i hb; rw [if_pos hb]; exact h.σ false b B x
      · cases x
  · intro a i B f to e s x
    cases a with
    | fr =>
      simp only [Ctx.cut] at x ⊢
      split at x
      · rename_i hb; rw [if_pos hb]; exact h.tl _ i B f to e s x
      · cases x
    | bl a b =>
      cases a with
      | true => exact h.tl _ i B f to e s x
      | false =>
        simp only [Ctx.cut] at x ⊢
        split at x
        · rename_i hb; rw [if_pos hb]; exact h.tl _ i B f to e s x
        · cases x
  · intro i B x
    simp only [Ctx.cut] at x ⊢
    split at x
    · rename_i hb; rw [if_pos hb]; exact h.lp i B x
    · cases x
  · intro a b B x
    cases a with
    | true => exact h.shape true b B x
    | false =>
      simp only [Ctx.cut] at x
      split at x
      · exact h.shape false b B x
      · cases x

theorem CapRep.mono {w w' : World} {C C' : Ctx} {base : Option Addr} {len cap sz : Nat} {c : Cap} (h : CapRep C base len cap sz c) (x : Ext w C w' C') : CapRep C' base len cap sz c := by
  cases c with
  | nil => exact h
  | full => exact h
  | dead => exact trivial
  | own a t e =>
    obtain ⟨B, f, to, e', s, h1, h2, h3⟩ := h
    obtain ⟨B', f', to', e2, g1, g2, g3⟩ := x.tl a t B f to e' s h1
    refine ⟨B', f', to', e2, s, g1, Nat.le_trans h2 g2, fun q => ?_⟩
    subst q
    obtain rfl : e = e' := Nat.le_antisymm h2 g2
    obtain ⟨rfl, rfl, rfl⟩ := g3 rfl
    exact h3 rfl

theorem NilCap.mono {w w' : World} {C C' : Ctx} {c : Cap} (h : NilCap C c) (x : Ext w C w' C') : NilCap C' c := by
  cases c with
  | own a t e =>
    obtain ⟨B, f, to, e', s, h1, h2⟩ := h
    obtain ⟨B', f', to', e2, g1, g2, _⟩ := x.tl a t B f to e' s h1
    exact ⟨B', f', to', e2, s, g1, Nat.le_trans h2 g2⟩
  | _ => exact trivial

theorem Rep.mono {w w' : World} {C : Ctx} {x : Value} {p : PV} (h : Rep w C x p) : ∀ {C' : Ctx}, Ext w C w' C' → Rep w' C' x p := by
  induction h with
  | u => exact fun _ => .u
  | v h => exact fun _ => .v h
  | agg h1 h2 _ ih => exact fun e => .agg h1 h2 fun i x p hx hp => ih i x p hx hp e
  | tup h1 _ ih => exact fun e => .tup h1 fun i x p hx hp => ih i x p hx hp e
  | ptr h => exact fun e => .ptr (e.σ _ _ _ h)
  | fp val h1 h2 h3 _ ih => exact fun e => .fp val (fun j p hp => e.S _ _ (h1 j p hp)) (fun j p hp => (e.cell _ _ (h1 j p hp)).trans (h2 j p hp)) h3 fun j p hp => ih j p hp e.fz
  | slnil h =>
    intro C' e
    exact .slnil (h.mono e)
  | sl sz val h1 h2 h3 h4 h5 h6 _ h8 ih =>
    exact fun e => .sl sz val h1 h2 h3 (fun i a j p ha hp => e.S _ _ (h4 i a j p ha hp)) (fun i a j p ha hp => (e.cell _ _ (h4 i a j p ha hp)).trans (h5 i a j p ha hp)) h6
      (fun i a j p ha hp => ih i a j p ha hp e.fz) (h8.mono e)
  | @rs C hh b off len cap sz B arr elem fr h1 h2 h3 h4 =>
    intro C' e
    obtain ⟨arr', elem', fr', y, z⟩ := e.shape _ _ _ h1 arr elem fr h3
    exact .rs (e.σ _ _ _ h1) h2 y (by omega)
  | yld h => exact fun e => .yld (e.lp _ _ h)
  | ni => exact fun _ => .ni
  | it h => exact fun e => .it (e.lp _ _ h)
  | clo h1 _ ih => exact fun e => .clo h1 fun i x p hx hp => ih i x p hx hp e

/-- One of the same memory, whatever else the other one knows. -/
theorem Ext.of_cut (w : World) (C : Ctx) (m t l : Nat) : Ext w (C.cut m t l) w C := by
  refine Ext.same rfl (fun _ _ h => h) ?_ ?_ ?_
  · intro a b B x
    cases a with
    | true => exact x
    | false => simp only [Ctx.cut] at x; split at x <;> first | exact x | cases x
  · intro a i B f to e s x
    refine ⟨B, f, to, e, ?_, Nat.le_refl _, fun _ => ⟨rfl, rfl, rfl⟩⟩
    cases a with
    | fr => simp only [Ctx.cut] at x; split at x <;> first | exact x | cases x
    | bl a b =>
      cases a with
      | true => exact x
      | false => simp only [Ctx.cut] at x; split at x <;> first | exact x | cases x
  · intro i B x
    simp only [Ctx.cut] at x; split at x <;> first | exact x | cases x

theorem Ext.of_fz (w : World) (C : Ctx) : Ext w C.fz w C := by
  refine Ext.same rfl (fun _ _ h => h) ?_ (fun _ _ _ _ _ _ _ x => by simp [Ctx.fz] at x) (fun _ _ x => by simp [Ctx.fz] at x)
  intro a b B x
  cases a with
  | true => exact x
  | false => simp [Ctx.fz] at x

theorem Ext.fz_cut (w : World) (C : Ctx) (m t l : Nat) : Ext w C.fz w (C.cut m t l) := by
  refine Ext.same rfl (fun _ _ h => h) ?_ (fun _ _ _ _ _ _ _ x => by simp [Ctx.fz] at x) (fun _ _ x => by simp [Ctx.fz] at x)
  intro a b B x
  cases a with
  | true => exact x
  | false => simp [Ctx.fz] at x

theorem Ctx.fz_fz (C : Ctx) : C.fz.fz = C.fz := by
  simp only [Ctx.fz]
theorem Ctx.cut_fz (C : Ctx) (m t l : Nat) : (C.cut m t l).fz = C.fz := by
  simp only [Ctx.fz, Ctx.cut]

/-- Which values are one cell. -/
def cellLike : PV → Bool
  | .agg _ | .tup _ | .u => false
  | _ => true
theorem Rep.oneCell {w : World} {C : Ctx} {x : Value} {p : PV} (h : Rep w C x p) (hp : cellLike p = true) : x.oneCell' = true := by
  cases h <;> first | rfl | (simp [cellLike] at hp; done) | skip
  rename_i h; cases x <;> first | rfl | (simp [flatV] at h)

/-! ### the cuts: what lies not on the part of the stack that goes -/
def Ctx.cutS (C : Ctx) (m : Nat) : Ctx := ⟨C.S, fun h b => match h with | true => C.σ true b | false => if b < m then C.σ false b else none,
  fun o i => match o with | .fr => C.tl .fr i | .bl true b => C.tl (.bl true b) i | .bl false b => if b < m then C.tl (.bl false b) i else none, C.lp, C.N⟩

theorem cap_own_cut {ok : Bool} {m : Nat} {C C' : Ctx} (htl : ok = true → ∀ o, (∀ b, o = .bl false b → b < m) → C'.tl o = C.tl o) {o : Ow} {t e : Nat} (hs : Cap.sf ok m (.own o t e) = true) : C'.tl o = C.tl o := by
  simp only [Cap.sf, Bool.and_eq_true] at hs
  refine htl hs.1 o fun b hb => ?_
  subst hb
  simpa [Nat.blt_eq] using hs.2

theorem rep_cut {w : World} {ok : Bool} (m : Nat) {C C' : Ctx} (hS : C'.S = C.S) (hfz : C'.fz = C.fz) (hσ : ∀ h b, (h = false → b < m) → C'.σ h b = C.σ h b)
    (htl : ok = true → ∀ o, (∀ b, o = .bl false b → b < m) → C'.tl o = C.tl o) (hlp : ok = true → C'.lp = C.lp) :
    ∀ (n : Nat) {x : Value} {p : PV}, Rep w C x p → sf ok m n p = true → Rep w C' x p := by
  intro n
  induction n with
  | zero => intro x p _ h; simp [sf] at h
  | succ n ih =>
    intro x p h hs
    cases h with
    | u => exact .u
    | v h => exact .v h
    | agg h1 h2 h3 =>
      simp only [sf, List.all_eq_true] at hs
      exact .agg h1 h2 fun i x p hx hp => ih (h3 i x p hx hp) (hs p (List.mem_of_getElem? hp))
    | tup h1 h3 =>
      simp only [sf, List.all_eq_true] at hs
      exact .tup h1 fun i x p hx hp => ih (h3 i x p hx hp) (hs p (List.mem_of_getElem? hp))
    | clo h1 h3 =>
      simp only [sf, List.all_eq_true, Bool.and_eq_true] at hs
      exact .clo h1 fun i x p hx hp => ih (h3 i x p hx hp) (hs.2 p (List.mem_of_getElem? hp))
    | ni => exact .ni
    | it h1 =>
      refine .it ?_
      rw [hlp (by simpa only [sf] using hs)]; exact h1
    | yld h1 =>
      simp only [sf, Bool.and_eq_true, plainFn, Bool.or_false] at hs
      refine .yld ?_
      rw [hlp hs.1]; exact h1
    | @rs _ h b off len cap sz B arr elem fr h1 h2 h3 h4 =>
      refine .rs ?_ h2 h3 h4
      rw [hσ h b fun e => by subst e; simpa [sf, Nat.blt_eq] using hs]
      exact h1
    | @ptr _ h b off B h1 =>
      refine .ptr ?_
      rw [hσ h b fun e => by subst e; simpa [sf, Nat.blt_eq] using hs]
      exact h1
    | fp val h1 h2 h3 h4 => exact .fp val (by rw [hS]; exact h1) h2 h3 (by rw [hfz]; exact h4)
    | @slnil _ c h1 =>
      refine .slnil ?_
      cases c with
      | own a t e =>
        have := cap_own_cut htl (o := a) (t := t) (e := e) (by simpa only [sf] using hs)
        simp only [NilCap, this] at h1 ⊢
        exact h1
      | _ => exact trivial
    | @sl _ es B o len cap c sz val h1 h2 h3 h4 h5 h6 h7 h8 =>
      refine .sl sz val h1 h2 h3 (by rw [hS]; exact h4) h5 h6 (by rw [hfz]; exact h7) ?_
      cases c with
      | own a t e =>
        have := cap_own_cut htl (o := a) (t := t) (e := e) (by simpa only [sf] using hs)
        simp only [CapRep, this] at h8 ⊢
        exact h8
      | _ => exact h8

theorem rep_cutS {w : World} {m n : Nat} {C : Ctx} {x : Value} {p : PV} (h : Rep w C x p) (hs : sf true m n p = true) : Rep w (C.cutS m) x p :=
  rep_cut (ok := true) (C := C) (C' := C.cutS m) m rfl (by simp only [Ctx.fz, Ctx.cutS]) (fun h b g => by
    cases h with
    | true => rfl
    | false => simp only [Ctx.cutS]; rw [if_pos (g rfl)]) (fun _ o ho => by
    funext i
    cases o with
    | fr => rfl
    | bl a b =>
      cases a with
      | true => rfl
      | false => simp only [Ctx.cutS]; rw [if_pos (ho b rfl)]) (fun _ => rfl) n h hs

theorem rep_cutT {w : World} {m n : Nat} {C : Ctx} {x : Value} {p : PV} (t l : Nat) (h : Rep w C x p) (hs : sf false m n p = true) : Rep w (C.cut m t l) x p :=
  rep_cut (ok := false) (C := C) (C' := C.cut m t l) m rfl (C.cut_fz m t l) (fun h b g => by
    cases h with
    | true => rfl
    | false => simp only [Ctx.cut]; rw [if_pos (g rfl)]) (fun h => by cases h) (fun h => by cases h) n h hs

/-- What means no block of the stack at all, no round, and no room of its own, may be frozen. -/
theorem rep_fz {w : World} {n : Nat} {C : Ctx} {x : Value} {p : PV} (h : Rep w C x p) (hs : sf false 0 n p = true) : Rep w C.fz x p :=
  rep_cut (ok := false) (C := C) (C' := C.fz) 0 rfl (by simp only [Ctx.fz]) (fun h b g => by
    cases h with
    | true => rfl
    | false => exact absurd (g rfl) (by omega)) (fun h => by cases h) (fun h => by cases h) n h hs

/-- canon forgets: what was read still is. -/
theorem rep_canonC {w : World} {C : Ctx} {x : Value} {p : PV} (h : Rep w C x p) : Rep w C x (canonC p) := by
  cases h with
  | slnil h => exact .slnil trivial
  | sl sz val h1 h2 h3 h4 h5 h6 h7 h8 => exact .sl sz val h1 h2 h3 h4 h5 h6 h7 trivial
  | u => exact .u
  | v h => exact .v h
  | agg h1 h2 h3 => exact .agg h1 h2 h3
  | tup h1 h3 => exact .tup h1 h3
  | ptr h => exact .ptr h
  | fp val h1 h2 h3 h4 => exact .fp val h1 h2 h3 h4
  | clo h1 h3 => exact .clo h1 h3
  | rs h1 h2 h3 h4 => exact .rs h1 h2 h3 h4
  | yld h => exact .yld h
  | ni => exact .ni
  | it h => exact .it h
theorem getElem?_map_some {α β : Type} {f : α → β} {l : List α} {i : Nat} {y : β} (h : (l.map f)[i]? = some y) : ∃ x, l[i]? = some x ∧ f x = y := by
  rw [List.getElem?_map] at h
  exact Option.map_eq_some_iff.1 h
theorem rep_canonA {w : World} {C : Ctx} {x : Value} {p : PV} (h : Rep w C x p) : Rep w C x (canonA p) := by
  cases p with
  | agg cs =>
    cases h with
    | agg h1 h2 h3 =>
      refine .agg (by simpa using h1) h2 fun i x p hx hp => ?_
      obtain ⟨q, hq, rfl⟩ := getElem?_map_some hp
      exact rep_canonC (h3 i x q hx hq)
  | _ => exact rep_canonC h
theorem rep_canon {w : World} {C : Ctx} {x : Value} {p : PV} (h : Rep w C x p) : Rep w C x (canon p) := by
  cases p with
  | tup cs =>
    cases h with
    | tup h1 h3 =>
      refine .tup (by simpa using h1) fun i x p hx hp => ?_
      obtain ⟨q, hq, rfl⟩ := getElem?_map_some hp
      exact rep_canonA (h3 i x q hx hq)
  | _ => exact rep_canonA h

end Go.AM
