/- The abstract machine: what goes when a round or a call ends. No condition. -/
import Derived.Test.YtkbhejcfejembaaM13
import Derived.LoopNIn
set_option linter.all false
set_option linter.unusedVariables false
namespace Go.AM
open Go Go.RowKit

section
variable {w : World} {C : Ctx} {st : St} {bs : List (Nat × Nat × Nat)}

theorem bk_take (st : St) (m t l : Nat) (h : Bool) (b : Nat) : (st.back m t l).bk h b = if h = false ∧ ¬ b < m then none else st.bk h b := by
  cases h with
  | true => rfl
  | false =>
    simp only [St.back, St.bk, List.getElem?_take, true_and]
    by_cases q : b < m
    · rw [if_pos q, if_neg (by omega)]
    · rw [if_neg q, if_pos q]
theorem blk_take {st : St} {m t l : Nat} {h : Bool} {b : Nat} {cs : List PV} (x : (st.back m t l).blk h b = some cs) : st.blk h b = some cs ∧ (h = false → b < m) := by
  simp only [St.blk, bk_take] at x ⊢
  split at x
  · cases x
  · rename_i q; exact ⟨x, fun e => by subst e; simpa using q⟩
theorem blk_take' {st : St} {m t l : Nat} {h : Bool} {b : Nat} (x : h = false → b < m) : (st.back m t l).blk h b = st.blk h b := by
  simp only [St.blk, bk_take]
  rw [if_neg]
  rintro ⟨rfl, q⟩
  exact q (x rfl)

/-- Less is known, of a part. -/
theorem Sim.restrict (H : Sim w C st bs) {C' : Ctx} {st' : St} {bs' : List (Nat × Nat × Nat)} (hS : C'.S = C.S) (hN : C'.N = C.N) (hσ : ∀ h b B, C'.σ h b = some B → C.σ h b = some B ∧ st'.blk h b = st.blk h b)
    (htl : ∀ o t y, C'.tl o t = some y → C.tl o t = some y ∧ st'.tok o t = st.tok o t) (hlp : ∀ i B, C'.lp i = some B → C.lp i = some B ∧ st'.lp[i]? = st.lp[i]?)
    (hblk : ∀ h b cs, st'.blk h b = some cs → st.blk h b = some cs ∧ C'.σ h b = C.σ h b) (htok : ∀ o t y, st'.tok o t = some y → st.tok o t = some y ∧ C'.tl o t = C.tl o t)
    (hlp' : ∀ i r, st'.lp[i]? = some r → st.lp[i]? = some r ∧ C'.lp i = C.lp i) (hbs : ∀ x ∈ bs', x ∈ bs) (hbnd : ∀ m t l, (m, t, l) ∈ bs' → m ≤ st'.stk.length ∧ t ≤ st'.tk.length ∧ l ≤ st'.lp.length)
    (hcut : ∀ m t l, (m, t, l) ∈ bs' → C'.cut m t l = C.cut m t l)
    (hrep : ∀ (h : Bool) (b : Nat) (cs : List PV) (o : Nat) (x : Value) (p : PV), st'.blk h b = some cs → cs[o]? = some p → Rep w C x p → (∀ m t l, (m, t, l) ∈ bs → (h = true ∨ b < m) → Rep w (C.cut m t l) x p) → Rep w C' x p)
    (haux : ∀ (i B : Nat) (r : Aux), st'.lp[i]? = some r → AuxAt w C bs i B r → AuxAt w C' bs' i B r) : Sim w C' st' bs' := by
  refine ⟨?_, ?_, ?_, by rw [hS]; exact H.Sok, ?_, ?_, ?_, hbnd, ?_, ?_, ?_, ?_⟩
  · intro h b cs hcs
    obtain ⟨k1, k2⟩ := hblk h b cs hcs
    obtain ⟨B, arr, elem, fr, a1, a2, a3, a4, a5, a6, a7, a8⟩ := H.blk h b cs k1
    refine ⟨B, arr, elem, fr, k2.trans a1, a2, a3, a4, by rw [hS]; exact a5, a6, fun o x p hx hp => hrep h b cs o x p hcs hp (a7 o x p hx hp) fun m t l hm hb => a8 m t l hm hb o x p hx hp, fun m t l hm hb o x p hx hp => ?_⟩
    rw [hcut m t l hm]
    exact a8 m t l (hbs _ hm) hb o x p hx hp
  · intro h b B x
    obtain ⟨k1, k2⟩ := hσ h b B x
    obtain ⟨cs, hcs⟩ := H.dom h b B k1
    exact ⟨cs, k2.trans hcs⟩
  · intro h b h' b' B x y
    obtain ⟨k1, k2⟩ := hσ h b B x
    obtain ⟨g1, g2⟩ := hσ h' b' B y
    rw [k2, g2]
    exact H.inj h b h' b' B k1 g1
  · intro o t B f to e s x
    obtain ⟨k1, k2⟩ := htl o t _ x
    obtain ⟨g1, g2⟩ := H.tok o t B f to e s k1
    refine ⟨k2.trans g1, fun i a b => ?_⟩
    obtain ⟨q1, q2, q3⟩ := g2 i a b
    exact ⟨by rw [hS]; exact q1, ⟨fun h b' q => q2.1 h b' (hσ h b' B q).1, by rw [hN]; exact q2.2⟩, q3⟩
  · intro o t e s x
    obtain ⟨k1, k2⟩ := htok o t _ x
    obtain ⟨B, f, to, y⟩ := H.tokdom o t e s k1
    exact ⟨B, f, to, k2.trans y⟩
  · intro o t o' t' B f to e s f' to' e' s' x y
    exact H.disj o t o' t' B f to e s f' to' e' s' (htl _ _ _ x).1 (htl _ _ _ y).1
  · rw [hN]
    exact ⟨H.low.1, fun h b B x => H.low.2.1 h b B (hσ h b B x).1, fun i B x => H.low.2.2 i B (hlp i B x).1⟩
  · intro i r hr
    obtain ⟨k1, k2⟩ := hlp' i r hr
    obtain ⟨B, a1, a2⟩ := H.lps i r k1
    exact ⟨B, k2.trans a1, haux i B r hr a2⟩
  · intro i B x
    obtain ⟨k1, k2⟩ := hlp i B x
    obtain ⟨r, hr⟩ := H.lpdom i B k1
    exact ⟨r, k2.trans hr⟩
  · intro i i' B x y
    exact H.lpinj i i' B (hlp i B x).1 (hlp i' B y).1

theorem cut_cut (C : Ctx) {m t l m' t' l' : Nat} (h1 : m ≤ m') (h2 : t ≤ t') (h3 : l ≤ l') : (C.cut m' t' l').cut m t l = C.cut m t l := by
  simp only [Ctx.cut, Ctx.mk.injEq, true_and, and_true]
  refine ⟨?_, ?_, ?_⟩
  · funext a b
    cases a with
    | true => rfl
    | false =>
      simp only []
      by_cases q : b < m
      · rw [if_pos q, if_pos q, if_pos (by omega)]
      · rw [if_neg q, if_neg q]
  · funext a b
    cases a with
    | fr =>
      simp only []
      by_cases q : b < t
      · rw [if_pos q, if_pos q, if_pos (by omega)]
      · rw [if_neg q, if_neg q]
    | bl a b' =>
      cases a with
      | true => rfl
      | false =>
        simp only []
        by_cases q : b' < m
        · rw [if_pos q, if_pos q, if_pos (by omega)]
        · rw [if_neg q, if_neg q]
  · funext i
    by_cases q : i < l
    · rw [if_pos q, if_pos q, if_pos (by omega)]
    · rw [if_neg q, if_neg q]

theorem cutS_cut (C : Ctx) {m t l m' : Nat} (h1 : m ≤ m') : (C.cutS m').cut m t l = C.cut m t l := by
  simp only [Ctx.cut, Ctx.cutS, Ctx.mk.injEq, true_and, and_true]
  refine ⟨?_, ?_⟩
  · funext a b
    cases a with
    | true => rfl
    | false =>
      simp only []
      by_cases q : b < m
      · rw [if_pos q, if_pos q, if_pos (by omega)]
      · rw [if_neg q, if_neg q]
  · funext a b
    cases a with
    | fr => rfl
    | bl a b' =>
      cases a with
      | true => rfl
      | false =>
        simp only []
        by_cases q : b' < m
        · rw [if_pos q, if_pos q, if_pos (by omega)]
        · rw [if_neg q, if_neg q]

theorem ext_cut_cutS (w : World) (C : Ctx) {m t l m' : Nat} (h1 : m ≤ m') : Ext w (C.cut m t l) w (C.cutS m') := by
  rw [← cutS_cut C (t := t) (l := l) h1]
  exact Ext.of_cut w _ m t l

theorem tok_take (st : St) (m t l : Nat) {o : Ow} (h : ∀ b, o = .bl false b → b < m) (hf : o ≠ .fr) (i : Nat) : (st.back m t l).tok o i = st.tok o i := by
  cases o with
  | fr => exact absurd rfl hf
  | bl a b =>
    simp only [St.tok, bk_take]
    rw [if_neg]
    rintro ⟨rfl, q⟩
    exact q (h b rfl)

/-- A round's end: the blocks from m on go. -/
theorem Sim.truncS (H : Sim w C st bs) {base m tb lb : Nat} (hb : (base, tb, lb) ∈ bs) (hbm : base ≤ m) (hbase : ∀ m' t l, (m', t, l) ∈ bs → m' ≤ base) (hm : m ≤ st.stk.length)
    (hit : (st.lp.drop lb).all isIter = true) (hsf : ((st.stk.drop base).take (m - base)).all (fun b => b.cs.all (sf true m 4)) = true) : Sim w (C.cutS m) { st with stk := st.stk.take m } bs := by
  have hst : ({ st with stk := st.stk.take m } : St) = st.back m st.tk.length st.lp.length := by
    simp only [St.back, List.take_length]
  have htk : ∀ i, (st.back m st.tk.length st.lp.length).tok .fr i = st.tok .fr i := fun i => by simp [St.back, St.tok]
  have hlpe : (st.back m st.tk.length st.lp.length).lp = st.lp := by simp [St.back]
  rw [hst]
  refine H.restrict rfl rfl ?_ ?_ (fun i B x => ⟨x, by rw [hlpe]⟩) ?_ ?_ (fun i r x => ⟨by rw [hlpe] at x; exact x, rfl⟩) (fun _ x => x) ?_ (fun m' t l hmt => cutS_cut C (Nat.le_trans (hbase m' t l hmt) hbm)) ?_ ?_
  · intro h b B x
    cases h with
    | true => exact ⟨x, rfl⟩
    | false =>
      simp only [Ctx.cutS] at x
      split at x
      · rename_i hlt; exact ⟨x, blk_take' fun _ => hlt⟩
      · cases x
  · intro o t y x
    cases o with
    | fr => exact ⟨x, htk t⟩
    | bl a b =>
      cases a with
      | true => exact ⟨x, tok_take st _ _ _ (by simp) (by simp) t⟩
      | false =>
        simp only [Ctx.cutS] at x
        split at x
        · rename_i hlt; exact ⟨x, tok_take st _ _ _ (fun b' e => by cases e; exact hlt) (by simp) t⟩
        · cases x
  · intro h b cs hcs
    obtain ⟨k1, k2⟩ := blk_take hcs
    refine ⟨k1, ?_⟩
    cases h with
    | true => rfl
    | false => simp only [Ctx.cutS]; rw [if_pos (k2 rfl)]
  · intro o t y x
    cases o with
    | fr => rw [htk] at x; exact ⟨x, rfl⟩
    | bl a b =>
      cases a with
      | true => rw [tok_take st _ _ _ (by simp) (by simp)] at x; exact ⟨x, rfl⟩
      | false =>
        by_cases hlt : b < m
        · rw [tok_take st _ _ _ (fun b' e => by cases e; exact hlt) (by simp)] at x
          exact ⟨x, by simp only [Ctx.cutS]; rw [if_pos hlt]⟩
        · simp only [St.tok, bk_take] at x
          rw [if_pos ⟨trivial, hlt⟩] at x
          cases x
  · intro m' t l hmt
    have h1 := H.bnd m' t l hmt
    have h2 := hbase m' t l hmt
    simp [St.back]
    omega
  · intro h b cs o x p hcs hp hr hc
    obtain ⟨hcs, hlt⟩ := blk_take hcs
    by_cases q : h = true ∨ b < base
    · exact (hc base tb lb hb q).mono (ext_cut_cutS w C hbm)
    · have hf : h = false := by cases h with | true => exact absurd (Or.inl rfl) q | false => rfl
      subst hf
      have hge : base ≤ b := Nat.le_of_not_lt fun z => q (Or.inr z)
      have hbm' := hlt rfl
      obtain ⟨blk, hblk, rfl⟩ := Option.map_eq_some_iff.1 hcs
      have hmem : blk ∈ (st.stk.drop base).take (m - base) := by
        refine List.mem_of_getElem? (i := b - base) ?_
        rw [List.getElem?_take, if_pos (by omega), List.getElem?_drop, show base + (b - base) = b by omega]
        exact hblk
      rw [List.all_eq_true] at hsf
      have := hsf blk hmem
      rw [List.all_eq_true] at this
      exact rep_cutS hr (this p (List.mem_of_getElem? hp))
  · intro i B r hr ha
    rw [hlpe] at hr
    cases r with
    | iter s pos => exact ha
    | loop r =>
      have hi : i < lb := by
        rcases Nat.lt_or_ge i lb with z | z
        · exact z
        · exfalso
          rw [List.all_eq_true] at hit
          have hmem : Aux.loop r ∈ st.lp.drop lb := List.mem_of_getElem? (i := i - lb) (by rw [List.getElem?_drop, show lb + (i - lb) = i by omega]; exact hr)
          have := hit _ hmem
          simp [isIter] at this
      obtain ⟨fn, D, tmps, h1, h2, h3, h4⟩ := ha
      refine ⟨fn, D, tmps, h1, h2, fun j => (h4 base tb lb hb hi j).mono (ext_cut_cutS w C hbm), fun m' t l hm' hl j => ?_⟩
      rw [cutS_cut C (Nat.le_trans (hbase m' t l hm') hbm)]
      exact h4 m' t l hm' hl j

theorem ext_cutS {w' : World} {C0 : Ctx} {m : Nat} (h : Ext w C0 w' C) (hm : ∀ b B, C0.σ false b = some B → b < m) (ht : ∀ b t y, C0.tl (.bl false b) t = some y → b < m) : Ext w C0 w' (C.cutS m) := by
  refine ⟨h.size, h.N, h.below, h.S, h.cell, fun a b B x => ?_, fun o t B f to e s x => ?_, h.lp, h.shape, h.dfr⟩
  · cases a with
    | true => exact h.σ true b B x
    | false => simp only [Ctx.cutS]; rw [if_pos (hm b B x)]; exact h.σ false b B x
  · cases o with
    | fr => exact h.tl _ t B f to e s x
    | bl a b =>
      cases a with
      | true => exact h.tl _ t B f to e s x
      | false => simp only [Ctx.cutS]; rw [if_pos (ht b t _ x)]; exact h.tl _ t B f to e s x

/-- A call's end: what it laid on the stack goes, the tokens that it took, and the loops. -/
theorem Sim.leave {m0 t0 l0 : Nat} (H : Sim w C st bs) (h0 : (m0, t0, l0) ∈ bs) {bs' : List (Nat × Nat × Nat)} (hin : ∀ x ∈ bs', x ∈ bs) (hbs : ∀ m t l, (m, t, l) ∈ bs' → m ≤ m0 ∧ t ≤ t0 ∧ l ≤ l0) : Sim w (C.cut m0 t0 l0) (st.back m0 t0 l0) bs' := by
  have hhead := H.bnd m0 t0 l0 h0
  refine H.restrict rfl rfl ?_ ?_ ?_ ?_ ?_ ?_ hin ?_ (fun m t l hmt => cut_cut C (hbs m t l hmt).1 (hbs m t l hmt).2.1 (hbs m t l hmt).2.2) ?_ ?_
  · intro h b B x
    cases h with
    | true => exact ⟨x, rfl⟩
    | false =>
      simp only [Ctx.cut] at x
      split at x
      · rename_i hlt; exact ⟨x, blk_take' fun _ => hlt⟩
      · cases x
  · intro o t y x
    cases o with
    | fr =>
      simp only [Ctx.cut] at x
      split at x
      · rename_i hlt; exact ⟨x, by simp only [St.tok, St.back, List.getElem?_take]; rw [if_pos hlt]⟩
      · cases x
    | bl a b =>
      cases a with
      | true => exact ⟨x, tok_take st _ _ _ (by simp) (by simp) t⟩
      | false =>
        simp only [Ctx.cut] at x
        split at x
        · rename_i hlt; exact ⟨x, tok_take st _ _ _ (fun b' e => by cases e; exact hlt) (by simp) t⟩
        · cases x
  · intro i B x
    simp only [Ctx.cut] at x
    split at x
    · rename_i hlt; exact ⟨x, by simp only [St.back, List.getElem?_take]; rw [if_pos hlt]⟩
    · cases x
  · intro h b cs hcs
    obtain ⟨k1, k2⟩ := blk_take hcs
    refine ⟨k1, ?_⟩
    cases h with
    | true => rfl
    | false => simp only [Ctx.cut]; rw [if_pos (k2 rfl)]
  · intro o t y x
    cases o with
    | fr =>
      simp only [St.tok, St.back, List.getElem?_take] at x
      split at x
      · rename_i hlt; exact ⟨x, by simp only [Ctx.cut]; rw [if_pos hlt]⟩
      · cases x
    | bl a b =>
      cases a with
      | true => rw [tok_take st _ _ _ (by simp) (by simp)] at x; exact ⟨x, rfl⟩
      | false =>
        by_cases hlt : b < m0
        · rw [tok_take st _ _ _ (fun b' e => by cases e; exact hlt) (by simp)] at x
          exact ⟨x, by simp only [Ctx.cut]; rw [if_pos hlt]⟩
        · simp only [St.tok, bk_take] at x
          rw [if_pos ⟨trivial, hlt⟩] at x
          cases x
  · intro i r x
    simp only [St.back, List.getElem?_take] at x
    split at x
    · rename_i hlt; exact ⟨x, by simp only [Ctx.cut]; rw [if_pos hlt]⟩
    · cases x
  · intro m t l hmt
    have h1 := H.bnd m t l (hin _ hmt)
    have h2 := hbs m t l hmt
    simp [St.back]
    omega
  · intro h b cs o x p hcs hp hr hc
    obtain ⟨hcs, hlt⟩ := blk_take hcs
    exact hc m0 t0 l0 h0 (by cases h with | true => exact Or.inl rfl | false => exact Or.inr (hlt rfl))
  · intro i B r hr ha
    simp only [St.back, List.getElem?_take] at hr
    split at hr
    · rename_i hlt
      cases r with
      | iter s pos => exact ha
      | loop r =>
        obtain ⟨fn, D, tmps, h1, h2, h3, h4⟩ := ha
        refine ⟨fn, D, tmps, h1, h2, h4 m0 t0 l0 h0 hlt, fun m t l hm hl j => ?_⟩
        rw [cut_cut C (hbs m t l hm).1 (hbs m t l hm).2.1 (hbs m t l hm).2.2]
        exact h4 m t l (hin _ hm) hl j
    · cases hr

theorem ext_leave {w' : World} {C0 : Ctx} {m t l : Nat} (h : Ext w C0 w' C) (hm : ∀ b B, C0.σ false b = some B → b < m) (ht : ∀ i y, C0.tl .fr i = some y → i < t) (hb : ∀ b i y, C0.tl (.bl false b) i = some y → b < m) (hl : ∀ i B, C0.lp i = some B → i < l) : Ext w C0 w' (C.cut m t l) := by
  refine ⟨h.size, h.N, h.below, h.S, h.cell, fun a b B x => ?_, fun o i B f to e s x => ?_, fun i B x => ?_, h.shape, h.dfr⟩
  · cases a with
    | true => exact h.σ true b B x
    | false => simp only [Ctx.cut]; rw [if_pos (hm b B x)]; exact h.σ false b B x
  · cases o with
    | fr => simp only [Ctx.cut]; rw [if_pos (ht i _ x)]; exact h.tl _ i B f to e s x
    | bl a b =>
      cases a with
      | true => exact h.tl _ i B f to e s x
      | false => simp only [Ctx.cut]; rw [if_pos (hb b i _ x)]; exact h.tl _ i B f to e s x
  · simp only [Ctx.cut]; rw [if_pos (hl i B x)]; exact h.lp i B x

/-- All that is told at a frame's beginning lies below it. -/
theorem Sim.ext_back (H : Sim w C st bs) {w' : World} {C' : Ctx} (h : Ext w C w' C') : Ext w C w' (C'.cut st.stk.length st.tk.length st.lp.length) := by
  refine ext_leave h (fun b B z => H.σstk z) (fun i y z => ?_) (fun b i y z => ?_) (fun i B z => ?_)
  · rcases Nat.lt_or_ge i st.tk.length with z' | z'
    · exact z'
    · rw [H.tlnone z'] at z; cases z
  · rcases Nat.lt_or_ge b st.stk.length with z' | z'
    · exact z'
    · rw [H.tlbnone (a := false) z' i] at z; cases z
  · rcases Nat.lt_or_ge i st.lp.length with z' | z'
    · exact z'
    · rw [H.lpnone z'] at z; cases z

/-! ### environments -/
theorem mkEnvI_get (vs : List PV) : ∀ (is : List Nat) (j i : Nat), mkEnvI vs is j i = .u ∨ ∃ k, is[k]? = some i ∧ mkEnvI vs is j i = nth vs (j + k)
  | [], j, i => Or.inl rfl
  | a :: is, j, i => by
    simp only [mkEnvI, upd]
    cases h : Nat.beq i a with
    | true =>
      have := Nat.eq_of_beq_eq_true h
      subst this
      exact Or.inr ⟨0, rfl, rfl⟩
    | false =>
      simp only [cond_false]
      rcases mkEnvI_get vs is (j + 1) i with h1 | ⟨k, h1, h2⟩
      · exact Or.inl h1
      · exact Or.inr ⟨k + 1, by simpa using h1, by rw [h2]; congr 1; omega⟩

theorem RelE.live {lo : Nat} {e : Env} {n : Nat} {a : Act} (h : RelE lo w C e n a) (live : List Nat) : RelE lo w C (mkEnv live (live.map e)) n a := by
  refine ⟨h.size, fun i => ?_, h.defers⟩
  rcases mkEnvI_get (live.map e) live 0 i with q | ⟨k, q1, q2⟩
  · unfold mkEnv; rw [q]; exact .u
  · unfold mkEnv
    rw [q2, Nat.zero_add]
    have : nth (live.map e) k = e i := by simp [nth, q1]
    rw [this]
    exact h.rep i

/-- Values that mean no block from m on: an environment of such stays one when these go. -/
theorem RelE.cutS {lo n : Nat} {a : Act} {live : List Nat} {vs : List PV} {m : Nat} (h : RelE lo w C (mkEnv live vs) n a) (hs : vs.all (sf true m 4) = true) : RelE lo w (C.cutS m) (mkEnv live vs) n a := by
  refine ⟨h.size, fun i => ?_, h.defers⟩
  have hi := h.rep i
  rcases mkEnvI_get vs live 0 i with q | ⟨k, q1, q2⟩
  · unfold mkEnv; rw [q]; exact .u
  · unfold mkEnv at hi ⊢
    rw [q2, Nat.zero_add] at hi ⊢
    cases hv : vs[k]? with
    | none => simp only [nth, List.getD, hv]; exact .u
    | some p =>
      simp only [nth, List.getD, hv, Option.getD_some] at hi ⊢
      rw [List.all_eq_true] at hs
      exact rep_cutS hi (hs p (List.mem_of_getElem? hv))

theorem argEnv_get : ∀ (ps : List PV) (j i : Nat), argEnv j ps i = if j ≤ i then (ps[i - j]?).getD .u else .u
  | [], j, i => by simp [argEnv]
  | p :: ps, j, i => by
    simp only [argEnv, upd]
    cases h : Nat.beq i j with
    | true =>
      have := Nat.eq_of_beq_eq_true h
      subst this
      simp
    | false =>
      have hne : i ≠ j := Nat.ne_of_beq_eq_false h
      simp only [cond_false]
      rw [argEnv_get ps (j + 1) i]
      by_cases q : j ≤ i
      · rw [if_pos (by omega), if_pos q, show i - j = (i - (j + 1)) + 1 by omega, List.getElem?_cons_succ]
      · rw [if_neg (by omega), if_neg q]

theorem RelE.enter {args : List PV} {xs : Array Value} {n : Nat} (hs : xs.size = args.length) (hn : args.length ≤ n) (hr : ∀ (i : Nat) (x : Value) (p : PV), xs[i]? = some x → args[i]? = some p → Rep w C x p) :
    RelE w.heap.size w C (argEnv 0 args) n { tmps := xs ++ Array.replicate (n - xs.size) undef, defers := [] } := by
  refine ⟨by simp; omega, fun i => ?_, Marks.nil (Nat.le_refl _)⟩
  rw [argEnv_get args 0 i, if_pos (Nat.zero_le _), Nat.sub_zero]
  cases hp : args[i]? with
  | none => exact .u
  | some p =>
    have hi := (List.getElem?_eq_some_iff.1 hp).1
    have hx : xs[i]? = some (xs[i]'(by omega)) := Array.getElem?_eq_getElem (by omega)
    have : (xs ++ Array.replicate (n - xs.size) undef).getD i undef = xs[i]'(by omega) := by
      rw [Array.getD_eq_getD_getElem?, Array.getElem?_append_left (by omega), hx]; rfl
    simp only [this]
    exact hr i _ p hx hp

end
end Go.AM
