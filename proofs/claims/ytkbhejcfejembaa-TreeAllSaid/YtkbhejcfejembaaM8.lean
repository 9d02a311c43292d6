/- The abstract machine: reading and writing cells, new blocks, slices of slices. No condition. -/
import Derived.Test.YtkbhejcfejembaaM7
set_option linter.all false
set_option linter.unusedVariables false
namespace Go.AM
open Go

section
variable {P : Program} {w : World} {C : Ctx} {st : St} {bs : List (Nat × Nat × Nat)}

theorem tells_view {t : TypeId} {d : TypeDesc} {B o off : Nat} {cs : List PV} {r : PV} (hu : P.underlying t = some d)
    (hv : ∀ (j : Nat) (q : PV), cs[j]? = some q → ∃ y, w.cell? ⟨B, o + j, none⟩ = some y ∧ y.oneCell' = true ∧ Rep w C y q)
    (h : AM.part (aggT P t) (szT P t) off cs = some r) : Tells P w C (loadVar t ⟨B, o + off, none⟩) r := by
  unfold Tells loadVar
  rw [Sem.run_bind, run_isAgg hu]
  simp only [Result.andThen_ok]
  cases ha : aggT P t with
  | true =>
    rw [ha] at h
    simp only [AM.part] at h
    cases hb : Nat.ble (off + szT P t) cs.length with
    | false => rw [hb] at h; simp at h
    | true =>
      rw [hb] at h
      obtain rfl := Option.some.inj h
      have hle := Nat.le_of_ble_eq_true hb
      have hval : ∀ j, j < szT P t → ∃ y, w.cell? ⟨B, o + off + j, none⟩ = some y ∧ y.oneCell' = true ∧ Rep w C y (cs[off + j]?.getD .u) := by
        intro j hj
        have hget : cs[off + j]? = some (cs[off + j]'(by omega)) := List.getElem?_eq_getElem (by omega)
        obtain ⟨y, y1, y2, y3⟩ := hv (off + j) _ hget
        exact ⟨y, by rw [← y1]; congr 2; omega, y2, by rw [hget]; exact y3⟩
      have hch : ∃ f : Nat → Value, ∀ j, j < szT P t → w.cell? ⟨B, o + off + j, none⟩ = some (f j) ∧ (f j).oneCell' = true ∧ Rep w C (f j) (cs[off + j]?.getD .u) := by
        refine ⟨fun j => if hj : j < szT P t then (hval j hj).choose else .nilFunc, fun j hj => ?_⟩
        simp only [dif_pos hj]
        exact (hval j hj).choose_spec
      obtain ⟨f, hf⟩ := hch
      refine ⟨.agg ((List.range (szT P t)).map f).toArray, ?_, .agg (by simp; omega) ?_ ?_⟩
      · simp only [if_true, Sem.run_bind, run_sizeOf hu, Result.andThen_ok]
        rw [run_loadCells w _ (szT P t) f fun j hj => by rw [add_mk]; exact (hf j hj).1]
        rfl
      · intro i x hx
        rw [List.getElem?_toArray] at hx
        obtain ⟨j, hj, rfl⟩ := getElem?_map_some hx
        have hj' := List.getElem?_eq_some_iff.1 hj
        obtain ⟨hj1, hj2⟩ := hj'
        rw [List.length_range] at hj1
        rw [List.getElem_range] at hj2
        subst hj2
        exact (hf i hj1).2.1
      · intro i x p hx hp
        rw [List.getElem?_toArray] at hx
        obtain ⟨j, hj, rfl⟩ := getElem?_map_some hx
        have hj' := List.getElem?_eq_some_iff.1 hj
        obtain ⟨hj1, hj2⟩ := hj'
        rw [List.length_range] at hj1
        rw [List.getElem_range] at hj2
        subst hj2
        rw [List.getElem?_take, if_pos hj1, List.getElem?_drop] at hp
        have := (hf i hj1).2.2
        rw [hp] at this
        exact this
  | false =>
    rw [ha] at h
    simp only [AM.part] at h
    obtain ⟨y, y1, y2, y3⟩ := hv off r h
    exact ⟨y, by simp [y1], y3⟩

theorem Sim.view (H : Sim w C st bs) {h : Bool} {b B : Nat} {cs : List PV} (hσ : C.σ h b = some B) (hb : st.blk h b = some cs) :
    ∀ (j : Nat) (q : PV), cs[j]? = some q → ∃ y, w.cell? ⟨B, 0 + j, none⟩ = some y ∧ y.oneCell' = true ∧ Rep w C y q := by
  intro j q hq
  obtain ⟨B', arr, elem, fr, a1, a2, a3, a4, a5, a6, a7, a8⟩ := H.blk h b cs hb
  rw [hσ] at a1
  obtain rfl := Option.some.inj a1
  have hj := (List.getElem?_eq_some_iff.1 hq).1
  have hget : arr[j]? = some (arr[j]'(by omega)) := Array.getElem?_eq_getElem (by omega)
  exact ⟨_, by simp [World.cell?, a2, hget], a6 j _ hget, a7 j _ q hget hq⟩

theorem tells_load (H : Sim w C st bs) {t : TypeId} {x : Value} {p r : PV} (hu : ∃ d, P.underlying t = some d) (h : aLoad (aggT P t) (szT P t) p st = some r) (hx : Rep w C x p) :
    Tells P w C (Instr.loadAt t x) r := by
  obtain ⟨d, hu⟩ := hu
  unfold aLoad at h
  split at h
  · obtain ⟨cs, hcs, h⟩ := Option.bind_eq_some_iff.1 h
    cases hx with
    | @ptr _ a b off B hb =>
      obtain ⟨v, hv, hr⟩ := tells_view hu (H.view hb hcs) h
      rw [Nat.zero_add] at hv
      exact ⟨v, by simpa [Instr.loadAt, Instr.sureAddr] using hv, hr⟩
  · cases hx with
    | @fp _ cs off B o val h1 h2 h3 h4 =>
      obtain ⟨v, hv, hr⟩ := tells_view (o := o) hu (fun j q hq => ⟨val j, h2 j q hq, h3 j q hq, (h4 j q hq).mono (Ext.of_fz w C)⟩) h
      exact ⟨v, by simpa [Instr.loadAt, Instr.sureAddr] using hv, hr⟩
  · cases h

/-! ### plain cells -/
theorem rep_recap {C' : Ctx} {x : Value} {es : List (List PV)} {c c' : Cap} (h : Rep w C x (.sl es c)) (hS : C'.S = C.S) (hfz : C'.fz = C.fz)
    (hc : ∀ base len cap sz, CapRep C base len cap sz c → CapRep C' base len cap sz c') (hn : NilCap C c → NilCap C' c') : Rep w C' x (.sl es c') := by
  cases h with
  | slnil h => exact .slnil (hn h)
  | sl sz val h1 h2 h3 h4 h5 h6 h7 h8 => exact .sl sz val h1 h2 h3 (by rw [hS]; exact h4) h5 h6 (by rw [hfz]; exact h7) (hc _ _ _ _ h8)

theorem fz_σ {C C' : Ctx} (hfz : C'.fz = C.fz) (b : Nat) : C'.σ true b = C.σ true b := by
  have : (C'.fz).σ true b = (C.fz).σ true b := by rw [hfz]
  exact this

theorem plain_rep {x : Value} {p q : PV} (h : plainC p = some q) (hx : Rep w C x p) {C' : Ctx} (hS : C'.S = C.S) (hfz : C'.fz = C.fz) : Rep w C' x q := by
  have hσt := fz_σ hfz
  unfold plainC at h
  split at h
  · obtain rfl := Option.some.inj h
    exact rep_recap hx hS hfz (fun _ _ _ _ _ => trivial) (fun _ => trivial)
  · obtain rfl := Option.some.inj h
    cases hx with
    | v hf => exact .v hf
  · obtain rfl := Option.some.inj h
    cases hx with
    | ptr hb => exact .ptr (by rw [hσt]; exact hb)
  · obtain rfl := Option.some.inj h
    cases hx with
    | rs h1 h2 h3 h4 => exact .rs (by rw [hσt]; exact h1) h2 h3 h4
  · obtain rfl := Option.some.inj h
    cases hx with
    | fp val h1 h2 h3 h4 => exact .fp val (by rw [hS]; exact h1) h2 h3 (by rw [hfz]; exact h4)
  · obtain rfl := Option.some.inj h
    cases hx with
    | ni => exact .ni
  · rename_i f caps
    cases hs : plainFn f && caps.all (sf false 0 3) with
    | false => rw [hs] at h; simp at h
    | true =>
      rw [hs] at h
      obtain rfl := Option.some.inj h
      rw [Bool.and_eq_true] at hs
      refine rep_cut (ok := false) (C := C) (C' := C') 0 hS hfz (fun a b g => ?_) (fun h => by cases h) (fun h => by cases h) 4 hx (by simp only [sf, Bool.and_eq_true]; exact ⟨by rw [hs.1]; rfl, hs.2⟩)
      cases a with
      | true => exact hσt b
      | false => exact absurd (g rfl) (by omega)
  · cases h

theorem plain_one {p q : PV} (h : plainC p = some q) {x : Value} (hx : Rep w C x p) : cellLike q = true := by
  unfold plainC at h
  split at h <;> first | (obtain rfl := Option.some.inj h; rfl) | skip
  · rename_i f caps
    cases hs : plainFn f && caps.all (sf false 0 3) with
    | false => rw [hs] at h; simp at h
    | true => rw [hs] at h; obtain rfl := Option.some.inj h; rfl
  · cases h

theorem plainCs_get : ∀ {cs ds : List PV}, plainCs cs = some ds → ds.length = cs.length ∧ ∀ (i : Nat) (q : PV), ds[i]? = some q → ∃ p, cs[i]? = some p ∧ plainC p = some q
  | [], ds, h => by obtain rfl := Option.some.inj h; exact ⟨rfl, by simp⟩
  | c :: cs, ds, h => by
    simp only [plainCs] at h
    obtain ⟨q, hq, h⟩ := Option.bind_eq_some_iff.1 h
    obtain ⟨qs, hqs, h⟩ := Option.bind_eq_some_iff.1 h
    obtain rfl := Option.some.inj h
    obtain ⟨h1, h2⟩ := plainCs_get hqs
    refine ⟨by simp [h1], fun i r hr => ?_⟩
    cases i with
    | zero => simp at hr; subst hr; exact ⟨c, rfl, hq⟩
    | succ i => simp at hr; simpa using h2 i r hr

/-! ### a token goes to a block -/
theorem tok_setTok {st : St} {o : Ow} {t : Nat} {y z : Nat × Nat} (hy : st.tok o t = some y) (o' : Ow) (t' : Nat) : (st.setTok o t z).tok o' t' = open Classical in if o' = o ∧ t' = t then some z else st.tok o' t' := by
  classical
  have key : ∀ l : List (Nat × Nat), l[t]? = some y → (l.set t z)[t']? = if t' = t then some z else l[t']? := by
    intro l hl
    rw [List.getElem?_set]
    have := (List.getElem?_eq_some_iff.1 hl).1
    by_cases e : t = t'
    · subst e; simp [this]
    · rw [if_neg e, if_neg (Ne.symm e)]
  cases o with
  | fr =>
    cases o' with
    | fr => simp only [St.tok, St.setTok] at hy ⊢; rw [key _ hy]; simp
    | bl h b => rw [if_neg (by simp)]; cases h <;> rfl
  | bl h b =>
    cases o' with
    | fr => rw [if_neg (by simp)]; simp only [St.tok, St.setTok, tk_upB]
    | bl h' b' =>
      simp only [St.tok, St.setTok, bk_upB] at hy ⊢
      by_cases e : h' = h ∧ b' = b
      · obtain ⟨rfl, rfl⟩ := e
        rw [if_pos ⟨rfl, rfl⟩]
        cases hb : st.bk h' b' with
        | none => rw [hb] at hy; cases hy
        | some x =>
          rw [hb] at hy
          simp only [Option.map_some, Option.bind_some] at hy ⊢
          rw [key _ hy]; simp
      · rw [if_neg e, if_neg (fun q => e ⟨by injection q.1, by injection q.1⟩)]

theorem blk_setTok (st : St) (o : Ow) (t : Nat) (z : Nat × Nat) (h : Bool) (b : Nat) : (st.setTok o t z).blk h b = st.blk h b := by
  cases o with
  | fr => cases h <;> rfl
  | bl h' b' =>
    simp only [St.setTok, St.blk, bk_upB]
    split
    · rename_i e; obtain ⟨rfl, rfl⟩ := e
      cases st.bk h b <;> rfl
    · rfl
theorem blk_pushBTok (st : St) (h' : Bool) (b' : Nat) (z : Nat × Nat) (h : Bool) (b : Nat) : (st.pushBTok h' b' z).blk h b = st.blk h b := by
  simp only [St.pushBTok, St.blk, bk_upB]
  split
  · rename_i e; obtain ⟨rfl, rfl⟩ := e
    cases st.bk h b <;> rfl
  · rfl
theorem lp_setTok (st : St) (o : Ow) (t : Nat) (z : Nat × Nat) : (st.setTok o t z).lp = st.lp := by
  cases o with
  | fr => rfl
  | bl h b => exact lp_upB st h b _
theorem stk_setTok (st : St) (o : Ow) (t : Nat) (z : Nat × Nat) : (st.setTok o t z).stk.length = st.stk.length := by
  cases o with
  | fr => rfl
  | bl h b => exact len_upB st h b _ false
theorem tk_setTok (st : St) (o : Ow) (t : Nat) (z : Nat × Nat) : (st.setTok o t z).tk.length = st.tk.length := by
  cases o with
  | fr => simp [St.setTok]
  | bl h b => rw [St.setTok, tk_upB]

/-- What a token's going on takes: which state, and that it is one more or one further. -/
structure Goes (st st' : St) (o : Ow) (t e s : Nat) : Prop where
  blk : ∀ a b, st'.blk a b = st.blk a b
  tok : ∀ o' t', st'.tok o' t' = open Classical in if o' = o ∧ t' = t then some (e, s) else st.tok o' t'
  stk : st'.stk.length = st.stk.length
  tk : st.tk.length ≤ st'.tk.length
  lp : st'.lp = st.lp

theorem goes_set {st : St} {o : Ow} {t : Nat} {y : Nat × Nat} {e s : Nat} (hy : st.tok o t = some y) : Goes st (st.setTok o t (e, s)) o t e s :=
  ⟨fun a b => blk_setTok st o t _ a b, fun o' t' => tok_setTok hy o' t', stk_setTok st o t _, Nat.le_of_eq (tk_setTok st o t _).symm, lp_setTok st o t _⟩

theorem tok_pushTok {st : St} {y : Nat × Nat} (o : Ow) (t' : Nat) : (st.pushTok y).tok o t' = open Classical in if o = .fr ∧ t' = st.tk.length then some y else st.tok o t' := by
  classical
  cases o with
  | bl h b => rw [if_neg (by simp)]; rfl
  | fr =>
    simp only [St.pushTok, St.tok, true_and]
    rw [List.getElem?_append]
    split
    · rename_i hlt; rw [if_neg (by omega)]
    · rename_i hlt
      by_cases e : t' = st.tk.length
      · subst e; simp
      · rw [if_neg e, List.getElem?_eq_none (by simp; omega), List.getElem?_eq_none (by omega)]
theorem goes_push {st : St} {e s : Nat} : Goes st (st.pushTok (e, s)) .fr st.tk.length e s :=
  ⟨fun a b => by cases a <;> rfl, fun h' t' => tok_pushTok h' t', rfl, by simp [St.pushTok], rfl⟩

theorem goes_pushB {st : St} {h : Bool} {b e s : Nat} {cs : List PV} (hb : st.blk h b = some cs) : Goes st (st.pushBTok h b (e, s)) (.bl h b) (st.ntok h b) e s := by
  classical
  refine ⟨fun a b' => blk_pushBTok st h b _ a b', fun o t' => ?_, len_upB st h b _ false, by rw [St.pushBTok, tk_upB]; exact Nat.le_refl _, lp_upB st h b _⟩
  obtain ⟨x, hx, _⟩ := Option.map_eq_some_iff.1 hb
  cases o with
  | fr => rw [if_neg (by simp)]; simp only [St.tok, St.pushBTok, tk_upB]
  | bl h' b' =>
    simp only [St.tok, St.pushBTok, bk_upB]
    by_cases q : h' = h ∧ b' = b
    · obtain ⟨rfl, rfl⟩ := q
      rw [if_pos ⟨rfl, rfl⟩, hx]
      have hn : st.ntok h' b' = x.tk.length := by simp only [St.ntok, hx]
      rw [hn]
      simp only [Option.map_some, Option.bind_some, true_and]
      rw [List.getElem?_append]
      split
      · rename_i hlt; rw [if_neg (by omega)]
      · rename_i hlt
        by_cases e' : t' = x.tk.length
        · subst e'; simp
        · rw [if_neg e', List.getElem?_eq_none (by simp; omega), List.getElem?_eq_none (by omega)]
    · rw [if_neg q, if_neg (fun z => q ⟨by injection z.1, by injection z.1⟩)]

theorem ntok_none {st : St} {h : Bool} {b : Nat} : st.tok (.bl h b) (st.ntok h b) = none := by
  simp only [St.tok, St.ntok]
  cases st.bk h b with
  | none => rfl
  | some x => simp

theorem Sim.tl_none (H : Sim w C st bs) {o : Ow} {t : Nat} (h : st.tok o t = none) : C.tl o t = none := by
  cases q : C.tl o t with
  | none => rfl
  | some y =>
    obtain ⟨B, f, to, e', s'⟩ := y
    have := (H.tok o t B f to e' s' q).1
    rw [h] at this
    cases this

/-- A token is laid aside: nothing is told of its room. -/
theorem Sim.drop (H : Sim w C st bs) {st' : St} {o : Ow} {t e s : Nat} (hg : Goes st st' o t e s) (hgo : ∀ y, C.tl o t = some y → y.2.2.2.2 = s ∧ y.2.2.2.1 < e) :
    Sim w (C.claim (fun _ _ => False) o t (0, 0, 0, e, s)) st' bs ∧ Ext w C w (C.claim (fun _ _ => False) o t (0, 0, 0, e, s)) :=
  H.claim hg.blk hg.tok hg.stk hg.tk hg.lp (fun _ _ q => q.elim) (fun o a b => by omega) (fun h' t' B' f' to' e' s' y q o a b => ⟨fun q => q, fun _ => Or.inr (by omega)⟩)
    (fun B' f' to' e' s' y => by obtain ⟨h1, h2⟩ := hgo _ y; exact ⟨h1, Nat.le_of_lt h2, fun q => by simp only at h2; omega⟩)

theorem claim_tl (C : Ctx) (X : Nat → Nat → Prop) (o : Ow) (t : Nat) (y : Nat × Nat × Nat × Nat × Nat) : (C.claim X o t y).tl o t = some y := by simp [Ctx.claim]
theorem claim_ne (C : Ctx) (X : Nat → Nat → Prop) {o o' : Ow} {t t' : Nat} (y : Nat × Nat × Nat × Nat × Nat) (h : ¬ (o' = o ∧ t' = t)) : (C.claim X o t y).tl o' t' = C.tl o' t' := by simp only [Ctx.claim]; rw [if_neg h]

/-- A token goes from one owner to another one. -/
theorem Sim.move (H : Sim w C st bs) {st1 st2 : St} {o o2 : Ow} {t t2 B f to e s : Nat} (htl : C.tl o t = some (B, f, to, e, s)) (hne : ¬ (o2 = o ∧ t2 = t)) (hno : C.tl o2 t2 = none)
    (h1 : Goes st st1 o t (e + 1) s) (h2 : Goes st1 st2 o2 t2 e s) :
    ∃ C', Sim w C' st2 bs ∧ Ext w C w C' ∧ C'.tl o2 t2 = some (B, f, to, e, s) := by
  obtain ⟨k1, k2⟩ := H.drop h1 (fun y hy => by rw [htl] at hy; cases hy; exact ⟨rfl, Nat.lt_succ_self _⟩)
  have htok := (H.tok o t B f to e s htl).2
  obtain ⟨g1, g2⟩ := k1.claim (st' := st2) (X := fun _ _ => False) (o := o2) (t := t2) (B := B) (f := f) (to := to) (e := e) (s := s) h2.blk h2.tok h2.stk h2.tk h2.lp (fun _ _ q => q.elim)
    (fun i a b => by
      obtain ⟨g1, g2, g3⟩ := htok i a b
      exact ⟨⟨fun z => z.elim g1 fun z => z, g2, g3⟩, fun q => q⟩)
    (fun o' t' B' f' to' e' s' y q i a b => ⟨fun q => q, fun z => by
      subst z
      by_cases q2 : o' = o ∧ t' = t
      · obtain ⟨rfl, rfl⟩ := q2
        rw [claim_tl] at y
        cases y
        omega
      · rw [claim_ne _ _ _ q2] at y
        rcases H.disj o' t' o t B' f' to' e' s' f to e s y htl with k | k
        · exact absurd k q2
        · by_cases i < f
          · exact Or.inl ‹_›
          · exact Or.inr (Nat.le_of_not_lt fun z => k i a b (by omega) z)⟩)
    (fun B' f' to' e' s' y => by rw [claim_ne _ _ _ hne, hno] at y; cases y)
  exact ⟨_, g1, k2.trans g2, claim_tl _ _ _ _ _⟩

/-- A cell that goes into a block. -/
theorem moveC_ok (H : Sim w C st bs) {h : Bool} {b : Nat} {old : List PV} (hb : st.blk h b = some old) {p : PV} {r : PV × St} (hm : moveC h b p st = some r) {x : Value} (hx : Rep w C x p) :
    ∃ C', Sim w C' r.2 bs ∧ Ext w C w C' ∧ Rep w C' x r.1 ∧ (∀ a b', r.2.blk a b' = st.blk a b') ∧ ∀ m t l, (h = true ∨ b < m) → Rep w (C'.cut m t l) x r.1 := by
  have stay : ∀ {q : PV}, r = (q, st) → Rep w C x q → (∀ m t l, (h = true ∨ b < m) → Rep w (C.cut m t l) x q) → ∃ C', Sim w C' r.2 bs ∧ Ext w C w C' ∧ Rep w C' x r.1 ∧ (∀ a b', r.2.blk a b' = st.blk a b') ∧ ∀ m t l, (h = true ∨ b < m) → Rep w (C'.cut m t l) x r.1 := by
    intro q e h1 h2
    subst e
    exact ⟨C, H, Ext.refl w C, h1, fun _ _ => rfl, h2⟩
  have keep : ∀ {e n : Nat} {C' : Ctx} {es : List (List PV)}, Rep w C' x (.sl es (.own (.bl h b) n e)) → ∀ m t l, (h = true ∨ b < m) → Rep w (C'.cut m t l) x (.sl es (.own (.bl h b) n e)) := by
    intro e n C' es hr m t l hbm
    have htl : (C'.cut m t l).tl (.bl h b) n = C'.tl (.bl h b) n := by
      cases h with
      | true => rfl
      | false =>
        rcases hbm with q | q
        · cases q
        · simp only [Ctx.cut]; rw [if_pos q]
    refine rep_recap hr rfl (C'.cut_fz m t l) (fun base len cap sz hc => ?_) (fun hn => ?_)
    · simp only [CapRep, htl] at hc ⊢; exact hc
    · simp only [NilCap, htl] at hn ⊢; exact hn
  have pl : ∀ {q : PV}, plainC p = some q → Rep w C x q ∧ ∀ m t l, (h = true ∨ b < m) → Rep w (C.cut m t l) x q := fun hq => ⟨plain_rep hq hx rfl rfl, fun m t l _ => plain_rep hq hx rfl (C.cut_fz m t l)⟩
  unfold moveC at hm
  split at hm
  · rename_i es o t e
    cases hi : o.is h b with
    | true =>
      rw [hi] at hm
      obtain rfl := Option.some.inj hm
      obtain rfl := Ow.is_iff.1 hi
      exact stay rfl hx (keep hx)
    | false =>
      rw [hi] at hm
      simp only [cond_false] at hm
      have dead : ∃ C', Sim w C' ((PV.sl es .dead, st) : PV × St).2 bs ∧ Ext w C w C' ∧ Rep w C' x ((PV.sl es .dead, st) : PV × St).1 ∧ (∀ a b', ((PV.sl es .dead, st) : PV × St).2.blk a b' = st.blk a b') ∧ ∀ m t l, (h = true ∨ b < m) → Rep w (C'.cut m t l) x ((PV.sl es .dead, st) : PV × St).1 :=
        ⟨C, H, Ext.refl w C, rep_recap hx rfl rfl (fun _ _ _ _ _ => trivial) (fun _ => trivial), fun _ _ => rfl, fun m t l _ => rep_recap hx rfl (C.cut_fz m t l) (fun _ _ _ _ _ => trivial) (fun _ => trivial)⟩
      split at hm
      · rename_i y hy
        cases hye : Nat.beq y.1 e with
        | false =>
          rw [hye] at hm
          obtain rfl := Option.some.inj hm
          exact dead
        | true =>
          rw [hye] at hm
          obtain rfl := Option.some.inj hm
          obtain ⟨y1, y2⟩ := y
          obtain rfl : y1 = e := Nat.eq_of_beq_eq_true hye
          obtain ⟨B, f, to, htl⟩ := H.tokdom o t y1 y2 hy
          have hne : ¬ ((Ow.bl h b) = o ∧ st.ntok h b = t) := fun q => by rw [Ow.is_iff.2 q.1.symm] at hi; cases hi
          have g1 : Goes st (st.setTok o t (y1 + 1, y2)) o t (y1 + 1) y2 := goes_set hy
          have hb1 : (st.setTok o t (y1 + 1, y2)).blk h b = some old := by rw [blk_setTok]; exact hb
          have hnt : (st.setTok o t (y1 + 1, y2)).ntok h b = st.ntok h b := by
            cases o with
            | fr => cases h <;> rfl
            | bl h' b' =>
              simp only [St.setTok, St.ntok, bk_upB]
              rw [if_neg]
              rintro ⟨rfl, rfl⟩
              exact absurd (Ow.is_iff.2 rfl) (by rw [hi]; simp)
          have g2 : Goes (st.setTok o t (y1 + 1, y2)) ((st.setTok o t (y1 + 1, y2)).pushBTok h b (y1, y2)) (.bl h b) (st.ntok h b) y1 y2 := by
            have := goes_pushB (e := y1) (s := y2) hb1
            rw [hnt] at this
            exact this
          obtain ⟨C', c1, c2, c3⟩ := H.move htl hne (H.tl_none ntok_none) g1 g2
          have hrep : Rep w C' x (.sl es (.own (.bl h b) (st.ntok h b) y1)) := by
            have hm2 := hx.mono c2
            cases hx with
            | slnil hn => exact .slnil ⟨B, f, to, y1, y2, c3, Nat.le_refl _⟩
            | sl sz val h1 h2 h3 h4 h5 h6 h7 h8 =>
              refine .sl sz val h1 h2 h3 (fun i e j p he hp => c2.S _ _ (h4 i e j p he hp)) (fun i e j p he hp => (c2.cell _ _ (h4 i e j p he hp)).trans (h5 i e j p he hp)) h6 (fun i e j p he hp => (h7 i e j p he hp).mono c2.fz) ?_
              obtain ⟨B', f', to', e', s', k1, k2, k3⟩ := h8
              rw [htl] at k1
              cases k1
              exact ⟨B, f, to, y1, y2, c3, Nat.le_refl _, fun _ => k3 rfl⟩
          exact ⟨C', c1, c2, hrep, fun a b' => by rw [blk_pushBTok, blk_setTok], keep hrep⟩
      · obtain rfl := Option.some.inj hm
        exact dead
  · rename_i es c hcn
    obtain rfl := Option.some.inj hm
    have hcc : ∀ {C'' : Ctx}, (∀ base len cap sz, CapRep C base len cap sz c → CapRep C'' base len cap sz c) ∧ (NilCap C c → NilCap C'' c) := by
      intro C''
      cases c with
      | own o t e => exact absurd rfl (hcn o t e)
      | nil => exact ⟨fun _ _ _ _ h => h, fun _ => trivial⟩
      | full => exact ⟨fun _ _ _ _ h => h, fun _ => trivial⟩
      | dead => exact ⟨fun _ _ _ _ h => h, fun _ => trivial⟩
    exact stay rfl hx fun m t l _ => rep_recap hx rfl (C.cut_fz m t l) hcc.1 hcc.2
  · obtain rfl := Option.some.inj hm
    have := pl (q := _) rfl
    exact stay rfl this.1 this.2
  · obtain rfl := Option.some.inj hm
    have := pl (q := _) rfl
    exact stay rfl this.1 this.2
  · obtain rfl := Option.some.inj hm
    have := pl (q := _) rfl
    exact stay rfl this.1 this.2
  · obtain rfl := Option.some.inj hm
    have := pl (q := _) rfl
    exact stay rfl this.1 this.2
  · obtain rfl := Option.some.inj hm
    have := pl (q := _) rfl
    exact stay rfl this.1 this.2
  · rename_i f caps
    cases hs : plainFn f && caps.all (sf false 0 3) with
    | false => rw [hs] at hm; simp at hm
    | true =>
      rw [hs] at hm
      obtain rfl := Option.some.inj hm
      have := pl (q := .clo f caps) (by simp only [plainC]; rw [hs]; rfl)
      exact stay rfl this.1 this.2
  · cases hm

theorem moveCs_ok {h : Bool} {b : Nat} {old : List PV} : ∀ {cs : List PV} {st : St} {C : Ctx} {r : List PV × St} {vs : List Value}, moveCs h b cs st = some r → Sim w C st bs → st.blk h b = some old → vs.length = cs.length →
    (∀ (i : Nat) (x : Value) (p : PV), vs[i]? = some x → cs[i]? = some p → Rep w C x p) →
    ∃ C', Sim w C' r.2 bs ∧ Ext w C w C' ∧ r.1.length = cs.length ∧ (∀ a b', r.2.blk a b' = st.blk a b') ∧ (∀ (i : Nat) (x : Value) (p : PV), vs[i]? = some x → r.1[i]? = some p → Rep w C' x p) ∧
      ∀ m t l, (h = true ∨ b < m) → ∀ (i : Nat) (x : Value) (p : PV), vs[i]? = some x → r.1[i]? = some p → Rep w (C'.cut m t l) x p
  | [], st, C, r, vs, hm, H, hb, hl, hr => by
    obtain rfl := Option.some.inj hm
    exact ⟨C, H, Ext.refl w C, rfl, fun _ _ => rfl, by simp, by simp⟩
  | c :: cs, st, C, r, vs, hm, H, hb, hl, hr => by
    match vs, hl, hr with
    | v :: vs, hl, hr =>
      simp only [moveCs] at hm
      obtain ⟨r1, hr1, hm⟩ := Option.bind_eq_some_iff.1 hm
      obtain ⟨r2, hr2, hm⟩ := Option.bind_eq_some_iff.1 hm
      obtain rfl := Option.some.inj hm
      obtain ⟨C1, a1, a2, a3, a4, a5⟩ := moveC_ok H hb hr1 (hr 0 v c rfl rfl)
      obtain ⟨C2, b1, b2, b3, b4, b5, b6⟩ := moveCs_ok (vs := vs) hr2 a1 (by rw [a4]; exact hb) (by simpa using hl) fun i x p hx hp => (hr (i + 1) x p (by simpa using hx) (by simpa using hp)).mono a2
      refine ⟨C2, b1, a2.trans b2, by simp [b3], fun a b' => by rw [b4, a4], fun i x p hx hp => ?_, fun m t l hbm i x p hx hp => ?_⟩
      · cases i with
        | zero => simp at hx hp; subst hx; subst hp; exact a3.mono b2
        | succ i => simp at hx hp; exact b5 i x p hx hp
      · cases i with
        | zero => simp at hx hp; subst hx; subst hp; exact (a5 m t l hbm).mono (b2.cut m t l)
        | succ i => simp at hx hp; exact b6 m t l hbm i x p hx hp

/-- Cells are written into a block. -/
theorem put_ok (H : Sim w C st bs) (base : Nat) (hbase : ∀ m t l, (m, t, l) ∈ bs → m ≤ base) {h : Bool} {b off B : Nat} {cs : List PV} {st' : St} (hp : putCells base h b off cs st = some st') (hσ : C.σ h b = some B)
    {vs : List Value} (hl : vs.length = cs.length) (hone : ∀ v ∈ vs, v.oneCell' = true) (hr : ∀ (i : Nat) (x : Value) (p : PV), vs[i]? = some x → cs[i]? = some p → Rep w C x p) :
    ∃ C', (storeCells ⟨B, off, none⟩ vs).run P w = .ok () (w.setCells B off vs) ∧ Sim (w.setCells B off vs) C' st' bs ∧ Ext w C (w.setCells B off vs) C' := by
  unfold putCells at hp
  obtain ⟨old, hold, hp⟩ := Option.bind_eq_some_iff.1 hp
  cases hb : Nat.ble (off + cs.length) old.length && okCells cs with
  | false => rw [hb] at hp; simp at hp
  | true =>
    rw [hb] at hp
    simp only [cond_true] at hp
    rw [Bool.and_eq_true] at hb
    have b2 := Nat.le_of_ble_eq_true hb.1
    obtain ⟨B', arr, elem, fr, a1, a2, a3, a4, a5, a6, a7, a8⟩ := H.blk h b old hold
    rw [hσ] at a1
    obtain rfl := Option.some.inj a1
    have hrun := run_storeCells_cells (P := P) B off vs 0 w (fun j hj => by
        have hj' : off + 0 + j < arr.size := by omega
        simp only [World.cell?, a2]
        simpa using hj') (fun j hj => by
        simp only [World.frozen?, a2]
        have := a4 (off + 0 + j)
        simp only [notFrozen] at this
        cases hq : (decide (fr.1 ≤ off + 0 + j) && decide (off + 0 + j < fr.2)) with
        | false => rfl
        | true => simp at hq; exact absurd hq (by simpa using this)) hone
    have hrun' : (storeCells ⟨B, off, none⟩ vs).run P w = .ok () (w.setCells B off vs) := by simpa using hrun
    cases hlow : h || Nat.blt b base with
    | true =>
      rw [hlow] at hp
      simp only [cond_true] at hp
      obtain ⟨q, hq, hp⟩ := Option.bind_eq_some_iff.1 hp
      obtain rfl := Option.some.inj hp
      obtain ⟨C1, c1, c2, c3, c4, c5, c6⟩ := moveCs_ok hq H hold hl hr
      obtain ⟨d1, d2⟩ := c1.store (vs := vs) (cs := q.1) (off := off) (old := old) (c2.σ _ _ _ hσ) (by rw [c4]; exact hold) (by omega) (by omega) hone c5 fun m t l hm hbm => c6 m t l hbm
      exact ⟨C1, hrun', d1, c2.trans d2⟩
    | false =>
      rw [hlow] at hp
      obtain rfl := Option.some.inj hp
      obtain ⟨d1, d2⟩ := H.store (vs := vs) (cs := cs) (off := off) hσ hold hl b2 hone hr fun m t l hm hbm => by
        exfalso
        rw [Bool.or_eq_false_iff] at hlow
        rcases hbm with q | q
        · rw [q] at hlow; cases hlow.1
        · have := hbase m t l hm
          have : Nat.blt b base = true := by rw [Nat.blt_eq]; omega
          rw [this] at hlow
          cases hlow.2
      exact ⟨C, hrun', d1, d2⟩

theorem store_ok (H : Sim w C st bs) (base : Nat) (hbase : ∀ m t l, (m, t, l) ∈ bs → m ≤ base) {t : TypeId} {x v : Value} {p q : PV} {st' : St} (h : aStore base (szT P t) p q st = some st') (hx : Rep w C x p) (hv : Rep w C v q) :
    ∃ w' C', (Instr.storeAt t x v).run P w = .ok () w' ∧ Sim w' C' st' bs ∧ Ext w C w' C' := by
  unfold aStore at h
  split at h
  · rename_i a b off
    obtain ⟨cs, hcs, h⟩ := Option.bind_eq_some_iff.1 h
    cases hb : Nat.beq cs.length (szT P t) && !Nat.beq (szT P t) 0 with
    | false => rw [hb] at h; simp at h
    | true =>
      rw [hb] at h
      simp only [cond_true] at h
      rw [Bool.and_eq_true] at hb
      have b1 := Nat.eq_of_beq_eq_true hb.1
      have hne : szT P t ≠ 0 := by intro z; rw [z] at hb; simp at hb
      obtain ⟨ti, hti⟩ := info_of_sz hne
      obtain ⟨c1, c2, c3⟩ := rep_cells hcs hv
      cases hx with
      | @ptr _ _ _ _ B hσ =>
        obtain ⟨C', k1, k2, k3⟩ := put_ok (P := P) H base hbase h hσ (vs := v.cells.toList) (by simpa using c1)
          (fun y hy => by
            obtain ⟨i, hi⟩ := List.mem_iff_getElem?.1 hy
            exact c2 i y (by simpa using hi)) (fun i y r hy hr => c3 i y r (by simpa using hy) hr)
        refine ⟨_, C', ?_, k2, k3⟩
        have hsz : v.cells.size = szT P t := by omega
        simp only [Instr.storeAt, Instr.sureAddr, storeVar, Sem.run_bind, Sem.run_pure, Result.andThen_ok, run_sizeOf' hti, hsz]
        simpa using k1
  · cases h

/-- A new block, of cells of which as much is told in every frame. -/
theorem lay_ok (H : Sim w C st bs) (h : Bool) {elem : TypeId} {arr : Array Value} {cs : List PV} (hr : RepCells w C arr cs) (hc : ∀ m t l, (m, t, l) ∈ bs → h = true → RepCells w (C.cut m t l) arr cs) :
    ∃ w' C', (newRow elem arr).run P w = .ok ⟨w.heap.size, 0, none⟩ w' ∧ Sim w' C' (st.lay h cs) bs ∧ Ext w C w' C' ∧ w'.heap[w.heap.size]? = some (.cells arr elem (0, 0)) ∧ C'.σ h (st.len h) = some w.heap.size := by
  obtain ⟨k1, k2⟩ := H.lay h arr elem cs (Nat.le_of_eq hr.size.symm) hr.one hr.rep fun m t l hm hh o x p a b => (hc m t l hm hh).rep o x p a b
  refine ⟨_, _, ?_, k1, k2, by simp, by simp [Ctx.lay]⟩
  simp [newRow, run_newObj]

/-- A new block that holds a value's cells. -/
theorem box_ok (H : Sim w C st bs) {h : Bool} {elem : TypeId} {arr : Array Value} {cs : List PV} (hr : RepCells w C arr cs) {r : PV × St} (hb : aBox h cs st = some r) :
    ∃ w' C', (newRow elem arr).run P w = .ok ⟨w.heap.size, 0, none⟩ w' ∧ Sim w' C' r.2 bs ∧ Ext w C w' C' ∧ Rep w' C' (.pointer (some ⟨w.heap.size, 0, none⟩)) r.1 := by
  unfold aBox at hb
  cases h with
  | false =>
    obtain rfl := Option.some.inj hb
    obtain ⟨w', C', k1, k2, k3, _, k4⟩ := lay_ok (P := P) (elem := elem) H false hr (fun _ _ _ _ q => by cases q)
    exact ⟨w', C', k1, k2, k3, .ptr k4⟩
  | true =>
    simp only at hb
    cases ho : okCells cs with
    | false => rw [ho] at hb; simp at hb
    | true =>
      rw [ho] at hb
      obtain ⟨q, hq, hb⟩ := Option.bind_eq_some_iff.1 hb
      obtain rfl := Option.some.inj hb
      have hu : ∀ C' : Ctx, RepCells w C' arr (cs.map fun _ => PV.u) := fun C' => ⟨by simp [hr.size], hr.one, fun i y p hy hp => by obtain ⟨_, _, rfl⟩ := getElem?_map_some hp; exact .u⟩
      obtain ⟨w', C', k1, k2, k3, k5, k4⟩ := lay_ok (P := P) (elem := elem) H true (hu C) (fun m t l _ _ => hu _)
      have hlen : st.len true = st.hp.length := rfl
      have hblk : (st.lay true (cs.map fun _ => PV.u)).blk true st.hp.length = some (cs.map fun _ => PV.u) := by rw [blk_lay, if_pos ⟨rfl, rfl⟩]
      have hvl : arr.toList.length = cs.length := by simpa using hr.size
      obtain ⟨C1, c1, c2, c3, c4, c5, c6⟩ := moveCs_ok (vs := arr.toList) hq k2 hblk hvl fun i x p hx hp => (hr.rep i x p (by simpa using hx) hp).mono k3
      have hσ1 := c2.σ _ _ _ k4
      rw [hlen] at hσ1
      obtain ⟨d1, d2⟩ := c1.put (vs := []) (off := 0) (ds := q.1) (old := cs.map fun _ => PV.u) hσ1 (by rw [c4]; exact hblk) k5 (by have := hr.size; omega) (by simp) (by simp) (by
        cases cs with
        | nil => right; exact ⟨rfl, List.length_eq_zero_iff.1 c3⟩
        | cons c cs => left; simp) (fun o x p hx hp => c5 o x p (by simpa [laidA] using hx) hp) (fun m t l hm hbm o x p hx hp => c6 m t l hbm o x p (by simpa [laidA] using hx) hp)
      refine ⟨w', C1, k1, ?_, k3.trans c2, .ptr hσ1⟩
      simpa [World.setCells] using d1

/-! ### slicing -/
theorem run_bound {x : Value} {p : PV} {d n m : Nat} {y : Nat} {code : BoundsCode} (h : bnd (some p) d n = some m) (hx : Rep w C x p) (hn : n ≤ y) : (Instr.sliceBound x y code).run P w = .ok m w ∧ m ≤ n := by
  unfold bnd at h
  split at h
  · rename_i e; cases e
  · rename_i k i e
    obtain rfl := Option.some.inj e
    obtain ⟨rfl, _⟩ := rep_v hx
    cases hb : decide (0 ≤ i) && decide (i ≤ (n : Int)) with
    | false => rw [hb] at h; simp at h
    | true =>
      rw [hb] at h
      obtain rfl := Option.some.inj h
      simp at hb
      refine ⟨?_, by omega⟩
      simp only [Instr.sliceBound, asIntOf, Sem.run_bind, Sem.run_pure, Result.andThen_ok]
      rw [if_pos ⟨hb.1, by omega⟩]
      rfl
  · cases h

end
end Go.AM
