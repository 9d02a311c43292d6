/- The abstract machine: regions, code, calls: what the evaluator answers, the model's run does. No condition. -/
import Derived.Test.YtkbhejcfejembaaM14
import Derived.OrdersIn
set_option linter.all false
set_option linter.unusedVariables false
namespace Go.AM
open Go Go.RowKit

def exitOf : Ex → Exit
  | .normal => .normal
  | .exit i => .exit i
  | .ret => .ret

section
variable {Cf : Cfg} {rd : Option Nat} {lo : Nat} {bs : List (Nat × Nat × Nat)} {Q : Exit → Act → World → Prop}

theorem need_some {R : Type} {c : Prop} {x : Option R} {r : R} (h : need c x = some r) : c ∧ x = some r := by
  unfold need at h
  split at h
  · rename_i hc; exact ⟨hc, h⟩
  · cases h
theorem needAll_some {R : Type} : ∀ {cs : List Prop} {x : Option R} {r : R}, needAll cs x = some r → (∀ c ∈ cs, c) ∧ x = some r
  | [], x, r, h => ⟨by simp, h⟩
  | c :: cs, x, r, h => by
    obtain ⟨h1, h2⟩ := need_some h
    obtain ⟨h3, h4⟩ := needAll_some h2
    refine ⟨fun d hd => ?_, h4⟩
    rcases List.mem_cons.1 hd with rfl | hd
    · exact h1
    · exact h3 d hd

theorem guarded_sound {R : Type} (G : Good Cf.P Cf.call) (hbase : ∀ m t l, (m, t, l) ∈ bs → m ≤ Cf.base) {ops : Array Oper} {o : Oper} {e : Env} {a : Act} {w : World} {C : Ctx} {st : St} {next : Act → World → Prop}
    {K : PV → St → Option R} {r : R} (H : Sim w C st bs) (hE : RelE lo w C e Cf.n a) (h : guarded Cf ops o e st K = some r)
    (hK : ∀ p st' v w' C', K p st' = some r → Sim w' C' st' bs → Ext w C w' C' → Rep w' C' v p → next (a.put o.dst v) w') :
    if Region.wanted o (yielded ops a.tmps) then o.wpIn (fen rd) 0 Cf.P a w next Q else next (a.put o.dst undef) w := by
  unfold guarded at h
  split at h
  · rename_i hg
    have hw : Region.wanted o (yielded ops a.tmps) = true := by simp [Region.wanted, hg]
    rw [if_pos hw]
    exact stepK_sound G hbase H hE h hK
  · rename_i j want hg
    split at h
    · rename_i t ht
      obtain ⟨q, hq, h⟩ := Option.bind_eq_some_iff.1 h
      have hno : ∀ {x : Value}, Rep w C x (.tup []) → x = undef := fun hr => by
        cases hr with
        | tup h1 _ =>
          have := Array.eq_empty_of_size_eq_zero h1
          subst this; rfl
      unfold onG at hq
      split at hq
      · rename_i b he
        have hr := hE.rep t
        rw [he] at hr
        have hv := (rep_v hr).1
        have hy : yielded ops a.tmps j = some b := by
          unfold yielded
          rw [ht, Option.bind_some]
          rw [Array.getD_eq_getD_getElem?] at hv
          cases hx : a.tmps[t]? with
          | none => rw [hx] at hv; simp [undef] at hv
          | some x => rw [hx] at hv; simp at hv; subst hv; rfl
        have hw : Region.wanted o (yielded ops a.tmps) = (b == want) := by
          simp [Region.wanted, hg, hy]
        rw [hw]
        cases hbw : (b == want) with
        | true =>
          rw [hbw] at hq
          simp only [cond_true] at hq
          simp only [if_true]
          refine stepK_sound G hbase H hE hq fun p st' v w' C' hk k1 k2 k3 => ?_
          obtain rfl := Option.some.inj hk
          exact hK p st' v w' C' h k1 k2 k3
        | false =>
          rw [hbw] at hq
          simp only [cond_false] at hq
          obtain rfl := Option.some.inj hq
          simp only [Bool.false_eq_true, if_false]
          exact hK _ _ undef w C h H (Ext.refl w C) (.tup rfl (by intro i x p hx; simp at hx))
      · rename_i he
        have hr := hE.rep t
        rw [he] at hr
        have hv := hno hr
        have hy : yielded ops a.tmps j = none := by
          unfold yielded
          rw [ht, Option.bind_some]
          rw [Array.getD_eq_getD_getElem?] at hv
          cases hx : a.tmps[t]? with
          | none => rfl
          | some x => rw [hx] at hv; simp at hv; subst hv; rfl
        have hw : Region.wanted o (yielded ops a.tmps) = false := by
          simp [Region.wanted, hg, hy]
        rw [hw]
        obtain rfl := Option.some.inj hq
        simp only [Bool.false_eq_true, if_false]
        exact hK _ _ undef w C h H (Ext.refl w C) (.tup rfl (by intro i x p hx; simp at hx))
      · cases hq
    · cases h

theorem evOps_sound {R : Type} (G : Good Cf.P Cf.call) (hbase : ∀ m t l, (m, t, l) ∈ bs → m ≤ Cf.base) {ops : Array Oper} {K : Env → St → Option R} {r : R} :
    ∀ (os : List Oper) (i : Nat) (e : Env) (a : Act) (w : World) (C : Ctx) (st : St), ops.toList.drop i = os → Sim w C st bs → RelE lo w C e Cf.n a → evOps Cf ops os e st K = some r →
      (∀ e' st' a' w' C', K e' st' = some r → Sim w' C' st' bs → Ext w C w' C' → RelE lo w' C' e' Cf.n a' → Q .normal a' w') → wpOpsIn (fen rd) 0 Cf.P ops Q (List.range' i os.length) a w
  | [], i, e, a, w, C, st, hd, H, hE, h, hK => hK e st a w C h H (Ext.refl w C) hE
  | o :: os, i, e, a, w, C, st, hd, H, hE, h, hK => by
    have hoi : ops[i]? = some o := by
      have : (ops.toList.drop i)[0]? = some o := by rw [hd]; rfl
      rw [List.getElem?_drop] at this
      simpa using this
    have hdr : ops.toList.drop (i + 1) = os := by
      rw [show i + 1 = i + 1 from rfl, ← List.drop_drop, hd]; rfl
    simp only [evOps] at h
    rw [List.length_cons, List.range'_succ]
    simp only [wpOpsIn, hoi]
    have hg := guarded_sound (rd := rd) (Q := Q) (next := wpOpsIn (fen rd) 0 Cf.P ops Q (List.range' (i + 1) os.length)) G hbase H hE h fun p st' v w' C' hk k1 k2 k3 =>
      evOps_sound G hbase os (i + 1) _ _ w' C' st' hdr k1 ((hE.mono k2).put o.dst k3) hk fun e' st'' a' w'' C'' q1 q2 q3 q4 => hK e' st'' a' w'' C'' q1 q2 (k2.trans q3) q4
    split at hg
    · rename_i hw; rw [if_pos hw]; exact hg
    · rename_i hw; rw [if_neg hw]; exact ⟨fun _ _ => trivial, hg⟩

/-- What is asked of regions that draw their order. -/
def DrawOk (Cf : Cfg) (rd : Option Nat) (lo : Nat) (bs : List (Nat × Nat × Nat)) : Prop := ∀ (id : Nat) (ops : Array Oper), ∀ {R : Type} {K : Env → St → Option R} {r : R} {e : Env} {a : Act} {w : World} {C : Ctx} {st : St} {Q : Exit → Act → World → Prop}, drawChk ops (Region.before ops) ops.toList 0 = true → Sim w C st bs → RelE lo w C e Cf.n a →
  evDraw Cf ops (Region.before ops) ops.toList 0 e st [] [] K = some r →
  (∀ e' st' a' w' C', K e' st' = some r → Sim w' C' st' bs → Ext w C w' C' → RelE lo w' C' e' Cf.n a' → Q .normal a' w') → (Code.region id ops true).wpIn (fen rd) 0 Cf.P Q a w

theorem seqK_cases {R : Type} {x : Ex} {A : Option R} {B : Ex → Option R} {r : R} (h : seqK x A B = some r) : (x = .normal ∧ A = some r) ∨ (x ≠ .normal ∧ B x = some r) := by
  cases x with
  | normal => exact Or.inl ⟨rfl, h⟩
  | exit i => exact Or.inr ⟨by simp, h⟩
  | ret => exact Or.inr ⟨by simp, h⟩

theorem iter_sound {body : List PV → St → Option (Ex × List PV × St)} {c : Code} {live : List Nat} {C0 : Ctx} {w0 : World} {r0 : Ex × List PV × St}
    (hb : ∀ vs st w C a rb, body vs st = some rb → Sim w C st bs → Ext w0 C0 w C → RelE lo w C (mkEnv live vs) Cf.n a → ∀ Q' : Exit → Act → World → Prop,
      (∀ a' w' C', Sim w' C' rb.2.2 bs → Ext w0 C0 w' C' → RelE lo w' C' (mkEnv live rb.2.1) Cf.n a' → Q' (exitOf rb.1) a' w') → c.wpIn (fen rd) 0 Cf.P Q' a w) :
    ∀ (k : Nat) (vs : List PV) (st : St) (w : World) (C : Ctx) (a : Act), iter body k vs st = some r0 → Sim w C st bs → Ext w0 C0 w C → RelE lo w C (mkEnv live vs) Cf.n a →
      (∀ a' w' C', r0.1 ≠ .normal → Sim w' C' r0.2.2 bs → Ext w0 C0 w' C' → RelE lo w' C' (mkEnv live r0.2.1) Cf.n a' → Q (exitOf r0.1) a' w') → Code.roundsIn (fen rd) 0 Cf.P c Q k a w
  | 0, vs, st, w, C, a, h, _, _, _, _ => by simp [iter] at h
  | k + 1, vs, st, w, C, a, h, H, hx, hE, hQ => by
    simp only [iter] at h
    obtain ⟨rb, hrb, h⟩ := Option.bind_eq_some_iff.1 h
    rw [roundsIn_succ]
    refine hb vs st w C a rb hrb H hx hE _ fun a' w' C' k1 k2 k3 => ?_
    rcases seqK_cases h with ⟨hn, h⟩ | ⟨hn, h⟩
    · rw [hn]
      exact iter_sound hb k _ _ w' C' a' h k1 k2 k3 hQ
    · obtain rfl := Option.some.inj h
      have := hQ a' w' C' hn k1 k2 k3
      cases hq : rb.1 with
      | normal => exact absurd hq hn
      | exit i => rw [hq] at this; exact this
      | ret => rw [hq] at this; exact this

/-- Is the loop that the frame is a round of the one that the fence tells? -/
def RdOk (Cf : Cfg) (C : Ctx) (rd : Option Nat) : Prop := match Cf.rd, rd with
  | none, none => True
  | some i, some B => C.lp i = some B
  | _, _ => False
theorem RdOk.mono {C C' : Ctx} {w w' : World} (h : RdOk Cf C rd) (x : Ext w C w' C') : RdOk Cf C' rd := by
  unfold RdOk at h ⊢
  split at h
  · trivial
  · exact x.lp _ _ h
  · exact h.elim

/-- Something that nothing is told of is written. -/
theorem Sim.setObj {w : World} {C : Ctx} {st : St} (H : Sim w C st bs) {B : Nat} {old ob : Obj} (hold : w.heap[B]? = some old) (hN : C.N ≤ B) (hlp : ∀ i, C.lp i ≠ some B) (h1 : ∀ arr elem fr, old ≠ Obj.cells arr elem fr)
    (h2 : ∀ arr elem fr, ob ≠ Obj.cells arr elem fr) {lo : Nat} (h3 : ∀ D, w.heap[D]? = some (Obj.deferred (some [])) → D = B → lo ≤ B) {w0 : World} {C0 : Ctx} (hx0 : Ext w0 C0 w C) (hlo : lo = w0.heap.size) :
    Sim { w with heap := w.heap.setIfInBounds B ob } C st bs ∧ Ext w0 C0 { w with heap := w.heap.setIfInBounds B ob } C ∧ ∀ {C' : Ctx} {x : Value} {p : PV}, Rep w C' x p → Rep { w with heap := w.heap.setIfInBounds B ob } C' x p := by
  have hlt : B < w.heap.size := (Array.getElem?_eq_some_iff.1 hold).1
  have hother : ∀ k ob', w.heap[k]? = some ob' → k ≠ B → ({ w with heap := w.heap.setIfInBounds B ob } : World).heap[k]? = some ob' := by
    intro k ob' h1 h2
    show (w.heap.setIfInBounds B ob)[k]? = _
    rw [Array.getElem?_setIfInBounds_ne (Ne.symm h2)]; exact h1
  have hcell : ∀ k arr elem fr, w.heap[k]? = some (Obj.cells arr elem fr) → ({ w with heap := w.heap.setIfInBounds B ob } : World).heap[k]? = some (Obj.cells arr elem fr) := fun k arr elem fr h => hother k _ h fun e => by
    subst e; rw [hold] at h; exact h1 _ _ _ (Option.some.inj h)
  have hc : ∀ B' o, World.cell? { w with heap := w.heap.setIfInBounds B ob } ⟨B', o, none⟩ = w.cell? ⟨B', o, none⟩ := by
    intro B' o
    by_cases hne : B' = B
    · subst hne
      have g1 : World.cell? { w with heap := w.heap.setIfInBounds B' ob } ⟨B', o, none⟩ = none := by
        simp only [World.cell?]
        rw [Array.getElem?_setIfInBounds_self_of_lt hlt]
        cases ob <;> first | rfl | exact absurd rfl (h2 _ _ _)
      have g2 : w.cell? ⟨B', o, none⟩ = none := by
        unfold World.cell?
        split
        · rename_i c e fr hq; rw [hold] at hq; exact absurd (Option.some.inj hq) (h1 _ _ _)
        · rfl
      exact g1.trans g2.symm
    · simp only [World.cell?]
      rw [Array.getElem?_setIfInBounds_ne (Ne.symm hne)]
  -- what is told of a value does not hang on it
  have hrep : ∀ {C' : Ctx} {x : Value} {p : PV}, Rep w C' x p → Rep { w with heap := w.heap.setIfInBounds B ob } C' x p := by
    intro C' x p h
    induction h with
    | u => exact .u
    | v h => exact .v h
    | agg h1 h2 _ ih => exact .agg h1 h2 fun i x p hx hp => ih i x p hx hp
    | tup h1 _ ih => exact .tup h1 fun i x p hx hp => ih i x p hx hp
    | ptr h => exact .ptr h
    | fp val h1 h2 h3 _ ih => exact .fp val h1 (fun j p hp => (hc _ _).trans (h2 j p hp)) h3 fun j p hp => ih j p hp
    | slnil h => exact .slnil h
    | sl sz val h1 h2 h3 h4 h5 h6 _ h8 ih => exact .sl sz val h1 h2 h3 h4 (fun i a j p ha hp => (hc _ _).trans (h5 i a j p ha hp)) h6 (fun i a j p ha hp => ih i a j p ha hp) h8
    | rs h1 h2 h3 h4 => exact .rs h1 h2 (hcell _ _ _ _ h3) h4
    | ni => exact .ni
    | it h => exact .it h
    | yld h => exact .yld h
    | clo h1 _ ih => exact .clo h1 fun i x p hx hp => ih i x p hx hp
  refine ⟨⟨?_, H.dom, H.inj, fun B' o x => by simpa using H.Sok B' o x, ?_, H.tokdom, H.disj, H.bnd, ⟨by simpa using H.low.1, H.low.2⟩, ?_, H.lpdom, H.lpinj⟩, ?_, hrep⟩
  · intro h' b' ds hd
    obtain ⟨B2, arr2, elem2, fr2, c1, c2, c3, c4, c5, c6, c7, c8⟩ := H.blk h' b' ds hd
    exact ⟨B2, arr2, elem2, fr2, c1, hcell _ _ _ _ c2, c3, c4, c5, c6, fun o x p hx' hp => hrep (c7 o x p hx' hp), fun m t l hm hbm o x p hx' hp => hrep (c8 m t l hm hbm o x p hx' hp)⟩
  · intro o t B2 f to e s x
    refine ⟨(H.tok o t B2 f to e s x).1, fun i h1 h2 => ?_⟩
    obtain ⟨g1, g2, arr, elem, fr, g3, g4, g5⟩ := (H.tok o t B2 f to e s x).2 i h1 h2
    exact ⟨g1, g2, arr, elem, fr, hcell _ _ _ _ g3, g4, g5⟩
  · intro i r hr
    obtain ⟨B2, c1, c2⟩ := H.lps i r hr
    have hne : B2 ≠ B := fun e => hlp i (e ▸ c1)
    refine ⟨B2, c1, ?_⟩
    cases r with
    | iter s pos => exact hother _ _ c2 hne
    | loop r =>
      obtain ⟨fn, D, tmps, g1, g2, g3, g4⟩ := c2
      exact ⟨fn, D, tmps, hother _ _ g1 hne, g2, fun j => hrep (g3 j), fun m t l hm hl j => hrep (g4 m t l hm hl j)⟩
  · refine ⟨by simpa using hx0.size, hx0.N, hx0.below.trans (hx0.N ▸ setObj_below hN ob), hx0.S, fun B' o x => (hc B' o).trans (hx0.cell B' o x), hx0.σ, hx0.tl, hx0.lp, fun h b B' x arr elem fr y => ?_, fun D h => ?_⟩
    · obtain ⟨arr', elem', fr', y', z'⟩ := hx0.shape h b B' x arr elem fr y
      exact ⟨arr', elem', fr', hcell _ _ _ _ y', z'⟩
    · have hD := hx0.dfr D h
      refine hother D _ hD fun e => ?_
      have := h3 D hD e
      have := (Array.getElem?_eq_some_iff.1 h).1
      omega

theorem pend_cases (x : Ex) : (x = .normal ∧ pendOf x = none) ∨ (∃ i, x = .exit i ∧ pendOf x = some (.exit i)) ∨ (x = .ret ∧ pendOf x = some .ret) := by
  cases x with
  | normal => exact Or.inl ⟨rfl, rfl⟩
  | exit i => exact Or.inr (Or.inl ⟨i, rfl, rfl⟩)
  | ret => exact Or.inr (Or.inr ⟨rfl, rfl⟩)

/-- A loop over a function is entered. -/
theorem enter_ok {w : World} {C : Ctx} {st : St} {e : Env} {a : Act} (H : Sim w C st bs) (hE : RelE lo w C e Cf.n a) (hrd : RdOk Cf C rd) (hin : inRd Cf st = true) (fn : Nat) (live : List Nat) (ps : Array Tmp) (x y : Code) (A : Ann) :
    ∃ l mark w₁ C₁, (Instr.enterLoop fn a.tmps ps x y rd).run Cf.P w = .ok (l, mark) w₁ ∧ Sim w₁ C₁ { st with lp := st.lp ++ [.loop ⟨live, live.map e, Cf.n, Cf.md, ps.toList, x, y, A, 0, .normal⟩] } ((st.stk.length, st.tk.length, st.lp.length) :: bs) ∧
      Ext w C w₁ C₁ ∧ C₁.lp st.lp.length = some l ∧ Marks w₁ lo (mark ++ a.defers) := by
  have H' := H.enter
  have aux : ∀ (w' : World) (D B : Nat) (C' : Ctx), w'.heap[B]? = some (.loop { state := .ready, pending := none, fn := fn, tmps := a.tmps, params := ps, assign := x, body := y, defers := D }) → Ext w C w' C' →
      (∀ m t l, (m, t, l) ∈ (st.stk.length, st.tk.length, st.lp.length) :: bs → l ≤ st.lp.length) →
      AuxAt w' C' ((st.stk.length, st.tk.length, st.lp.length) :: bs) st.lp.length B (.loop ⟨live, live.map e, Cf.n, Cf.md, ps.toList, x, y, A, 0, .normal⟩) := by
    intro w' D B C' hB hx hl
    refine ⟨fn, D, a.tmps, ?_, hE.size, fun j => ?_, fun m t l hm hlt => ?_⟩
    · rw [hB]; simp [recOf, stateOf, pendOf]
    · exact ((hE.live live).rep j).mono hx
    · have := hl m t l hm; omega
  cases rd with
  | none =>
    obtain ⟨h1, h2⟩ := H'.alloc (.deferred (some []))
    have hE1 := hE.mono h2
    obtain ⟨C', k1, k2, k3⟩ := h1.pushLp (w' := { w with heap := (w.heap.push (.deferred (some []))).push (.loop { state := .ready, pending := none, fn := fn, tmps := a.tmps, params := ps, assign := x, body := y, defers := w.heap.size }) })
      (r := .loop ⟨live, live.map e, Cf.n, Cf.md, ps.toList, x, y, A, 0, .normal⟩) rfl rfl rfl rfl (fun C' hx hl => aux _ w.heap.size _ C' (by
        show ((w.heap.push (Obj.deferred (some []))).push _)[(w.heap.push (Obj.deferred (some []))).size]? = _
        exact Array.getElem?_push_size) (h2.trans hx) hl)
    refine ⟨w.heap.size + 1, [⟨.collected w.heap.size, #[]⟩], _, C', ?_, k1, h2.trans k2, by simpa using k3, ?_⟩
    · simp [Instr.enterLoop]
      rfl
    · have hm := hE.defers.mono (h2.trans k2)
      refine ⟨hm.le, fun d hd => ?_, ?_⟩
      · rcases List.mem_append.1 hd with hd | hd
        · simp at hd
          subst hd
          refine ⟨w.heap.size, rfl, hE.defers.le, ?_⟩
          show ((w.heap.push (Obj.deferred (some []))).push _)[w.heap.size]? = _
          rw [Array.getElem?_push, if_neg (by simp)]
          simp
        · exact hm.ok d hd
      · refine List.pairwise_append.2 ⟨by simp, hm.nd, fun d1 hd1 d2 hd2 D hD hq => ?_⟩
        simp at hd1
        subst hd1
        obtain ⟨D', rfl, _, h3⟩ := hE.defers.ok d2 hd2
        simp at hD hq
        have := (Array.getElem?_eq_some_iff.1 h3).1
        omega
  | some B =>
    unfold RdOk at hrd
    cases hcr : Cf.rd with
    | none => rw [hcr] at hrd; exact hrd.elim
    | some i =>
      rw [hcr] at hrd
      simp only at hrd
      unfold inRd at hin
      rw [hcr] at hin
      simp only [Bool.and_eq_true] at hin
      obtain ⟨q, hq⟩ := Option.isSome_iff_exists.1 hin.2
      have hq' : st.lp[i]? = some (.loop q) := by
        unfold St.loop at hq
        split at hq
        · rename_i r hr; rw [hr, Option.some.inj hq]
        · cases hq
      obtain ⟨B', a1, fn', D, tmps, a2, a3, a4, a5⟩ := H.lps i _ hq'
      rw [hrd] at a1
      obtain rfl := Option.some.inj a1
      obtain ⟨C', k1, k2, k3⟩ := H'.pushLp (w' := { w with heap := w.heap.push (.loop { state := .ready, pending := none, fn := fn, tmps := a.tmps, params := ps, assign := x, body := y, defers := D }) })
        (r := .loop ⟨live, live.map e, Cf.n, Cf.md, ps.toList, x, y, A, 0, .normal⟩) rfl rfl rfl rfl (fun C' hx hl => aux _ D _ C' (by simp) hx hl)
      refine ⟨w.heap.size, [], _, C', ?_, k1, k2, k3, hE.defers.mono k2⟩
      simp [Instr.enterLoop, run_newObj, Instr.getLoop, getObj, Sem.run, a2, recOf]

def yv (l : Nat) : Value := .func (.yield l) #[] #[]
/-- A loop over a function is left. -/
theorem leaveLoop_ok {P : Program} {n : Nat} {w : World} {C : Ctx} {st : St} {e : Env} {a : Act} (H : Sim w C st bs) (hE : RelE lo w C e n a) {w₁ w₃ : World} {C₁ C₃ : Ctx} {l : Nat} {mark : List Deferred} {s : St} {lp : Lp}
    (e3 : Ext w C w₁ C₁) (e4 : C₁.lp st.lp.length = some l) (e5 : Marks w₁ lo (mark ++ a.defers)) (k1 : Sim w₃ C₃ s ((st.stk.length, st.tk.length, st.lp.length) :: bs)) (k2 : Ext w₁ C₁ w₃ C₃)
    (hlq : s.loop st.lp.length = some lp) (hat : Nat.beq lp.at_ 1 = false) :
    ∃ w₄ C₄, (Instr.endLoop l).run P w₃ = .ok (pendOf lp.pend) w₄ ∧ Sim w₄ C₄ (s.back st.stk.length st.tk.length st.lp.length) bs ∧ Ext w C w₄ C₄ ∧ RelE lo w₄ C₄ e n { a with defers := mark ++ a.defers } := by
  have hlq' : s.lp[st.lp.length]? = some (.loop lp) := by
    unfold St.loop at hlq
    split at hlq
    · rename_i r hr; rw [hr, Option.some.inj hlq]
    · cases hlq
  obtain ⟨B', a1, fn', D, tmps, a2, a3, a4, a5⟩ := k1.lps _ _ hlq'
  rw [k2.lp _ _ e4] at a1
  obtain rfl := Option.some.inj a1
  have hxx := e3.trans k2
  have hL := k1.leave (List.mem_cons_self ..) (bs' := bs) (fun _ x => List.mem_cons_of_mem _ x) fun m t l hm => H.bnd m t l hm
  have hX := H.ext_back hxx
  have hlpl : ∀ i, (C₃.cut st.stk.length st.tk.length st.lp.length).lp i ≠ some l := by
    intro i hi
    simp only [Ctx.cut] at hi
    split at hi
    · have := k1.lpinj _ _ _ hi (k2.lp _ _ e4)
      omega
    · cases hi
  have hnb : (stateOf lp.at_ == .busy) = false := by
    have : lp.at_ ≠ 1 := Nat.ne_of_beq_eq_false hat
    match hh : lp.at_ with
    | 0 => rfl
    | 1 => exact absurd hh this
    | n + 2 => rfl
  obtain ⟨m1, m2, _⟩ := hL.setObj (ob := .loop { recOf lp fn' D tmps with state := .exhausted }) a2 (by have := k1.low.2.2 _ _ (k2.lp _ _ e4); exact this) hlpl (by intro _ _ _ q; cases q) (by intro _ _ _ q; cases q)
    (lo := w.heap.size) (fun D' h1 h2 => by subst h2; rw [a2] at h1; cases h1) hX rfl
  have hend : (Instr.endLoop l).run P w₃ = .ok (pendOf lp.pend) { w₃ with heap := w₃.heap.setIfInBounds l (.loop { recOf lp fn' D tmps with state := .exhausted }) } := by
    have a2' : w₃.heap[l]? = some (.loop { state := stateOf lp.at_, pending := pendOf lp.pend, fn := fn', tmps := tmps, params := lp.ps.toArray, assign := lp.assign, body := lp.body, defers := D }) := a2
    simp only [Instr.endLoop, Instr.getLoop, getObj, setObj, Sem.run_bind, Sem.run, a2', Result.andThen]
    simp [hnb, recOf, Sem.run, a2']
  refine ⟨_, _, hend, m1, m2, hE.size, (hE.mono m2).rep, ?_⟩
  have hm3 := e5.mono k2
  refine ⟨by simpa using hm3.le, fun d hd => ?_, hm3.nd⟩
  obtain ⟨D', h1, h2, h3⟩ := hm3.ok d hd
  refine ⟨D', h1, h2, ?_⟩
  show (w₃.heap.setIfInBounds l _)[D']? = _
  rw [Array.getElem?_setIfInBounds_ne]
  · exact h3
  · rintro rfl; rw [a2] at h3; cases h3

set_option maxHeartbeats 1000000 in
theorem evCode_sound (G : Good Cf.P Cf.call) {k : Nat} (hk : Cf.it = itK k) (hbase : ∀ m t l, (m, t, l) ∈ bs → m ≤ Cf.base) (tb : Nat) (hmem : (Cf.base, tb, Cf.lb) ∈ bs) (hD : DrawOk Cf rd lo bs) :
    ∀ (c : Code) (A : Ann) (e : Env) (st : St) {R : Type} (K : Ex → Env → St → Option R) (r : R) (a : Act) (w : World) (C : Ctx) (Q : Exit → Act → World → Prop), evCode Cf c A e st K = some r → Sim w C st bs → RelE lo w C e Cf.n a → RdOk Cf C rd →
      (∀ x e' st' a' w' C', K x e' st' = some r → Sim w' C' st' bs → Ext w C w' C' → RelE lo w' C' e' Cf.n a' → Q (exitOf x) a' w') → c.wpIn (fen rd) 0 Cf.P Q a w := by
  intro c
  induction c with
  | skip => intro A e st R K r a w C Q h H hE hr hK; exact wpIn_skip (hK .normal e st a w C h H (Ext.refl w C) hE)
  | region id ops d =>
    intro A e st R K r a w C Q h H hE hr hK
    cases d with
    | false =>
      have h : evOps Cf ops ops.toList e st (fun e' st' => K .normal e' st') = some r := h
      refine wpIn_region ?_
      have := evOps_sound (rd := rd) (Q := Q) G hbase ops.toList 0 e a w C st rfl H hE h fun e' st' a' w' C' q1 q2 q3 q4 => hK .normal e' st' a' w' C' q1 q2 q3 q4
      rw [List.range_eq_range']
      simpa using this
    | true =>
      have h : (bif drawChk ops (Region.before ops) ops.toList 0 then evDraw Cf ops (Region.before ops) ops.toList 0 e st [] [] (fun e' st' => K .normal e' st') else none) = some r := h
      cases hc : drawChk ops (Region.before ops) ops.toList 0 with
      | false => rw [hc] at h; simp at h
      | true =>
        rw [hc] at h
        exact hD id ops hc H hE h fun e' st' a' w' C' q1 q2 q3 q4 => hK .normal e' st' a' w' C' q1 q2 q3 q4
  | seq x y ihx ihy =>
    intro A e st R K r a w C Q h H hE hr hK
    refine wpIn_seq (ihx A.x e st _ r a w C _ h H hE hr fun z e' st' a' w' C' q1 q2 q3 q4 => ?_)
    rcases seqK_cases q1 with ⟨rfl, q1⟩ | ⟨hn, q1⟩
    · exact ihy A.y e' st' K r a' w' C' Q q1 q2 q4 (hr.mono q3) fun z e'' st'' a'' w'' C'' p1 p2 p3 p4 => hK z e'' st'' a'' w'' C'' p1 p2 (q3.trans p3) p4
    · have := hK z e' st' a' w' C' q1 q2 q3 q4
      cases z with
      | normal => exact absurd rfl hn
      | exit i => exact this
      | ret => exact this
  | cond b x y ihx ihy =>
    intro A e st R K r a w C Q h H hE hr hK
    have h : onBool (opnd e b) (fun t => (bif t then evCode Cf x A.x e st (leave A.live) else evCode Cf y A.y e st (leave A.live)).bind fun r => K r.1 (mkEnv A.live r.2.1) r.2.2) = some r := h
    unfold onBool at h
    split at h
    · rename_i t ht
      have hrr := rep_opnd hE b
      rw [ht] at hrr
      have hv := (rep_v hrr).1
      obtain ⟨q, hq, h⟩ := Option.bind_eq_some_iff.1 h
      refine wpIn_cond hv ?_
      have hjoin : ∀ z e' st' a' w' C', leave A.live z e' st' = some q → Sim w' C' st' bs → Ext w C w' C' → RelE lo w' C' e' Cf.n a' → Q (exitOf z) a' w' := by
        intro z e' st' a' w' C' p1 p2 p3 p4
        obtain rfl := Option.some.inj p1
        exact hK z _ st' a' w' C' h p2 p3 (p4.live A.live)
      cases t with
      | true => exact ihx A.x e st _ q a w C Q hq H hE hr hjoin
      | false => exact ihy A.y e st _ q a w C Q hq H hE hr hjoin
    · cases h
  | block id x ih =>
    intro A e st R K r a w C Q h H hE hr hK
    refine wpIn_block (ih A.x e st _ r a w C _ h H hE hr fun z e' st' a' w' C' q1 q2 q3 q4 => ?_)
    have := hK (z.outOf id) e' st' a' w' C' q1 q2 q3 q4
    cases z with
    | normal => exact this
    | ret => exact this
    | exit i =>
      simp only [exitOf, Exit.inBlock]
      by_cases hi : i = id
      · subst hi
        rw [if_pos rfl]
        have hb : Nat.beq i i = true := Nat.beq_refl i
        simp only [Ex.outOf, hb, cond_true] at this
        exact this
      · rw [if_neg hi]
        have hb : Nat.beq i id = false := by
          cases hq : Nat.beq i id with
          | false => rfl
          | true => exact absurd (Nat.eq_of_beq_eq_true hq) hi
        simp only [Ex.outOf, hb, cond_false] at this
        exact this
  | loop x ih =>
    intro A e st R K r a w C Q h H hE hr hK
    obtain ⟨q, hq, h⟩ := Option.bind_eq_some_iff.1 h
    rw [hk] at hq
    refine wpIn_loop_rounds k ?_
    refine iter_sound (rd := rd) (live := A.live) (C0 := C) (w0 := w) (fun vs s w1 C1 a1 rb hrb H1 hx1 hE1 Q' hQ' => ?_) k _ st w C a hq H (Ext.refl w C) (hE.live A.live) fun a' w' C' _ p2 p3 p4 => hK q.1 _ _ a' w' C' h p2 p3 p4
    refine ih A.x _ s _ rb a1 w1 C1 Q' hrb H1 hE1 (hr.mono hx1) fun z e' st' a' w' C' p1 p2 p3 p4 => ?_
    cases htr : A.tr with
    | false =>
      rw [htr] at p1
      obtain rfl := Option.some.inj p1
      exact hQ' a' w' C' p2 (hx1.trans p3) (p4.live A.live)
    | true =>
      rw [htr] at p1
      have p1 : leaveV Cf.base Cf.lb s.stk.length z (A.live.map e') st' = some rb := p1
      unfold leaveV at p1
      cases hc : (st'.lp.drop Cf.lb).all isIter && (A.live.map e').all (sf true s.stk.length 4) && ((st'.stk.drop Cf.base).take (s.stk.length - Cf.base)).all (fun b => b.cs.all (sf true s.stk.length 4)) with
      | false => rw [hc] at p1; simp at p1
      | true =>
        rw [hc] at p1
        obtain rfl := Option.some.inj p1
        rw [Bool.and_eq_true, Bool.and_eq_true] at hc
        have hbm : Cf.base ≤ s.stk.length := (H1.bnd _ _ _ hmem).1
        have hm : s.stk.length ≤ st'.stk.length := by
          rcases Nat.lt_or_ge st'.stk.length s.stk.length with hlt | hge
          · exfalso
            obtain ⟨blk, hblk⟩ : ∃ x, s.stk[st'.stk.length]? = some x := ⟨_, List.getElem?_eq_getElem hlt⟩
            obtain ⟨B, arr, elem, fr, a1, _⟩ := H1.blk false st'.stk.length blk.cs (by simp [St.blk, St.bk, hblk])
            have := p2.σstk (p3.σ _ _ _ a1)
            omega
          · exact hge
        refine hQ' a' w' (C'.cutS s.stk.length) (p2.truncS hmem hbm hbase hm hc.1.1 hc.2) (hx1.trans (ext_cutS p3 (fun b B x => H1.σstk x) fun b t y x => ?_)) ((p4.live A.live).cutS hc.1.2)
        rcases Nat.lt_or_ge b s.stk.length with z' | z'
        · exact z'
        · rw [H1.tlbnone (a := false) z' t] at x; cases x
  | rangeFunc g ps x y _ _ =>
    intro A e st R K r a w C Q h H hE hr hK
    have h : onFn (opnd e g) (fun f caps => bif inRd Cf st && plainFn f then
      (Cf.call f (.clo (.yield st.lp.length) [] :: caps) { st with lp := st.lp ++ [.loop ⟨A.live, A.live.map e, Cf.n, Cf.md, ps.toList, x, y, A.x, 0, .normal⟩] }).bind fun r => endLp r.2 st.stk.length st.tk.length st.lp.length fun x s => K x e s
        else none) = some r := h
    obtain ⟨f, caps, hf, hin, h⟩ : ∃ f caps, opnd e g = .clo (.func f) caps ∧ inRd Cf st = true ∧
        ((Cf.call (.func f) (.clo (.yield st.lp.length) [] :: caps) { st with lp := st.lp ++ [.loop ⟨A.live, A.live.map e, Cf.n, Cf.md, ps.toList, x, y, A.x, 0, .normal⟩] }).bind fun r => endLp r.2 st.stk.length st.tk.length st.lp.length fun x s => K x e s) = some r := by
      unfold onFn at h
      split at h
      · rename_i f caps hf
        dsimp only at h
        cases hb : inRd Cf st && plainFn (.func f) with
        | false => rw [hb] at h; simp at h
        | true =>
          rw [hb] at h
          rw [Bool.and_eq_true] at hb
          exact ⟨f, caps, hf, hb.1, h⟩
      · simp [plainFn] at h
      · cases h
    obtain ⟨q, hq, h⟩ := Option.bind_eq_some_iff.1 h
    have hrf := rep_opnd hE g
    rw [hf] at hrf
    obtain ⟨cs, hcs, hcl, hcr⟩ : ∃ cs : Array Value, a.eval g = .func (.func f) #[] cs ∧ cs.size = caps.length ∧ ∀ (i : Nat) (x : Value) (p : PV), cs[i]? = some x → caps[i]? = some p → Rep w C x p := by
      cases hv : a.eval g <;> rw [hv] at hrf <;> cases hrf
      rename_i h1 h2
      exact ⟨_, rfl, h1, h2⟩
    refine wpIn_rangeFunc fun fn _ => ?_
    obtain ⟨l, mark, w₁, C₁, e1, e2, e3, e4, e5⟩ := enter_ok H hE hr hin fn A.live ps x y A.x
    obtain ⟨⟨fnc, g1, g2, g3⟩, gc⟩ := G _ _ _ q hq
    have hargs : (#[Operand.const (.func (.yield l) #[] #[])] : Array Operand).map a.eval = #[yv l] := by simp [Act.eval, yv]
    have hres : (resolve a.eval (rangeCall g l) 0).run Cf.P w₁ = .ok { target := .fn (.func f) cs, args := #[yv l] } w₁ := by
      simp only [resolve]
      rw [hargs, hcs]
      simp [Deferred.ofValue]
    have hinv : (invoke (.fn (.func f) cs) #[yv l]).run Cf.P w₁ = .ok (.enter f (#[yv l] ++ cs)) w₁ := run_enter g1 g2 g3 w₁
    refine ⟨l, mark, w₁, { target := .fn (.func f) cs, args := #[yv l] }, w₁, f, #[yv l] ++ cs, w₁, e1, hres, fun _ _ => trivial, hinv, fun z => by simp [fen, Fence.wide] at z, callsIn_fen ?_⟩
    refine (gc w₁ C₁ _ (#[yv l] ++ cs) e2 (by simp [hcl]; omega) fun i v p hv hp => ?_).mono ?_
    · cases i with
      | zero =>
        have hp' : p = .clo (.yield st.lp.length) [] := by simpa using hp.symm
        have hv' : v = yv l := by
          rw [Array.getElem?_append_left (by simp)] at hv
          simpa using hv.symm
        rw [hp', hv']; exact .yld e4
      | succ i =>
        simp at hp
        rw [Array.getElem?_append_right (by simp)] at hv
        exact (hcr i v p (by simpa using hv) hp).mono e3
    · rintro e' w₃ ⟨v, C₃, rfl, k1, k2, k3⟩
      unfold endLp at h
      cases hlq : q.2.loop st.lp.length with
      | none => rw [hlq] at h; cases h
      | some lp =>
        rw [hlq] at h
        simp only at h
        cases hat : Nat.beq lp.at_ 1 with
        | true => rw [hat] at h; simp at h
        | false =>
          rw [hat] at h
          simp only [cond_false] at h
          obtain ⟨w₄, C₄, hend, m1, m2, hE'⟩ := leaveLoop_ok (P := Cf.P) H hE e3 e4 e5 k1 k2 hlq hat
          refine ⟨_, _, hend, ?_⟩
          have hKK := hK lp.pend e _ _ _ _ h m1 m2 hE'
          rcases pend_cases lp.pend with ⟨p1, p2⟩ | ⟨i, p1, p2⟩ | ⟨p1, p2⟩
          · rw [p2]; rw [p1] at hKK; exact hKK
          · rw [p2]; rw [p1] at hKK; exact wpIn_exit hKK
          · rw [p2]; rw [p1] at hKK; exact wpIn_ret hKK
  | exit id => intro A e st R K r a w C Q h H hE hr hK; exact wpIn_exit (hK (.exit id) e st a w C h H (Ext.refl w C) hE)
  | ret => intro A e st R K r a w C Q h H hE hr hK; exact wpIn_ret (hK .ret e st a w C h H (Ext.refl w C) hE)
  | scope x _ => intro A e st R K r a w C Q h H hE hr hK; cases h
  | label l => intro A e st R K r a w C Q h H hE hr hK; cases h
  | goto l => intro A e st R K r a w C Q h H hE hr hK; cases h
  | refuse s => intro A e st R K r a w C Q h H hE hr hK; cases h

end
end Go.AM
