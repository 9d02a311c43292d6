/- The abstract machine without counting: equations of a call and of a round. No condition. -/
import Derived.Test.YtkbhejcfejembaaM24
import Derived.Test.YtkbhejcfejembaaM21
set_option linter.all false
set_option linter.unusedVariables false
namespace Go.AM
open Go

theorem resultsK_congr {R : Type} {C1 C2 : Cfg} (h : C1.P = C2.P) : ∀ (rs : List ResultVar) (e : Env) (st : St) (K : List PV → Option R), resultsK C1 rs e st K = resultsK C2 rs e st K
  | [], e, st, K => rfl
  | .tmp t :: rs, e, st, K => resultsK_congr h rs e st _
  | .cell a t :: rs, e, st, K => by
    simp only [resultsK, h]
    cases C2.P.underlying t with
    | none => rfl
    | some d =>
      show (aLoad (aggT C2.P t) (szT C2.P t) (e a) st).bind (fun p => resultsK C1 rs e st fun ps => K (p :: ps)) = (aLoad (aggT C2.P t) (szT C2.P t) (e a) st).bind (fun p => resultsK C2 rs e st fun ps => K (p :: ps))
      congr 1
      funext p
      exact resultsK_congr h rs e st _

/-- Callers and loops that come to one. -/
structure LimC (callk : Nat → CallF) (itk : Nat → LoopF) (call : CallF) (it : LoopF) : Prop where
  call : ∀ f args st r, call f args st = some r → Evt (fun k => callk k f args st) r
  it : ∀ (b : List PV → St → Option (Ex × List PV × St)) (bk : Nat → List PV → St → Option (Ex × List PV × St)), (∀ vs st r, b vs st = some r → Evt (fun k => bk k vs st) r) → ∀ vs st r, it b vs st = some r → Evt (fun k => itk k (bk k) vs st) r

section
variable {callk : Nat → CallF} {itk : Nat → LoopF} {call : CallF} {it : LoopF} (H : LimC callk itk call it) {L : Lib}
include H

theorem LimC.lim (n base : Nat) (imp : List FuncId) (md : Md) (rd : Option Nat) (lb : Nat) : Lim (fun k => ⟨L.P, callk k, n, base, itk k, imp, md, rd, lb⟩) ⟨L.P, call, n, base, it, imp, md, rd, lb⟩ :=
  ⟨fun _ => rfl, fun _ => rfl, fun _ => rfl, fun _ => rfl, fun _ => rfl, fun _ => rfl, fun _ => rfl, H.call, H.it⟩

theorem body_evt {f : FuncId} {fn : Func} {c : Code} {args : List PV} {st : St} {r : PV × St} (h : evBody L call it f fn c args st = some r) : Evt (fun k => evBody L (callk k) (itk k) f fn c args st) r := by
  unfold evBody at h ⊢
  cases hn : Nat.ble args.length fn.ntmps with
  | false => rw [hn] at h; simp at h
  | true =>
    rw [hn] at h
    simp only [cond_true] at h ⊢
    refine evCode_evt (H.lim fn.ntmps st.stk.length L.imp (L.md f) none st.lp.length) c (L.ann f) _ st _ _ r h fun x e s hx => ?_
    cases x with
    | normal => exact (Evt.const hx).congr fun k => by simp only [retK]; refine resultsK_congr ?_ _ _ _ _; rfl
    | ret => exact (Evt.const hx).congr fun k => by simp only [retK]; refine resultsK_congr ?_ _ _ _ _; rfl
    | exit i => cases hx

theorem round_evt {i : Nat} {lp : Lp} {args : List PV} {st : St} {r : PV × St} (h : evRound L call it i lp args st = some r) : Evt (fun k => evRound L (callk k) (itk k) i lp args st) r := by
  unfold evRound at h ⊢
  cases hn : Nat.beq lp.at_ 0 && Nat.beq args.length lp.ps.length with
  | false => rw [hn] at h; simp at h
  | true =>
    rw [hn] at h
    simp only [cond_true] at h ⊢
    refine evCode_evt (H.lim lp.n st.stk.length L.imp lp.md (some i) st.lp.length) lp.assign lp.A.x _ st _ _ r h fun x e s hx => ?_
    cases hx2 : isNormal x with
    | false => rw [hx2] at hx; simp at hx
    | true =>
      rw [hx2] at hx
      simp only [cond_true] at hx ⊢
      unfold beginR at hx ⊢
      split at hx
      · rename_i q hq
        cases h0 : Nat.beq q.at_ 0 with
        | false => rw [h0] at hx; simp at hx
        | true =>
          rw [h0] at hx
          simp only [cond_true] at hx ⊢
          exact evCode_evt (H.lim lp.n st.stk.length L.imp lp.md (some i) st.lp.length) lp.body lp.A.y e _ _ _ r hx fun x e s hx => Evt.const hx
      · cases hx

end

theorem iter_mono {b b' : List PV → St → Option (Ex × List PV × St)} (hb : ∀ vs st r, b vs st = some r → b' vs st = some r) : ∀ (n m : Nat), n ≤ m → ∀ (vs : List PV) (st : St) (r : Ex × List PV × St), iter b n vs st = some r → iter b' m vs st = some r
  | 0, m, _, vs, st, r, h => by cases h
  | n + 1, m, hm, vs, st, r, h => by
    obtain ⟨m, rfl⟩ : ∃ i, m = i + 1 := ⟨m - 1, by omega⟩
    simp only [iter] at h ⊢
    obtain ⟨q, hq, h⟩ := Option.bind_eq_some_iff.1 h
    rw [hb _ _ _ hq, Option.bind_some]
    obtain ⟨x, vs', st'⟩ := q
    cases x with
    | normal => exact iter_mono hb n m (by omega) vs' st' r h
    | exit i => exact h
    | ret => exact h

theorem evt_const {R : Type} {x : Option R} {r : R} (h : Evt (fun _ => x) r) : x = some r := by
  obtain ⟨k, h⟩ := h
  exact h k (Nat.le_refl _)

theorem evF_step {L : Lib} : ∀ (k : Nat) (g : Fn) (args : List PV) (st : St) (r : PV × St), evF L k g args st = some r → evF L (k + 1) g args st = some r
  | 0, g, args, st, r, h => by cases h
  | k + 1, g, args, st, r, h => by
    have hl : LimC (fun _ => evF L (k + 1)) (fun _ => itK (k + 1)) (evF L k) (itK k) :=
      ⟨fun f args st r h => Evt.const (evF_step k f args st r h), fun b bk hb vs st r h => by
        -- the rounds of a row are told from some number on: this row stands still
        obtain ⟨k1, h1⟩ : Evt (fun j => itK (k + 1) (bk j) vs st) r := by
          have : ∀ (n : Nat) (vs : List PV) (st : St) (r : Ex × List PV × St), iter b n vs st = some r → ∀ m, n ≤ m → Evt (fun j => iter (bk j) m vs st) r := by
            intro n
            induction n with
            | zero => intro vs st r h; cases h
            | succ n ih =>
              intro vs st r h m hm
              obtain ⟨m, rfl⟩ : ∃ i, m = i + 1 := ⟨m - 1, by omega⟩
              simp only [iter] at h ⊢
              obtain ⟨q, hq, h⟩ := Option.bind_eq_some_iff.1 h
              refine (hb _ _ _ hq).bind ?_
              obtain ⟨x, vs', st'⟩ := q
              cases x with
              | normal => exact ih vs' st' r h m (by omega)
              | exit i => exact Evt.const h
              | ret => exact Evt.const h
          exact this k vs st r h (k + 1) (Nat.le_succ _)
        exact ⟨k1, h1⟩⟩
    cases g with
    | func f =>
      have h : (match L.prim f with
        | some g => g args st
        | none => match L.P.funcs[f]? with
          | some fn => match fn.body with
            | some c => evBody L (evF L k) (itK k) f fn c args st
            | none => none
          | none => none) = some r := h
      show (match L.prim f with
        | some g => g args st
        | none => match L.P.funcs[f]? with
          | some fn => match fn.body with
            | some c => evBody L (evF L (k + 1)) (itK (k + 1)) f fn c args st
            | none => none
          | none => none) = some r
      cases hp : L.prim f with
      | some g => rw [hp] at h; exact h
      | none =>
        rw [hp] at h
        simp only at h ⊢
        cases hf : L.P.funcs[f]? with
        | none => rw [hf] at h; cases h
        | some fn =>
          rw [hf] at h
          simp only at h ⊢
          cases hb : fn.body with
          | none => rw [hb] at h; cases h
          | some c =>
            rw [hb] at h
            exact evt_const (body_evt hl h)
    | yield i =>
      have h : (match st.loop i with
        | some r => evRound L (evF L k) (itK k) i r args st
        | none => none) = some r := h
      show (match st.loop i with
        | some r => evRound L (evF L (k + 1)) (itK (k + 1)) i r args st
        | none => none) = some r
      cases hq : st.loop i with
      | none => rw [hq] at h; cases h
      | some lp =>
        rw [hq] at h
        exact evt_const (round_evt hl h)
    | _ => cases h

theorem evF_mono {L : Lib} {k : Nat} {g : Fn} {args : List PV} {st : St} {r : PV × St} (h : evF L k g args st = some r) : ∀ j, k ≤ j → evF L j g args st = some r := by
  intro j hj
  obtain ⟨d, rfl⟩ : ∃ d, j = k + d := ⟨j - k, by omega⟩
  induction d with
  | zero => exact h
  | succ d ih => exact evF_step _ _ _ _ _ (ih (by omega))

theorem E_of {L : Lib} {k : Nat} {g : Fn} {args : List PV} {st : St} {r : PV × St} (h : evF L k g args st = some r) : E L g args st = some r := limit_eq ⟨k, evF_mono h⟩
theorem itE_of {b : List PV → St → Option (Ex × List PV × St)} {k : Nat} {vs : List PV} {st : St} {r : Ex × List PV × St} (h : iter b k vs st = some r) : itE b vs st = some r :=
  limit_eq ⟨k, fun j hj => iter_mono (fun _ _ _ h => h) k j hj vs st r h⟩

/-- Callers of so many steps lie below. -/
theorem limC_below (L : Lib) (k : Nat) : LimC (fun _ => E L) (fun _ => itE) (evF L k) (itK k) := by
  refine ⟨fun f args st r h => Evt.const (E_of h), fun b bk hb vs st r h => ?_⟩
  have : ∀ (n : Nat) (vs : List PV) (st : St) (r : Ex × List PV × St), iter b n vs st = some r → Evt (fun j => itE (bk j) vs st) r := by
    intro n
    induction n with
    | zero => intro vs st r h; cases h
    | succ n ih =>
      intro vs st r h
      simp only [iter] at h
      obtain ⟨q, hq, h⟩ := Option.bind_eq_some_iff.1 h
      refine Evt.congr (F := fun j => (bk j vs st).bind fun r => seqK r.1 (itE (bk j) r.2.1 r.2.2) fun _ => some r) ?_ fun j => (itE_eq (bk j) vs st).symm
      refine (hb _ _ _ hq).bind ?_
      obtain ⟨x, vs', st'⟩ := q
      cases x with
      | normal => exact ih vs' st' r h
      | exit i => exact Evt.const h
      | ret => exact Evt.const h
  exact this k vs st r h
theorem limC_E (L : Lib) : LimC (fun k => evF L k) itK (E L) itE := ⟨fun f args st r h => limit_some h, fun b bk hb vs st r h => itE_evt hb h⟩

theorem E_prim {L : Lib} {f : FuncId} {g : List PV → St → Option (PV × St)} (hp : L.prim f = some g) (args : List PV) (st : St) : E L (.func f) args st = g args st := by
  have step : ∀ k, evF L (k + 1) (.func f) args st = g args st := fun k => by
    show (match L.prim f with
        | some g => g args st
        | none => _) = _
    rw [hp]
  cases hg : g args st with
  | some r => exact E_of (k := 1) ((step 0).trans hg)
  | none =>
    cases he : E L (.func f) args st with
    | none => rfl
    | some r =>
      obtain ⟨k, hk⟩ := limit_some he
      have := hk (k + 1) (by omega)
      simp only [] at this
      rw [step, hg] at this
      cases this

theorem E_func {L : Lib} {f : FuncId} {fn : Func} {c : Code} (hp : L.prim f = none) (hf : L.P.funcs[f]? = some fn) (hb : fn.body = some c) (args : List PV) (st : St) : E L (.func f) args st = evBody L (E L) itE f fn c args st := by
  have step : ∀ k, evF L (k + 1) (.func f) args st = evBody L (evF L k) (itK k) f fn c args st := fun k => by
    show (match L.prim f with
        | some g => g args st
        | none => match L.P.funcs[f]? with
          | some fn => match fn.body with
            | some c => evBody L (evF L k) (itK k) f fn c args st
            | none => none
          | none => none) = _
    rw [hp]
    simp only [hf, hb]
  cases hg : evBody L (E L) itE f fn c args st with
  | some r =>
    obtain ⟨k, hk⟩ := body_evt (limC_E L) hg
    exact E_of (k := k + 1) ((step k).trans (hk k (Nat.le_refl _)))
  | none =>
    cases he : E L (.func f) args st with
    | none => rfl
    | some r =>
      obtain ⟨k, hk⟩ := limit_some he
      have := hk (k + 1) (by omega)
      simp only [] at this
      rw [step] at this
      have := evt_const (body_evt (limC_below L k) this)
      rw [hg] at this
      cases this

theorem E_yield {L : Lib} {i : Nat} {lp : Lp} {st : St} (hl : st.loop i = some lp) (args : List PV) : E L (.yield i) args st = evRound L (E L) itE i lp args st := by
  have step : ∀ k, evF L (k + 1) (.yield i) args st = evRound L (evF L k) (itK k) i lp args st := fun k => by
    show (match st.loop i with
        | some r => evRound L (evF L k) (itK k) i r args st
        | none => none) = _
    rw [hl]
  cases hg : evRound L (E L) itE i lp args st with
  | some r =>
    obtain ⟨k, hk⟩ := round_evt (limC_E L) hg
    exact E_of (k := k + 1) ((step k).trans (hk k (Nat.le_refl _)))
  | none =>
    cases he : E L (.yield i) args st with
    | none => rfl
    | some r =>
      obtain ⟨k, hk⟩ := limit_some he
      have := hk (k + 1) (by omega)
      simp only [] at this
      rw [step] at this
      have := evt_const (round_evt (limC_below L k) this)
      rw [hg] at this
      cases this

theorem E_evF {L : Lib} {g : Fn} {args : List PV} {st : St} {r : PV × St} (h : E L g args st = some r) : ∃ k, evF L k g args st = some r := by
  obtain ⟨k, hk⟩ := limit_some h
  exact ⟨k, hk k (Nat.le_refl _)⟩

end Go.AM
