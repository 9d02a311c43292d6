/- The abstract machine without counting: what a call comes to, however many steps it takes. No condition. -/
import Derived.Test.YtkbhejcfejembaaM16
set_option linter.all false
set_option linter.unusedVariables false
namespace Go.AM
open Go

/-- From some number on, always. -/
def Evt {R : Type} (F : Nat → Option R) (r : R) : Prop := ∃ k0, ∀ k, k0 ≤ k → F k = some r
theorem Evt.const {R : Type} {x : Option R} {r : R} (h : x = some r) : Evt (fun _ => x) r := ⟨0, fun _ _ => h⟩
theorem Evt.bind {R S : Type} {F : Nat → Option R} {G : Nat → R → Option S} {a : R} {r : S} (h : Evt F a) (g : Evt (fun k => G k a) r) : Evt (fun k => (F k).bind (G k)) r := by
  obtain ⟨k1, h1⟩ := h
  obtain ⟨k2, h2⟩ := g
  refine ⟨max k1 k2, fun k hk => ?_⟩
  show (F k).bind (G k) = some r
  rw [h1 k (by omega), Option.bind_some]
  exact h2 k (by omega)
theorem Evt.congr {R : Type} {F G : Nat → Option R} {r : R} (h : Evt F r) (e : ∀ k, F k = G k) : Evt G r := by
  obtain ⟨k1, h1⟩ := h
  exact ⟨k1, fun k hk => by rw [← e]; exact h1 k hk⟩
theorem Evt.all {α : Type} {p : α → Nat → Prop} : ∀ (l : List α), (∀ x ∈ l, ∃ k0, ∀ k, k0 ≤ k → p x k) → ∃ k0, ∀ k, k0 ≤ k → ∀ x ∈ l, p x k
  | [], _ => ⟨0, by simp⟩
  | a :: l, h => by
    obtain ⟨k1, h1⟩ := h a (List.mem_cons_self ..)
    obtain ⟨k2, h2⟩ := Evt.all l fun x hx => h x (List.mem_cons_of_mem _ hx)
    refine ⟨max k1 k2, fun k hk x hx => ?_⟩
    rcases List.mem_cons.1 hx with rfl | hx
    · exact h1 k (by omega)
    · exact h2 k (by omega) x hx

/-- A row of evaluators comes to one. -/
structure Lim (Ck : Nat → Cfg) (C : Cfg) : Prop where
  P : ∀ k, (Ck k).P = C.P
  n : ∀ k, (Ck k).n = C.n
  base : ∀ k, (Ck k).base = C.base
  imp : ∀ k, (Ck k).imp = C.imp
  md : ∀ k, (Ck k).md = C.md
  rd : ∀ k, (Ck k).rd = C.rd
  lb : ∀ k, (Ck k).lb = C.lb
  call : ∀ f args st r, C.call f args st = some r → Evt (fun k => (Ck k).call f args st) r
  it : ∀ (b : List PV → St → Option (Ex × List PV × St)) (bk : Nat → List PV → St → Option (Ex × List PV × St)), (∀ vs st r, b vs st = some r → Evt (fun k => bk k vs st) r) → ∀ vs st r, C.it b vs st = some r → Evt (fun k => (Ck k).it (bk k) vs st) r

section
variable {Ck : Nat → Cfg} {C : Cfg} (H : Lim Ck C)
include H

theorem stepB_evt {R : Type} {m : Nat} {b : Builtin} {ats : Array TypeId} {xs : List PV} {st : St} {K : PV → St → Option R} {Kk : Nat → PV → St → Option R} {r : R} (h : stepB C m b ats xs st K = some r)
    (hK : ∀ p s, K p s = some r → Evt (fun k => Kk k p s) r) : Evt (fun k => stepB (Ck k) m b ats xs st (Kk k)) r := by
  unfold stepB at h ⊢
  simp only [H.P, H.base]
  split at h
  · obtain ⟨p, hp, h⟩ := Option.bind_eq_some_iff.1 h; simp only [hp, Option.bind_some]; exact hK _ _ h
  · obtain ⟨p, hp, h⟩ := Option.bind_eq_some_iff.1 h; simp only [hp, Option.bind_some]; exact hK _ _ h
  · obtain ⟨p, hp, h⟩ := Option.bind_eq_some_iff.1 h; simp only [hp, Option.bind_some]; exact hK _ _ h
  · obtain ⟨p, hp, h⟩ := Option.bind_eq_some_iff.1 h; simp only [hp, Option.bind_some]; exact hK _ _ h
  · split at h
    · cases h
    · obtain ⟨ys, hy, h⟩ := Option.bind_eq_some_iff.1 h
      obtain ⟨q, hq, h⟩ := Option.bind_eq_some_iff.1 h
      simp only [hy, hq, Option.bind_some]; exact hK _ _ h
    · cases h
  · split at h
    · obtain ⟨ys, hy, h⟩ := Option.bind_eq_some_iff.1 h
      obtain ⟨q, hq, h⟩ := Option.bind_eq_some_iff.1 h
      simp only [hy, hq, Option.bind_some]; exact hK _ _ h
    · cases h
  · obtain ⟨q, hq, h⟩ := Option.bind_eq_some_iff.1 h
    simp only [hq, Option.bind_some]; exact hK _ _ h
  · cases h

theorem stepK_evt {R : Type} {o : Oper} {e : Env} {st : St} {K : PV → St → Option R} {Kk : Nat → PV → St → Option R} {r : R} (h : stepK C o e st K = some r)
    (hK : ∀ p s, K p s = some r → Evt (fun k => Kk k p s) r) : Evt (fun k => stepK (Ck k) o e st (Kk k)) r := by
  unfold stepK at h ⊢
  simp only [H.P, H.base, H.md]
  split at h <;> first
    | exact hK _ _ h
    | (obtain ⟨p, hp, h⟩ := Option.bind_eq_some_iff.1 h; simp only [hp, Option.bind_some]; exact hK _ _ h)
    | (obtain ⟨p, hp, h⟩ := Option.bind_eq_some_iff.1 h; obtain ⟨q, hq, h⟩ := Option.bind_eq_some_iff.1 h; simp only [hp, hq, Option.bind_some]; exact hK _ _ h)
    | (cases h; done)
    | skip
  · -- buildSlice
    cases hm : Nat.beq (C.md.of o.dst) 0 with
    | true =>
      rw [hm] at h
      obtain ⟨p, hp, h⟩ := Option.bind_eq_some_iff.1 h; simp only [hp, cond_true, Option.bind_some]; exact hK _ _ h
    | false =>
      rw [hm] at h
      obtain ⟨p, hp, h⟩ := Option.bind_eq_some_iff.1 h; simp only [hp, cond_false, Option.bind_some]; exact hK _ _ h
  · -- load
    split at h
    · obtain ⟨p, hp, h⟩ := Option.bind_eq_some_iff.1 h; simp only [hp, Option.bind_some]; exact hK _ _ h
    · cases h
  · -- call
    split at h
    · exact stepB_evt H h hK
    · unfold onFn at h ⊢
      split at h
      · obtain ⟨q, hq, h⟩ := Option.bind_eq_some_iff.1 h
        exact (H.call _ _ _ _ hq).bind (hK _ _ h)
      · obtain ⟨q, hq, h⟩ := Option.bind_eq_some_iff.1 h
        exact (H.call _ _ _ _ hq).bind (hK _ _ h)
      · cases h
    · cases h

theorem guarded_evt {R : Type} {ops : Array Oper} {o : Oper} {e : Env} {st : St} {K : PV → St → Option R} {Kk : Nat → PV → St → Option R} {r : R} (h : guarded C ops o e st K = some r)
    (hK : ∀ p s, K p s = some r → Evt (fun k => Kk k p s) r) : Evt (fun k => guarded (Ck k) ops o e st (Kk k)) r := by
  unfold guarded at h ⊢
  split at h
  · exact stepK_evt H h hK
  · rename_i j want hg
    split at h
    · rename_i t ht
      obtain ⟨q, hq, h⟩ := Option.bind_eq_some_iff.1 h
      refine Evt.bind (a := q) ?_ (hK _ _ h)
      unfold onG at hq ⊢
      split at hq
      · rename_i b hb
        cases hw : (b == want) with
        | true =>
          rw [hw] at hq
          simp only [hw, cond_true] at hq ⊢
          exact stepK_evt H hq fun p s hps => Evt.const hps
        | false =>
          rw [hw] at hq
          simp only [hw, cond_false] at hq ⊢
          exact Evt.const hq
      · exact Evt.const hq
      · cases hq
    · cases h

theorem evOps_evt {R : Type} {ops : Array Oper} {K : Env → St → Option R} {Kk : Nat → Env → St → Option R} {r : R} (hK : ∀ e s, K e s = some r → Evt (fun k => Kk k e s) r) :
    ∀ (os : List Oper) (e : Env) (st : St), evOps C ops os e st K = some r → Evt (fun k => evOps (Ck k) ops os e st (Kk k)) r
  | [], e, st, h => hK e st h
  | o :: os, e, st, h => by
    simp only [evOps, H.n] at h ⊢
    exact guarded_evt H h fun p s hp => evOps_evt hK os _ _ hp

theorem alone_evt {ops : Array Oper} {o : Oper} {e : Env} {s : St} {r : PV × St} (h : alone C ops o e s = some r) : Evt (fun k => alone (Ck k) ops o e s) r :=
  guarded_evt H h fun _ _ hp => Evt.const hp

omit H in
theorem need_evt {R : Type} {c : Prop} {ck : Nat → Prop} {x : Option R} {xk : Nat → Option R} {r : R} (h : need c x = some r) (hc : c → ∃ k0, ∀ k, k0 ≤ k → ck k) (hx : x = some r → Evt xk r) : Evt (fun k => need (ck k) (xk k)) r := by
  unfold need at h ⊢
  split at h
  · rename_i hh
    obtain ⟨k1, h1⟩ := hc hh
    obtain ⟨k2, h2⟩ := hx h
    exact ⟨max k1 k2, fun k hk => by
      have := h1 k (by omega)
      simp only [this, if_true]
      exact h2 k (by omega)⟩
  · cases h
omit H in
theorem needAll_evt {R α : Type} {p : α → Prop} {pk : Nat → α → Prop} (hp : ∀ a, p a → ∃ k0, ∀ k, k0 ≤ k → pk k a) {xk : Nat → Option R} {r : R} : ∀ (l : List α) {x : Option R}, needAll (l.map p) x = some r → (x = some r → Evt xk r) → Evt (fun k => needAll (l.map (pk k)) (xk k)) r
  | [], x, h, hx => hx h
  | a :: l, x, h, hx => by
    simp only [List.map_cons, needAll] at h ⊢
    exact need_evt h (hp a) fun h => needAll_evt hp l h hx

theorem evDraw_evt {R : Type} {ops : Array Oper} {bs : Array Nat} {K : Env → St → Option R} {Kk : Nat → Env → St → Option R} {r : R} (hK : ∀ e s, K e s = some r → Evt (fun k => Kk k e s) r) :
    ∀ (os : List Oper) (i : Nat) (e : Env) (st : St) (seen : List Seen) (acts : List (Nat × St)), evDraw C ops bs os i e st seen acts K = some r → Evt (fun k => evDraw (Ck k) ops bs os i e st seen acts (Kk k)) r
  | [], i, e, st, seen, acts, h => hK e st h
  | o :: os, i, e, st, seen, acts, h => by
    have htold : ∀ (x : Seen) (s : St), told C ops x s → ∃ k0, ∀ k, k0 ≤ k → told (Ck k) ops x s := fun x s hx => alone_evt H hx
    simp only [evDraw, H.n, H.imp, H.md] at h ⊢
    split at h
    · exact guarded_evt H h fun p s hp => evDraw_evt hK os _ _ _ _ _ hp
    · exact guarded_evt H h fun p s hp => need_evt hp (fun hc => ⟨0, fun _ _ => hc⟩) fun hp =>
        needAll_evt (pk := fun k a => told (Ck k) ops ⟨i, o, e, p⟩ a.2) (fun a ha => htold _ _ ha) _ hp fun hp => evDraw_evt hK os _ _ _ _ _ hp
    · cases hb : acts.all (fun a => (bs.getD i 0).testBit a.1) with
      | false => rw [hb] at h; simp at h
      | true =>
        rw [hb] at h
        simp only [cond_true] at h ⊢
        exact guarded_evt H h fun p s hp => needAll_evt (pk := fun k x => told (Ck k) ops x s) (fun a ha => htold _ _ ha) _ hp fun hp => evDraw_evt hK os _ _ _ _ _ hp

theorem evCode_evt : ∀ (c : Code) (A : Ann) (e : Env) (st : St) {R : Type} (K : Ex → Env → St → Option R) (Kk : Nat → Ex → Env → St → Option R) (r : R), evCode C c A e st K = some r →
    (∀ x e s, K x e s = some r → Evt (fun k => Kk k x e s) r) → Evt (fun k => evCode (Ck k) c A e st (Kk k)) r := by
  intro c
  induction c with
  | skip => intro A e st R K Kk r h hK; exact hK _ _ _ h
  | region id ops d =>
    intro A e st R K Kk r h hK
    cases d with
    | false => exact evOps_evt H (fun e s hk => hK _ _ _ hk) ops.toList e st h
    | true =>
      have h : (bif drawChk ops (Region.before ops) ops.toList 0 then evDraw C ops (Region.before ops) ops.toList 0 e st [] [] (fun e' st' => K .normal e' st') else none) = some r := h
      show Evt (fun k => bif drawChk ops (Region.before ops) ops.toList 0 then evDraw (Ck k) ops (Region.before ops) ops.toList 0 e st [] [] (fun e' st' => Kk k .normal e' st') else none) r
      cases hc : drawChk ops (Region.before ops) ops.toList 0 with
      | false => rw [hc] at h; simp at h
      | true =>
        rw [hc] at h
        exact evDraw_evt H (fun e s hk => hK _ _ _ hk) ops.toList 0 e st [] [] h
  | seq x y ihx ihy =>
    intro A e st R K Kk r h hK
    refine ihx A.x e st _ _ r h fun z e' s' hz => ?_
    cases z with
    | normal => exact ihy A.y e' s' K Kk r hz hK
    | exit i => exact hK _ _ _ hz
    | ret => exact hK _ _ _ hz
  | cond b x y ihx ihy =>
    intro A e st R K Kk r h hK
    have h : onBool (opnd e b) (fun t => (bif t then evCode C x A.x e st (leave A.live) else evCode C y A.y e st (leave A.live)).bind fun r => K r.1 (mkEnv A.live r.2.1) r.2.2) = some r := h
    show Evt (fun k => onBool (opnd e b) (fun t => (bif t then evCode (Ck k) x A.x e st (leave A.live) else evCode (Ck k) y A.y e st (leave A.live)).bind fun r => Kk k r.1 (mkEnv A.live r.2.1) r.2.2)) r
    unfold onBool at h ⊢
    split at h
    · rename_i t ht
      obtain ⟨q, hq, h⟩ := Option.bind_eq_some_iff.1 h
      refine Evt.bind (a := q) ?_ (hK _ _ _ h)
      cases t with
      | true => exact ihx A.x e st _ _ q hq fun z e' s' hz => Evt.const hz
      | false => exact ihy A.y e st _ _ q hq fun z e' s' hz => Evt.const hz
    · cases h
  | block id x ih =>
    intro A e st R K Kk r h hK
    exact ih A.x e st _ _ r h fun z e' s' hz => hK _ _ _ hz
  | loop x ih =>
    intro A e st R K Kk r h hK
    obtain ⟨q, hq, h⟩ := Option.bind_eq_some_iff.1 h
    show Evt (fun k => ((Ck k).it (fun vs s => evCode (Ck k) x A.x (mkEnv A.live vs) s (leaveL A.tr (Ck k).base (Ck k).lb s.stk.length A.live)) (A.live.map e) st).bind fun r => Kk k r.1 (mkEnv A.live r.2.1) r.2.2) r
    refine Evt.bind (a := q) (H.it _ _ (fun vs s r hr => ?_) _ _ _ hq) (hK _ _ _ h)
    simp only [H.base, H.lb]
    exact ih A.x _ s _ _ r hr fun z e' s' hz => Evt.const hz
  | rangeFunc g ps x y _ _ =>
    intro A e st R K Kk r h hK
    have h : onFn (opnd e g) (fun f caps => bif inRd C st && plainFn f then
      (C.call f (.clo (.yield st.lp.length) [] :: caps) { st with lp := st.lp ++ [.loop ⟨A.live, A.live.map e, C.n, C.md, ps.toList, x, y, A.x, 0, .normal⟩] }).bind fun r => endLp r.2 st.stk.length st.tk.length st.lp.length fun x s => K x e s
        else none) = some r := h
    show Evt (fun k => onFn (opnd e g) (fun f caps => bif inRd (Ck k) st && plainFn f then
      ((Ck k).call f (.clo (.yield st.lp.length) [] :: caps) { st with lp := st.lp ++ [.loop ⟨A.live, A.live.map e, (Ck k).n, (Ck k).md, ps.toList, x, y, A.x, 0, .normal⟩] }).bind fun r => endLp r.2 st.stk.length st.tk.length st.lp.length fun x s => Kk k x e s
        else none)) r
    have hrd : ∀ k, inRd (Ck k) st = inRd C st := fun k => by unfold inRd; rw [H.rd]
    simp only [H.n, H.md, hrd]
    have go : ∀ (f : Fn) (caps : List PV), (bif inRd C st && plainFn f then
        (C.call f (.clo (.yield st.lp.length) [] :: caps) { st with lp := st.lp ++ [.loop ⟨A.live, A.live.map e, C.n, C.md, ps.toList, x, y, A.x, 0, .normal⟩] }).bind fun r => endLp r.2 st.stk.length st.tk.length st.lp.length fun x s => K x e s
        else none) = some r → Evt (fun k => bif inRd C st && plainFn f then
        ((Ck k).call f (.clo (.yield st.lp.length) [] :: caps) { st with lp := st.lp ++ [.loop ⟨A.live, A.live.map e, C.n, C.md, ps.toList, x, y, A.x, 0, .normal⟩] }).bind fun r => endLp r.2 st.stk.length st.tk.length st.lp.length fun x s => Kk k x e s
        else none) r := by
      intro f caps h
      cases hb : inRd C st && plainFn f with
      | false => rw [hb] at h; simp at h
      | true =>
        rw [hb] at h
        simp only [cond_true] at h ⊢
        obtain ⟨q, hq, h⟩ := Option.bind_eq_some_iff.1 h
        refine Evt.bind (a := q) (H.call _ _ _ _ hq) ?_
        unfold endLp at h ⊢
        split at h
        · rename_i lp hlp
          cases hc : Nat.beq lp.at_ 1 with
          | true => rw [hc] at h; simp at h
          | false => rw [hc] at h; exact hK _ _ _ h
        · cases h
    unfold onFn at h ⊢
    split at h
    · exact go _ _ h
    · exact go _ _ h
    · cases h
  | exit id => intro A e st R K Kk r h hK; exact hK _ _ _ h
  | ret => intro A e st R K Kk r h hK; exact hK _ _ _ h
  | scope x _ => intro A e st R K Kk r h hK; cases h
  | label l => intro A e st R K Kk r h hK; cases h
  | goto l => intro A e st R K Kk r h hK; cases h
  | refuse s => intro A e st R K Kk r h hK; cases h

end

/-! ### what a call comes to -/
open Classical in
noncomputable def limit {R : Type} (F : Nat → Option R) : Option R := if h : ∃ r, Evt F r then some h.choose else none
theorem limit_eq {R : Type} {F : Nat → Option R} {r : R} (h : Evt F r) : limit F = some r := by
  unfold limit
  have hx : ∃ r, Evt F r := ⟨r, h⟩
  rw [dif_pos hx]
  obtain ⟨k1, h1⟩ := h
  obtain ⟨k2, h2⟩ := hx.choose_spec
  have := h1 (max k1 k2) (by omega)
  rw [h2 (max k1 k2) (by omega)] at this
  exact this
theorem limit_some {R : Type} {F : Nat → Option R} {r : R} (h : limit F = some r) : Evt F r := by
  unfold limit at h
  split at h
  · rename_i hx
    obtain rfl := Option.some.inj h
    exact hx.choose_spec
  · cases h

/-- What a call comes to. -/
noncomputable def E (L : Lib) : CallF := fun f args st => limit fun k => evF L k f args st
/-- What a loop comes to. -/
noncomputable def itE : LoopF := fun b vs st => limit fun k => iter b k vs st

theorem iter_evt {b : List PV → St → Option (Ex × List PV × St)} {bk : Nat → List PV → St → Option (Ex × List PV × St)} (hb : ∀ vs st r, b vs st = some r → Evt (fun k => bk k vs st) r) :
    ∀ (n : Nat) (vs : List PV) (st : St) (r : Ex × List PV × St), iter b n vs st = some r → Evt (fun k => iter (bk k) k vs st) r
  | 0, vs, st, r, h => by cases h
  | n + 1, vs, st, r, h => by
    simp only [iter] at h
    obtain ⟨q, hq, h⟩ := Option.bind_eq_some_iff.1 h
    obtain ⟨k1, h1⟩ := hb vs st q hq
    replace h1 : ∀ k, k1 ≤ k → bk k vs st = some q := h1
    -- one round, and the rest with one step less
    have key : ∃ k2, ∀ k j, k2 ≤ k → k2 ≤ j → iter (bk k) (j + 1) vs st = some r := by
      obtain ⟨x, vs', st'⟩ := q
      cases x with
      | normal =>
        obtain ⟨k3, h3⟩ := iter_evt' hb n vs' st' r h
        exact ⟨max k1 k3, fun k j hk hj => by simp only [iter]; rw [h1 k (by omega)]; exact h3 k j (by omega) (by omega)⟩
      | exit i => exact ⟨k1, fun k j hk hj => by simp only [iter]; rw [h1 k (by omega)]; exact h⟩
      | ret => exact ⟨k1, fun k j hk hj => by simp only [iter]; rw [h1 k (by omega)]; exact h⟩
    obtain ⟨k2, h2⟩ := key
    refine ⟨k2 + 1, fun k hk => ?_⟩
    obtain ⟨j, rfl⟩ : ∃ j, k = j + 1 := ⟨k - 1, by omega⟩
    exact h2 (j + 1) j (by omega) (by omega)
where
  iter_evt' {b : List PV → St → Option (Ex × List PV × St)} {bk : Nat → List PV → St → Option (Ex × List PV × St)} (hb : ∀ vs st r, b vs st = some r → Evt (fun k => bk k vs st) r) :
    ∀ (n : Nat) (vs : List PV) (st : St) (r : Ex × List PV × St), iter b n vs st = some r → ∃ k0, ∀ k j, k0 ≤ k → k0 ≤ j → iter (bk k) j vs st = some r
  | 0, vs, st, r, h => by cases h
  | n + 1, vs, st, r, h => by
    simp only [iter] at h
    obtain ⟨q, hq, h⟩ := Option.bind_eq_some_iff.1 h
    obtain ⟨k1, h1⟩ := hb vs st q hq
    replace h1 : ∀ k, k1 ≤ k → bk k vs st = some q := h1
    obtain ⟨x, vs', st'⟩ := q
    cases x with
    | normal =>
      obtain ⟨k3, h3⟩ := iter_evt' hb n vs' st' r h
      refine ⟨max k1 k3 + 1, fun k j hk hj => ?_⟩
      obtain ⟨j, rfl⟩ : ∃ i, j = i + 1 := ⟨j - 1, by omega⟩
      simp only [iter]; rw [h1 k (by omega)]; exact h3 k j (by omega) (by omega)
    | exit i =>
      refine ⟨k1 + 1, fun k j hk hj => ?_⟩
      obtain ⟨j, rfl⟩ : ∃ i, j = i + 1 := ⟨j - 1, by omega⟩
      simp only [iter]; rw [h1 k (by omega)]; exact h
    | ret =>
      refine ⟨k1 + 1, fun k j hk hj => ?_⟩
      obtain ⟨j, rfl⟩ : ∃ i, j = i + 1 := ⟨j - 1, by omega⟩
      simp only [iter]; rw [h1 k (by omega)]; exact h

theorem itE_evt {b : List PV → St → Option (Ex × List PV × St)} {bk : Nat → List PV → St → Option (Ex × List PV × St)} (hb : ∀ vs st r, b vs st = some r → Evt (fun k => bk k vs st) r) {vs : List PV} {st : St} {r : Ex × List PV × St}
    (h : itE b vs st = some r) : Evt (fun k => itK k (bk k) vs st) r := by
  obtain ⟨k1, h1⟩ := limit_some h
  exact iter_evt hb k1 vs st r (h1 k1 (Nat.le_refl _))

/-- One round of a loop, and the rest. -/
theorem itE_eq (b : List PV → St → Option (Ex × List PV × St)) (vs : List PV) (st : St) : itE b vs st = (b vs st).bind fun r => seqK r.1 (itE b r.2.1 r.2.2) fun _ => some r := by
  cases hb : b vs st with
  | none =>
    cases hi : itE b vs st with
    | none => rfl
    | some r =>
      exfalso
      obtain ⟨k1, h1⟩ := limit_some hi
      have := h1 (k1 + 1) (by omega)
      simp only [iter, hb] at this
      cases this
  | some q =>
    rw [Option.bind_some]
    obtain ⟨x, vs', st'⟩ := q
    cases x with
    | normal =>
      show itE b vs st = itE b vs' st'
      have hstep : ∀ k, iter b (k + 1) vs st = iter b k vs' st' := fun k => by simp only [iter, hb]; rfl
      cases hi : itE b vs' st' with
      | some r =>
        obtain ⟨k1, h1⟩ := limit_some hi
        refine limit_eq ⟨k1 + 1, fun k hk => ?_⟩
        obtain ⟨j, rfl⟩ : ∃ i, k = i + 1 := ⟨k - 1, by omega⟩
        show iter b (j + 1) vs st = some r
        rw [hstep]; exact h1 j (by omega)
      | none =>
        cases hj : itE b vs st with
        | none => rfl
        | some r =>
          exfalso
          obtain ⟨k1, h1⟩ := limit_some hj
          have : itE b vs' st' = some r := limit_eq ⟨k1, fun k hk => by
            show iter b k vs' st' = some r
            rw [← hstep]; exact h1 (k + 1) (by omega)⟩
          rw [hi] at this; cases this
    | exit i => exact limit_eq ⟨1, fun k hk => by obtain ⟨j, rfl⟩ : ∃ i, k = i + 1 := ⟨k - 1, by omega⟩; simp only [iter, hb]; rfl⟩
    | ret => exact limit_eq ⟨1, fun k hk => by obtain ⟨j, rfl⟩ : ∃ i, k = i + 1 := ⟨k - 1, by omega⟩; simp only [iter, hb]; rfl⟩

theorem lim_of (L : Lib) (n base : Nat) (imp : List FuncId) (md : Md) (rd : Option Nat) (lb : Nat) : Lim (fun k => ⟨L.P, evF L k, n, base, itK k, imp, md, rd, lb⟩) ⟨L.P, E L, n, base, itE, imp, md, rd, lb⟩ :=
  ⟨fun _ => rfl, fun _ => rfl, fun _ => rfl, fun _ => rfl, fun _ => rfl, fun _ => rfl, fun _ => rfl, fun f args st r h => limit_some h, fun b bk hb vs st r h => itE_evt hb h⟩

end Go.AM
