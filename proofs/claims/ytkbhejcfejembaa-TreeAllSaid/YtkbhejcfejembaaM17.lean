/- The abstract machine: regions that draw their order, the proof. No condition. -/
import Derived.Test.YtkbhejcfejembaaM16
set_option linter.all false
set_option linter.unusedVariables false
namespace Go.AM
open Go

section
variable {Cf : Cfg}

def kd (Cf : Cfg) (ops : Array Oper) (i : Nat) : Kind := match ops[i]? with
  | some o => kindOf Cf.imp Cf.md o
  | none => .quiet
def bit (ops : Array Oper) (i j : Nat) : Bool := ((Region.before ops).getD i 0).testBit j

/-- What the listed order comes to: behind each operation an environment and a state; what each tells. -/
structure Trace (Cf : Cfg) (ops : Array Oper) (i0 n : Nat) (e0 : Env) (s0 : St) (seen : List Seen) (acts : List (Nat × St)) (E : Nat → Env) (S : Nat → St) (p : Nat → PV) : Prop where
  E0 : E i0 = e0
  S0 : S i0 = s0
  step : ∀ i o, i0 ≤ i → i < n → ops[i]? = some o → E (i + 1) = put Cf.n (E i) o.dst (p i)
  quiet : ∀ i o, i0 ≤ i → i < n → ops[i]? = some o → kindOf Cf.imp Cf.md o = .quiet → (∀ s, alone Cf ops o (E i) s = some (p i, s)) ∧ S (i + 1) = S i
  reads : ∀ i o, i0 ≤ i → i < n → ops[i]? = some o → kindOf Cf.imp Cf.md o = .reads → alone Cf ops o (E i) (S i) = some (p i, S i) ∧ S (i + 1) = S i ∧
    (∀ a ∈ acts, bit ops i a.1 = false → alone Cf ops o (E i) a.2 = some (p i, a.2)) ∧
    ∀ k, i0 ≤ k → k < i → kd Cf ops k = .acts → bit ops i k = false → alone Cf ops o (E i) (S k) = some (p i, S k)
  acts : ∀ i o, i0 ≤ i → i < n → ops[i]? = some o → kindOf Cf.imp Cf.md o = .acts → alone Cf ops o (E i) (S i) = some (p i, S (i + 1)) ∧
    (∀ a ∈ acts, bit ops i a.1 = true) ∧ (∀ k, i0 ≤ k → k < i → kd Cf ops k = .acts → bit ops i k = true) ∧
    (∀ x ∈ seen, bit ops i x.i = false → told Cf ops x (S (i + 1))) ∧
    ∀ k o', i0 ≤ k → k < i → ops[k]? = some o' → kindOf Cf.imp Cf.md o' = .reads → bit ops i k = false → alone Cf ops o' (E k) (S (i + 1)) = some (p k, S (i + 1))

theorem trace_of {ops : Array Oper} {R : Type} {K : Env → St → Option R} {r : R} : ∀ (os : List Oper) (i : Nat) (e : Env) (st : St) (seen : List Seen) (acts : List (Nat × St)), ops.toList.drop i = os →
    evDraw Cf ops (Region.before ops) os i e st seen acts K = some r →
    ∃ E S p, Trace Cf ops i (i + os.length) e st seen acts E S p ∧ K (E (i + os.length)) (S (i + os.length)) = some r
  | [], i, e, st, seen, acts, hd, h => by
    refine ⟨fun _ => e, fun _ => st, fun _ => .u, ⟨rfl, rfl, ?_, ?_, ?_, ?_⟩, h⟩ <;> (intro j o h1 h2; simp at h2; omega)
  | o :: os, i, e, st, seen, acts, hd, h => by
    have hoi : ops[i]? = some o := by
      have : (ops.toList.drop i)[0]? = some o := by rw [hd]; rfl
      rw [List.getElem?_drop] at this
      simpa using this
    have hdr : ops.toList.drop (i + 1) = os := by rw [← List.drop_drop, hd]; rfl
    have hlen : i + (o :: os).length = i + 1 + os.length := by simp; omega
    have hkd : kd Cf ops i = kindOf Cf.imp Cf.md o := by simp [kd, hoi]
    rw [hlen]
    simp only [evDraw] at h
    -- what the first one tells, and the rest
    have key : ∃ p0 s1 seen' acts', evDraw Cf ops (Region.before ops) os (i + 1) (put Cf.n e o.dst p0) s1 seen' acts' K = some r ∧
        (kindOf Cf.imp Cf.md o = .quiet → (∀ s, alone Cf ops o e s = some (p0, s)) ∧ s1 = st ∧ seen' = seen ∧ acts' = acts) ∧
        (kindOf Cf.imp Cf.md o = .reads → alone Cf ops o e st = some (p0, st) ∧ s1 = st ∧ seen' = ⟨i, o, e, p0⟩ :: seen ∧ acts' = acts ∧ ∀ a ∈ acts, bit ops i a.1 = false → alone Cf ops o e a.2 = some (p0, a.2)) ∧
        (kindOf Cf.imp Cf.md o = .acts → alone Cf ops o e st = some (p0, s1) ∧ seen' = seen ∧ acts' = (i, st) :: acts ∧ (∀ a ∈ acts, bit ops i a.1 = true) ∧ ∀ x ∈ seen, bit ops i x.i = false → told Cf ops x s1) := by
      cases hk : kindOf Cf.imp Cf.md o with
      | quiet =>
        rw [hk] at h
        simp only [] at h
        rw [guarded_alone] at h
        obtain ⟨q, hq, h⟩ := Option.bind_eq_some_iff.1 h
        refine ⟨q.1, st, seen, acts, h, fun _ => ⟨quiet_any hk hq, rfl, rfl, rfl⟩, fun z => (by cases z), fun z => (by cases z)⟩
      | reads =>
        rw [hk] at h
        simp only [] at h
        rw [guarded_alone] at h
        obtain ⟨q, hq, h⟩ := Option.bind_eq_some_iff.1 h
        obtain ⟨h1, h⟩ := need_some h
        obtain ⟨h2, h⟩ := needAll_some h
        refine ⟨q.1, st, ⟨i, o, e, q.1⟩ :: seen, acts, h, fun z => (by cases z), fun _ => ⟨hq.trans (by subst h1; rfl), rfl, rfl, rfl, fun a ha hb => ?_⟩, fun z => (by cases z)⟩
        exact h2 _ (List.mem_map.2 ⟨a, List.mem_filter.2 ⟨ha, by simp only [bit] at hb; show (!(((Region.before ops).getD i 0).testBit a.1)) = true; rw [hb]; rfl⟩, rfl⟩)
      | acts =>
        rw [hk] at h
        simp only [] at h
        cases ha : acts.all (fun a => ((Region.before ops).getD i 0).testBit a.1) with
        | false => rw [ha] at h; simp at h
        | true =>
          rw [ha] at h
          simp only [cond_true] at h
          rw [guarded_alone] at h
          obtain ⟨q, hq, h⟩ := Option.bind_eq_some_iff.1 h
          obtain ⟨h2, h⟩ := needAll_some h
          rw [List.all_eq_true] at ha
          refine ⟨q.1, q.2, seen, (i, st) :: acts, h, fun z => (by cases z), fun z => (by cases z), fun _ => ⟨hq, rfl, rfl, ha, fun x hx hb => ?_⟩⟩
          exact h2 _ (List.mem_map.2 ⟨x, List.mem_filter.2 ⟨hx, by simp only [bit] at hb; show (!(((Region.before ops).getD i 0).testBit x.i)) = true; rw [hb]; rfl⟩, rfl⟩)
    obtain ⟨p0, s1, seen', acts', h, kq, kr, ka⟩ := key
    obtain ⟨E, S, p, T, hr⟩ := trace_of os (i + 1) _ s1 seen' acts' hdr h
    have hne : ∀ {j : Nat}, i + 1 ≤ j → j ≠ i := fun h => by omega
    refine ⟨fun j => if j = i then e else E j, fun j => if j = i then st else S j, fun j => if j = i then p0 else p j, ⟨by simp, by simp, ?_, ?_, ?_, ?_⟩, ?_⟩
    · intro j o' h1 h2 h3
      by_cases q : j = i
      · subst q
        rw [hoi] at h3; cases h3
        simp only [if_true]
        rw [if_neg (by omega), T.E0]
      · simp only [if_neg q]
        rw [if_neg (by omega)]
        exact T.step j o' (by omega) h2 h3
    · intro j o' h1 h2 h3 h4
      by_cases q : j = i
      · subst q
        rw [hoi] at h3; cases h3
        obtain ⟨a1, a2, _, _⟩ := kq h4
        simp only [if_true]
        rw [if_neg (by omega), T.S0, a2]
        exact ⟨a1, rfl⟩
      · simp only [if_neg q]
        rw [if_neg (by omega)]
        exact T.quiet j o' (by omega) h2 h3 h4
    · intro j o' h1 h2 h3 h4
      by_cases q : j = i
      · subst q
        rw [hoi] at h3; cases h3
        obtain ⟨a1, a2, _, _, a5⟩ := kr h4
        simp only [if_true]
        rw [if_neg (by omega), T.S0, a2]
        exact ⟨a1, rfl, a5, fun k b1 b2 => by omega⟩
      · simp only [if_neg q]
        rw [if_neg (by omega)]
        obtain ⟨a1, a2, a3, a4⟩ := T.reads j o' (by omega) h2 h3 h4
        refine ⟨a1, a2, fun a ha hb => ?_, fun k b1 b2 b3 b4 => ?_⟩
        · refine a3 a ?_ hb
          cases hk : kindOf Cf.imp Cf.md o with
          | quiet => rw [(kq hk).2.2.2]; exact ha
          | reads => rw [(kr hk).2.2.2.1]; exact ha
          | acts => rw [(ka hk).2.2.1]; exact List.mem_cons_of_mem _ ha
        · by_cases z : k = i
          · subst z
            rw [if_pos rfl]
            rw [hkd] at b3
            refine a3 (k, st) ?_ b4
            rw [(ka b3).2.2.1]
            exact List.mem_cons_self ..
          · rw [if_neg z]
            exact a4 k (by omega) b2 b3 b4
    · intro j o' h1 h2 h3 h4
      by_cases q : j = i
      · subst q
        rw [hoi] at h3; cases h3
        obtain ⟨a1, _, _, a4, a5⟩ := ka h4
        simp only [if_true]
        rw [if_neg (by omega), T.S0]
        exact ⟨a1, a4, fun k b1 b2 => by omega, a5, fun k o' b1 b2 => by omega⟩
      · simp only [if_neg q]
        rw [if_neg (by omega)]
        obtain ⟨a1, a2, a3, a4, a5⟩ := T.acts j o' (by omega) h2 h3 h4
        refine ⟨a1, fun a ha => ?_, fun k b1 b2 b3 => ?_, fun x hx hb => ?_, fun k o2 b1 b2 b3 b4 b5 => ?_⟩
        · refine a2 a ?_
          cases hk : kindOf Cf.imp Cf.md o with
          | quiet => rw [(kq hk).2.2.2]; exact ha
          | reads => rw [(kr hk).2.2.2.1]; exact ha
          | acts => rw [(ka hk).2.2.1]; exact List.mem_cons_of_mem _ ha
        · by_cases z : k = i
          · subst z
            rw [hkd] at b3
            refine a2 (k, st) ?_
            rw [(ka b3).2.2.1]
            exact List.mem_cons_self ..
          · exact a3 k (by omega) b2 b3
        · refine a4 x ?_ hb
          cases hk : kindOf Cf.imp Cf.md o with
          | quiet => rw [(kq hk).2.2.1]; exact hx
          | reads => rw [(kr hk).2.2.1]; exact List.mem_cons_of_mem _ hx
          | acts => rw [(ka hk).2.1]; exact hx
        · by_cases z : k = i
          · subst z
            rw [hoi] at b3; cases b3
            rw [if_pos rfl, if_pos rfl]
            have := a4 ⟨k, o, e, p0⟩ (by rw [(kr b4).2.2.1]; exact List.mem_cons_self ..) b5
            exact this
          · rw [if_neg z, if_neg z]
            exact a5 k o2 (by omega) b2 b3 b4 b5
    · simp only []
      rw [if_neg (by omega), if_neg (by omega)]
      exact hr

/-! ### which operations are done -/
def envD (Cf : Cfg) (ops : Array Oper) (e0 : Env) (p : Nat → PV) (D : Nat → Bool) : Nat → Env
  | 0 => e0
  | i + 1 => match ops[i]? with
    | some o => bif D i then put Cf.n (envD Cf ops e0 p D i) o.dst (p i) else envD Cf ops e0 p D i
    | none => envD Cf ops e0 p D i
def stD (Cf : Cfg) (ops : Array Oper) (s0 : St) (S : Nat → St) (D : Nat → Bool) : Nat → St
  | 0 => s0
  | i + 1 => match kd Cf ops i with
    | .acts => bif D i then S (i + 1) else stD Cf ops s0 S D i
    | _ => stD Cf ops s0 S D i

theorem put_other {n : Nat} {e : Env} {d t : Nat} {p : PV} (h : d ≠ t) : put n e (some d) p t = e t := by
  simp only [put]
  cases Nat.blt d n with
  | false => rfl
  | true =>
    simp only [cond_true, upd]
    have : Nat.beq t d = false := by
      cases hq : Nat.beq t d with
      | false => rfl
      | true => exact absurd (Nat.eq_of_beq_eq_true hq).symm h
    rw [this]; rfl
theorem put_dst {n : Nat} {e e' : Env} {dst : Option Nat} {p : PV} {t : Nat} (h : dst ≠ some t → e t = e' t) (hn : dst = some t → e t = e' t ∨ Nat.blt t n = true) : put n e dst p t = put n e' dst p t := by
  cases dst with
  | none => exact h (by simp)
  | some d =>
    by_cases q : d = t
    · subst q
      simp only [put]
      cases hb : Nat.blt d n with
      | false =>
        simp only [cond_false]
        rcases hn rfl with z | z
        · exact z
        · rw [hb] at z; cases z
      | true => simp [upd, Nat.beq_refl]
    · rw [put_other q, put_other q]
      exact h (by simp [q])

/-- Slots hang on who wrote them. -/
theorem envD_congr {ops : Array Oper} {e0 : Env} {p : Nat → PV} {D D' : Nat → Bool} {t : Nat} : ∀ N, (∀ d o, d < N → ops[d]? = some o → o.dst = some t → D d = D' d) → envD Cf ops e0 p D N t = envD Cf ops e0 p D' N t
  | 0, _ => rfl
  | i + 1, h => by
    have ih := envD_congr (e0 := e0) (p := p) (D := D) (D' := D') i fun d o hd => h d o (by omega)
    simp only [envD]
    cases ho : ops[i]? with
    | none => exact ih
    | some o =>
      simp only []
      by_cases hq : o.dst = some t
      · rw [h i o (by omega) ho hq]
        cases D' i with
        | false => exact ih
        | true => exact put_dst (fun _ => ih) fun _ => Or.inl ih
      · have hz : ∀ (e : Env), put Cf.n e o.dst (p i) t = e t := by
          intro e
          cases hd : o.dst with
          | none => rfl
          | some d => exact put_other fun z => hq (by rw [hd, z])
        cases D i <;> cases D' i <;> simp only [cond_true, cond_false, hz] <;> exact ih

theorem envD_stop {ops : Array Oper} {e0 : Env} {p : Nat → PV} {D : Nat → Bool} {t i : Nat} : ∀ N, i ≤ N → (∀ d o, i ≤ d → d < N → ops[d]? = some o → o.dst = some t → D d = false) → envD Cf ops e0 p D N t = envD Cf ops e0 p D i t
  | 0, h, _ => by
    obtain rfl : i = 0 := by omega
    rfl
  | N + 1, h, hD => by
    by_cases q : i = N + 1
    · subst q; rfl
    · have ih := envD_stop (e0 := e0) (p := p) (D := D) N (by omega) fun d o h1 h2 => hD d o h1 (by omega)
      simp only [envD]
      cases ho : ops[N]? with
      | none => exact ih
      | some o =>
        simp only []
        cases hd : D N with
        | false => exact ih
        | true =>
          simp only [cond_true]
          have hne : o.dst ≠ some t := fun z => by have := hD N o (by omega) (by omega) ho z; rw [hd] at this; cases this
          have : put Cf.n (envD Cf ops e0 p D N) o.dst (p N) t = envD Cf ops e0 p D N t := by
            cases hz : o.dst with
            | none => rfl
            | some d => exact put_other fun z => hne (by rw [hz, z])
          rw [this]; exact ih

end
end Go.AM
