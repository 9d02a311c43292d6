/- The abstract machine: regions that draw their order: each order comes to what the listed one comes to. No condition. -/
import Derived.Test.YtkbhejcfejembaaM15
set_option linter.all false
set_option linter.unusedVariables false
namespace Go.AM
open Go

section
variable {Cf : Cfg}

/-! ### what an operation hangs on -/
theorem opnd_congr {e e' : Env} {x : Operand} (h : ∀ t, x = .tmp t → e t = e' t) : opnd e x = opnd e' x := by
  cases x with
  | tmp t => exact h t rfl
  | _ => rfl

theorem stepK_congr {R : Type} {o : Oper} {e e' : Env} {st : St} {K : PV → St → Option R} (h : ∀ t, .tmp t ∈ o.op.operands → e t = e' t) : stepK Cf o e st K = stepK Cf o e' st K := by
  have ho : ∀ x, x ∈ o.op.operands → opnd e x = opnd e' x := fun x hx => opnd_congr fun t ht => h t (ht ▸ hx)
  have hps : ∀ ps : Array (Nat × Operand), (∀ x ∈ ps.toList.map (·.2), x ∈ o.op.operands) → (ps.toList.map fun p => (p.1, opnd e p.2)) = (ps.toList.map fun p => (p.1, opnd e' p.2)) := by
    intro ps hx
    refine List.map_congr_left fun p hp => ?_
    rw [ho p.2 (hx _ (List.mem_map.2 ⟨p, hp, rfl⟩))]
  have hop : ∀ x : Option Operand, (∀ y, x = some y → y ∈ o.op.operands) → x.map (opnd e) = x.map (opnd e') := by
    intro x hx
    cases x with
    | none => rfl
    | some y => simp only [Option.map_some]; rw [ho y (hx y rfl)]
  unfold stepK
  cases hq : o.op <;> (try simp only []) <;> (rw [hq] at ho hps hop; simp only [Op.operands] at ho hps hop)
  case move x => rw [ho x (by simp)]
  case assign x => rw [ho x (by simp)]
  case pick c a b => rw [ho c (by simp), ho a (by simp), ho b (by simp)]
  case range t x => rw [ho x (by simp)]
  case next x b => cases b <;> first | rfl | (simp only []; rw [ho x (by simp)])
  case makeSlice t x y => rw [ho x (by simp), ho y (by simp)]
  case box t x => rw [ho x (by simp)]
  case build t ps => rw [hps ps (fun x hx => by simpa using hx)]
  case buildSlice t n ps => rw [hps ps (fun x hx => by simpa using hx)]
  case load t x => rw [ho x (by simp)]
  case store t x y => rw [ho x (by simp), ho y (by simp)]
  case nilCheck x => rw [ho x (by simp)]
  case binOp op t x y yt => rw [ho x (by simp), ho y (by simp)]
  case unOp op t x => rw [ho x (by simp)]
  case convert s d x => rw [ho x (by simp)]
  case makeFunc f fs cs =>
    have : cs.toList.map (fun x => opnd e x) = cs.toList.map (fun x => opnd e' x) := List.map_congr_left fun x hx => ho x (by simp; right; simpa using hx)
    rw [this]
  case slice t x lo hi mx =>
    rw [ho x (by simp), hop lo (fun y hy => by subst hy; simp), hop hi (fun y hy => by subst hy; simp), hop mx (fun y hy => by subst hy; simp)]
  case fieldAddr s x f => rw [ho x (by simp)]
  case field s x f => rw [ho x (by simp)]
  case indexAddr t x i => rw [ho x (by simp), ho i (by simp)]
  case index t x i => rw [ho x (by simp), ho i (by simp)]
  case extract x i => rw [ho x (by simp)]
  case call c =>
    have hargs : ∀ x ∈ c.args, opnd e x = opnd e' x := fun x hx => ho x (by simp [Call.operands, hx])
    have h1 : c.args.toList.map (fun x => opnd e x) = c.args.toList.map (fun x => opnd e' x) := List.map_congr_left fun x hx => hargs x (by simpa using hx)
    have h2 : argsOf (opnd e) c.args = argsOf (opnd e') c.args := List.map_congr_left fun x hx => by rw [hargs x (by simpa using hx)]
    cases hc : c.callee with
    | builtin b => simp only []; rw [h1]
    | value f => simp only []; rw [h2, ho f (by simp [Call.operands, hc])]
    | invoke r m => rfl

theorem guarded_congr {R : Type} {ops : Array Oper} {o : Oper} {e e' : Env} {st : St} {K : PV → St → Option R} (h : ∀ t ∈ tmpsOf ops o, e t = e' t) : guarded Cf ops o e st K = guarded Cf ops o e' st K := by
  have hs : ∀ {R : Type} (K : PV → St → Option R), stepK Cf o e st K = stepK Cf o e' st K := fun K => stepK_congr fun t ht => h t (by
    unfold tmpsOf
    refine List.mem_append_left _ (List.mem_append_right _ (List.mem_filterMap.2 ⟨.tmp t, by simpa using ht, rfl⟩)))
  unfold guarded
  cases hg : o.guard with
  | none => exact hs K
  | some q =>
    obtain ⟨j, want⟩ := q
    simp only []
    cases ht : (ops[j]?).bind (·.dst) with
    | none => rfl
    | some t =>
      simp only []
      rw [hs, h t (by
        unfold tmpsOf
        refine List.mem_append_right _ ?_
        simp only [hg, ht]
        simp)]

theorem guarded_alone {R : Type} {ops : Array Oper} {o : Oper} {e : Env} {st : St} {K : PV → St → Option R} : guarded Cf ops o e st K = (alone Cf ops o e st).bind fun q => K q.1 q.2 := by
  have hb : ∀ (m : Nat) (b : Builtin) (ats : Array TypeId) (xs : List PV) {R : Type} (K : PV → St → Option R), stepB Cf m b ats xs st K = (stepB Cf m b ats xs st (fun p s => some (p, s))).bind fun q => K q.1 q.2 := by
    intro m b ats xs R K
    unfold stepB
    split
    · simp [Option.bind_assoc]
    · simp [Option.bind_assoc]
    · simp [Option.bind_assoc]
    · simp [Option.bind_assoc]
    · split
      · rfl
      · simp [Option.bind_assoc]
      · rfl
    · split
      · simp [Option.bind_assoc]
      · rfl
    · simp [Option.bind_assoc]
    · rfl
  have hs : ∀ {R : Type} (K : PV → St → Option R), stepK Cf o e st K = (stepK Cf o e st (fun p s => some (p, s))).bind fun q => K q.1 q.2 := by
    intro R K
    unfold stepK
    cases hq : o.op <;> simp only [Option.bind_assoc, Option.bind_some, Option.bind_none]
    case load t x =>
      cases Cf.P.underlying t with
      | none => rfl
      | some d => simp [Option.bind_assoc]
    case call c =>
      cases hc : c.callee with
      | builtin b => simp only []; exact hb _ b _ _ K
      | value f =>
        simp only [onFn]
        split
        · simp [Option.bind_assoc]
        · simp [Option.bind_assoc]
        · rfl
      | invoke r m => rfl
    case next x b =>
      cases b
      · rfl
      · simp [Option.bind_assoc]
    case buildSlice t n ps =>
      cases Nat.beq (Cf.md.of o.dst) 0 <;> simp [Option.bind_assoc]
  unfold alone guarded
  cases hg : o.guard with
  | none => exact hs K
  | some q =>
    obtain ⟨j, want⟩ := q
    simp only []
    cases ht : (ops[j]?).bind (·.dst) with
    | none => rfl
    | some t => simp [Option.bind_assoc]

/-- A quiet operation tells the same at each state, and leaves it. -/
theorem quiet_any {ops : Array Oper} {o : Oper} {e : Env} {st : St} {p : PV} {st' : St} (hk : kindOf Cf.imp Cf.md o = .quiet) (h : alone Cf ops o e st = some (p, st')) : ∀ s, alone Cf ops o e s = some (p, s) := by
  have hs : ∀ {p : PV} {st' : St}, stepK Cf o e st (fun p s => some (p, s)) = some (p, st') → ∀ s, stepK Cf o e s (fun p s => some (p, s)) = some (p, s) := by
    intro p st' h s
    unfold stepK at h ⊢
    cases hq : o.op <;> rw [hq] at h <;> simp only [] at h ⊢ <;> first
      | (obtain ⟨y, hy, h⟩ := Option.bind_eq_some_iff.1 h; rw [hy]; cases h; rfl)
      | (cases h; rfl)
      | (simp [kindOf, hq] at hk; done)
      | (exact absurd h (by simp))
      | skip
    case buildSlice t n ps =>
      have hm : Nat.beq (Cf.md.of o.dst) 0 = true := by
        cases hb : Nat.beq (Cf.md.of o.dst) 0 with
        | true => rfl
        | false => simp only [kindOf, hq, hb, cond_false] at hk; cases hk
      rw [hm] at h ⊢
      simp only [cond_true] at h ⊢
      obtain ⟨y, hy, h⟩ := Option.bind_eq_some_iff.1 h; rw [hy]; cases h; rfl
    case call c =>
      cases hc : c.callee with
      | builtin b =>
        rw [hc] at h
        simp only [] at h ⊢
        unfold stepB at h ⊢
        cases b <;> simp only [] at h ⊢ <;> first
          | (exact absurd h (by simp))
          | (simp [kindOf, hq, hc, kindB] at hk; done)
          | skip
        all_goals
          split at h
          all_goals first
            | (obtain ⟨y, hy, h⟩ := Option.bind_eq_some_iff.1 h; rw [hy]; cases h; rfl)
            | (exact absurd h (by simp))
            | (simp_all; done)
      | value f =>
        exfalso
        simp only [kindOf, hq, hc] at hk
        cases f <;> simp at hk
        rename_i g
        cases hi : Cf.imp.any (Nat.beq g) <;> rw [hi] at hk <;> simp at hk
      | invoke r m => rw [hc] at h; exact absurd h (by simp)
  intro s
  unfold alone guarded at h ⊢
  cases hg : o.guard with
  | none => rw [hg] at h; exact hs h s
  | some q =>
    obtain ⟨j, want⟩ := q
    rw [hg] at h
    simp only [] at h ⊢
    cases ht : (ops[j]?).bind (·.dst) with
    | none => rw [ht] at h; exact absurd h (by simp)
    | some t =>
      rw [ht] at h
      simp only [] at h ⊢
      obtain ⟨y, hy, h⟩ := Option.bind_eq_some_iff.1 h
      unfold onG at hy ⊢
      split at hy
      · rename_i b hb
        cases hw : (b == want) with
        | true =>
          simp only [hw, cond_true] at hy ⊢
          obtain ⟨y1, y2⟩ := y
          rw [hs hy s]
          cases h; rfl
        | false =>
          simp only [hw, cond_false] at hy ⊢
          cases hy; cases h; rfl
      · rename_i hb
        cases hy; cases h; rfl
      · cases hy

end
end Go.AM
