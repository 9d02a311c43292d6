/- The abstract machine: regions that draw their order, joined. No condition. -/
import Derived.Test.YtkbhejcfejembaaM17
set_option linter.all false
set_option linter.unusedVariables false
namespace Go.AM
open Go

section
variable {Cf : Cfg}

/-! ### what lies ahead of what -/
def befS (acc : Array Nat) (o : Oper) : Nat := o.after.foldl (fun s e => if Region.binds .any e then s ||| 2 ^ e.on ||| acc.getD e.on 0 else s) 0

theorem before_fold : ∀ (l : List Oper) (acc : Array Nat), (l.foldl (fun acc o => acc.push (befS acc o)) acc).size = acc.size + l.length ∧
    (∀ k, k < acc.size → (l.foldl (fun acc o => acc.push (befS acc o)) acc).getD k 0 = acc.getD k 0) ∧
    ∀ m o, l[m]? = some o → ∃ acc' : Array Nat, acc'.size = acc.size + m ∧ (∀ k, k < acc.size + m → acc'.getD k 0 = (l.foldl (fun acc o => acc.push (befS acc o)) acc).getD k 0) ∧
      (l.foldl (fun acc o => acc.push (befS acc o)) acc).getD (acc.size + m) 0 = befS acc' o
  | [], acc => ⟨by simp, by simp, by simp⟩
  | x :: l, acc => by
    obtain ⟨h1, h2, h3⟩ := before_fold l (acc.push (befS acc x))
    simp only [List.foldl_cons]
    refine ⟨by rw [h1]; simp; omega, fun k hk => ?_, fun m o hm => ?_⟩
    · rw [h2 k (by simp; omega)]
      simp [Array.getD_eq_getD_getElem?, Array.getElem?_push, Nat.ne_of_lt hk]
    · cases m with
      | zero =>
        simp at hm
        subst hm
        refine ⟨acc, rfl, fun k hk => ?_, ?_⟩
        · rw [h2 k (by simp; omega)]
          simp at hk
          simp [Array.getD_eq_getD_getElem?, Array.getElem?_push, Nat.ne_of_lt hk]
        · rw [Nat.add_zero, h2 acc.size (by simp)]
          simp [Array.getD_eq_getD_getElem?]
      | succ m =>
        simp at hm
        obtain ⟨acc', a1, a2, a3⟩ := h3 m o hm
        simp only [Array.size_push] at a1 a2 a3
        refine ⟨acc', by omega, fun k hk => a2 k (by omega), ?_⟩
        rw [show acc.size + (m + 1) = acc.size + 1 + m by omega]
        exact a3

theorem before_eq (ops : Array Oper) : Region.before ops = ops.toList.foldl (fun acc o => acc.push (befS acc o)) #[] := by
  unfold Region.before
  rw [← Array.foldl_toList]
  rfl

theorem testBit_fold (b : Edge → Bool) (f : Nat → Nat) (j : Nat) : ∀ (l : List Edge) (s : Nat), (l.foldl (fun s e => if b e then s ||| 2 ^ e.on ||| f e.on else s) s).testBit j = true →
    s.testBit j = true ∨ ∃ e ∈ l, b e = true ∧ (e.on = j ∨ (f e.on).testBit j = true)
  | [], s, h => Or.inl h
  | e :: l, s, h => by
    simp only [List.foldl_cons] at h
    rcases testBit_fold b f j l _ h with h | ⟨e', h1, h2⟩
    · split at h
      · rename_i hb
        rw [Nat.testBit_or, Nat.testBit_or] at h
        simp only [Bool.or_eq_true] at h
        rcases h with (h | h) | h
        · exact Or.inl h
        · rw [Nat.testBit_two_pow] at h
          exact Or.inr ⟨e, List.mem_cons_self .., hb, Or.inl (by simpa using h)⟩
        · exact Or.inr ⟨e, List.mem_cons_self .., hb, Or.inr h⟩
      · exact Or.inl h
    · exact Or.inr ⟨e', List.mem_cons_of_mem _ h1, h2⟩

theorem bit_of {ops : Array Oper} {i j : Nat} {o : Oper} (ho : ops[i]? = some o) (h : bit ops i j = true) : ∃ e ∈ o.after.toList, Region.binds .any e = true ∧ (e.on = j ∨ bit ops e.on j = true) := by
  have hl : ops.toList[i]? = some o := by simpa using ho
  obtain ⟨acc', a1, a2, a3⟩ := (before_fold ops.toList #[]).2.2 i o hl
  simp only [List.size_toArray, List.length_nil, Nat.zero_add] at a1 a2 a3
  unfold bit at h
  rw [before_eq, a3] at h
  unfold befS at h
  rw [← Array.foldl_toList] at h
  rcases testBit_fold (Region.binds .any) (fun k => acc'.getD k 0) j _ _ h with h | ⟨e, h1, h2, h3⟩
  · simp at h
  · refine ⟨e, h1, h2, ?_⟩
    rcases h3 with h3 | h3
    · exact Or.inl h3
    · by_cases q : e.on < i
      · right
        unfold bit
        rw [before_eq, ← a2 e.on q]
        exact h3
      · simp [Array.getD_eq_getD_getElem?, Array.getElem?_eq_none (show acc'.size ≤ e.on by omega)] at h3

theorem apartOk_get {bs : Array Nat} {i : Nat} {ts : List Nat} : ∀ {os : List Oper} {j : Nat}, apartOk bs i ts os j = true → ∀ m o t, os[m]? = some o → o.dst = some t → t ∈ ts → i = j + m ∨ (if i < j + m then (bs.getD (j + m) 0).testBit i = true else (bs.getD i 0).testBit (j + m) = true)
  | [], j, h, m, o, t, hm, _, _ => by simp at hm
  | x :: os, j, h, m, o, t, hm, hd, ht => by
    simp only [apartOk, Bool.and_eq_true] at h
    cases m with
    | zero =>
      simp at hm
      subst hm
      have h1 := h.1
      rw [hd] at h1
      simp only [Bool.or_eq_true] at h1
      rcases h1 with (h1 | h1) | h1
      · have : ts.any (Nat.beq t) = true := List.any_eq_true.2 ⟨t, ht, Nat.beq_refl t⟩
        rw [this] at h1; cases h1
      · exact Or.inl (Nat.eq_of_beq_eq_true h1)
      · right
        rw [Nat.add_zero]
        cases hb : Nat.blt i j with
        | true => rw [hb] at h1; rw [Nat.blt_eq] at hb; rw [if_pos hb]; exact h1
        | false =>
          rw [hb] at h1
          have : ¬ i < j := fun z => by rw [← Nat.blt_eq] at z; rw [hb] at z; cases z
          rw [if_neg this]; exact h1
    | succ m =>
      simp at hm
      have := apartOk_get h.2 m o t hm hd ht
      rw [show j + 1 + m = j + (m + 1) by omega] at this
      exact this

theorem drawChk_get {ops : Array Oper} {bs : Array Nat} : ∀ {os : List Oper} {i : Nat}, drawChk ops bs os i = true → ∀ m o, os[m]? = some o →
    (∀ e ∈ o.after.toList, Region.binds .any e = true → e.on < i + m) ∧ apartOk bs (i + m) (tmpsOf ops o) ops.toList 0 = true
  | [], i, h, m, o, hm => by simp at hm
  | x :: os, i, h, m, o, hm => by
    simp only [drawChk, Bool.and_eq_true] at h
    cases m with
    | zero =>
      simp at hm
      subst hm
      refine ⟨fun e he hb => ?_, h.1.2⟩
      have := h.1.1
      rw [List.all_eq_true] at this
      have := this e he
      rw [hb] at this
      simp only [Bool.not_true, Bool.false_or, Nat.blt_eq] at this
      simpa using this
    | succ m =>
      simp at hm
      have := drawChk_get h.2 m o hm
      rw [show i + 1 + m = i + (m + 1) by omega] at this
      exact this

/-! ### states -/
theorem kd_of {ops : Array Oper} {i : Nat} {o : Oper} (h : ops[i]? = some o) : kd Cf ops i = kindOf Cf.imp Cf.md o := by simp [kd, h]

variable {ops : Array Oper} {e0 : Env} {s0 : St} {E : Nat → Env} {S : Nat → St} {p : Nat → PV}

theorem S_next (T : Trace Cf ops 0 ops.size e0 s0 [] [] E S p) {i : Nat} (hi : i < ops.size) (hk : kd Cf ops i ≠ .acts) : S (i + 1) = S i := by
  have ho : ops[i]? = some ops[i] := Array.getElem?_eq_getElem hi
  rw [kd_of ho] at hk
  cases h : kindOf Cf.imp Cf.md ops[i] with
  | quiet => exact (T.quiet i _ (Nat.zero_le _) hi ho h).2
  | reads => exact (T.reads i _ (Nat.zero_le _) hi ho h).2.1
  | acts => exact absurd h hk

theorem S_const (T : Trace Cf ops 0 ops.size e0 s0 [] [] E S p) : ∀ (n a : Nat), a + n ≤ ops.size → (∀ k, a ≤ k → k < a + n → kd Cf ops k ≠ .acts) → S (a + n) = S a
  | 0, a, _, _ => rfl
  | n + 1, a, h, hk => by
    rw [show a + (n + 1) = (a + n) + 1 by omega, S_next T (by omega) (hk _ (by omega) (by omega))]
    exact S_const T n a (by omega) fun k h1 h2 => hk k h1 (by omega)

theorem st_split (T : Trace Cf ops 0 ops.size e0 s0 [] [] E S p) {D : Nat → Bool} : ∀ N, N ≤ ops.size → (∀ k1 k2, k1 < k2 → k2 < N → kd Cf ops k1 = .acts → kd Cf ops k2 = .acts → D k2 = true → D k1 = true) →
    ∃ m, m ≤ N ∧ stD Cf ops s0 S D N = S m ∧ (∀ k, k < m → kd Cf ops k = .acts → D k = true) ∧ (∀ k, m ≤ k → k < N → kd Cf ops k = .acts → D k = false) ∧ (m = N ∨ kd Cf ops m = .acts)
  | 0, _, _ => ⟨0, Nat.le_refl _, T.S0.symm, fun k h => by omega, fun k _ h => by omega, Or.inl rfl⟩
  | N + 1, hN, hD => by
    obtain ⟨m, h1, h2, h3, h4, h5⟩ := st_split T N (by omega) fun k1 k2 a b => hD k1 k2 a (by omega)
    cases hk : kd Cf ops N with
    | acts =>
      simp only [stD, hk]
      cases hd : D N with
      | true =>
        have hm : m = N := by
          rcases h5 with h5 | h5
          · exact h5
          · by_cases q : m = N
            · exact q
            · have := hD m N (by omega) (by omega) h5 hk hd
              rw [h4 m (Nat.le_refl _) (by omega) h5] at this
              cases this
        subst hm
        refine ⟨m + 1, Nat.le_refl _, rfl, fun k a b => ?_, fun k a b => by omega, Or.inl rfl⟩
        by_cases q : k = m
        · subst q; exact hd
        · exact h3 k (by omega) b
      | false =>
        refine ⟨m, by omega, h2, h3, fun k a b c => ?_, ?_⟩
        · by_cases q : k = N
          · subst q; exact hd
          · exact h4 k a (by omega) c
        · rcases h5 with h5 | h5
          · exact Or.inr (h5 ▸ hk)
          · exact Or.inr h5
    | quiet =>
      simp only [stD, hk]
      rcases h5 with h5 | h5
      · subst h5
        refine ⟨m + 1, Nat.le_refl _, by rw [h2, S_next T (by omega) (by rw [hk]; simp)], fun k a b => ?_, fun k a b => by omega, Or.inl rfl⟩
        by_cases q : k = m
        · subst q; rw [hk] at b; cases b
        · exact h3 k (by omega) b
      · refine ⟨m, by omega, h2, h3, fun k a b c => ?_, Or.inr h5⟩
        by_cases q : k = N
        · subst q; rw [hk] at c; cases c
        · exact h4 k a (by omega) c
    | reads =>
      simp only [stD, hk]
      rcases h5 with h5 | h5
      · subst h5
        refine ⟨m + 1, Nat.le_refl _, by rw [h2, S_next T (by omega) (by rw [hk]; simp)], fun k a b => ?_, fun k a b => by omega, Or.inl rfl⟩
        by_cases q : k = m
        · subst q; rw [hk] at b; cases b
        · exact h3 k (by omega) b
      · refine ⟨m, by omega, h2, h3, fun k a b c => ?_, Or.inr h5⟩
        by_cases q : k = N
        · subst q; rw [hk] at c; cases c
        · exact h4 k a (by omega) c

theorem stD_congr {D D' : Nat → Bool} : ∀ N, (∀ k, k < N → kd Cf ops k = .acts → D k = D' k) → stD Cf ops s0 S D N = stD Cf ops s0 S D' N
  | 0, _ => rfl
  | N + 1, h => by
    have ih := stD_congr (D := D) (D' := D') N fun k a => h k (by omega)
    cases hk : kd Cf ops N with
    | acts =>
      simp only [stD, hk]
      rw [h N (by omega) hk, ih]
    | quiet => simp only [stD, hk]; exact ih
    | reads => simp only [stD, hk]; exact ih

theorem E_all (T : Trace Cf ops 0 ops.size e0 s0 [] [] E S p) : ∀ i, i ≤ ops.size → E i = envD Cf ops e0 p (fun _ => true) i
  | 0, _ => T.E0
  | i + 1, h => by
    have ho : ops[i]? = some ops[i] := Array.getElem?_eq_getElem (by omega)
    rw [T.step i _ (Nat.zero_le _) (by omega) ho, E_all T i (by omega)]
    simp only [envD, ho, cond_true]

theorem envD_far {D : Nat → Bool} {t : Nat} (ht : Nat.blt t Cf.n = false) : ∀ N, envD Cf ops e0 p D N t = e0 t
  | 0 => rfl
  | i + 1 => by
    have ih := envD_far (D := D) ht i
    simp only [envD]
    cases ho : ops[i]? with
    | none => exact ih
    | some o =>
      simp only []
      cases D i with
      | false => exact ih
      | true =>
        simp only [cond_true]
        cases hd : o.dst with
        | none => exact ih
        | some d =>
          by_cases q : d = t
          · subst q
            simp only [put, ht, cond_false]; exact ih
          · rw [put_other q]; exact ih

end
end Go.AM
