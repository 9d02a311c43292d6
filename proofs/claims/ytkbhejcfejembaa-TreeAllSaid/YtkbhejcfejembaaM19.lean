/- The abstract machine: regions that draw their order: the end. No condition. -/
import Derived.Test.YtkbhejcfejembaaM18
set_option linter.all false
set_option linter.unusedVariables false
namespace Go.AM
open Go Go.RowKit

section
variable {Cf : Cfg} {rd : Option Nat} {lo : Nat} {bs : List (Nat × Nat × Nat)} {Q : Exit → Act → World → Prop}

theorem countP_lt {α : Type} (f g : α → Bool) : ∀ (l : List α), (∀ x ∈ l, g x = true → f x = true) → (∃ x ∈ l, f x = true ∧ g x = false) → l.countP g < l.countP f
  | [], _, h => by obtain ⟨x, hx, _⟩ := h; cases hx
  | a :: l, h1, h2 => by
    have hle : l.countP g ≤ l.countP f := List.countP_mono_left fun x hx => h1 x (List.mem_cons_of_mem _ hx)
    simp only [List.countP_cons]
    by_cases q : f a = true ∧ g a = false
    · rw [q.1, q.2]; simp; omega
    · have hex : ∃ x ∈ l, f x = true ∧ g x = false := by
        obtain ⟨x, hx, hf⟩ := h2
        rcases List.mem_cons.1 hx with rfl | hx
        · exact absurd hf q
        · exact ⟨x, hx, hf⟩
      have := countP_lt f g l (fun x hx => h1 x (List.mem_cons_of_mem _ hx)) hex
      have ha := h1 a (List.mem_cons_self ..)
      cases hg : g a with
      | false => cases hf : f a <;> simp <;> omega
      | true => rw [ha hg]; simp; omega

def unl (n : Nat) (L : Array Bool) : Nat := (List.range n).countP fun i => !L.getD i true

theorem unl_set {n i : Nat} {L : Array Bool} (hi : i < n) (hL : L.getD i true = false) : unl n (L.setIfInBounds i true) < unl n L := by
  have hlt : i < L.size := by
    rcases Nat.lt_or_ge i L.size with h | h
    · exact h
    · rw [Array.getD_eq_getD_getElem?, Array.getElem?_eq_none h] at hL; cases hL
  refine countP_lt _ _ _ (fun x _ hx => ?_) ⟨i, List.mem_range.2 hi, by rw [hL]; rfl, ?_⟩
  · by_cases q : i = x
    · subst q; rw [hL]; rfl
    · rw [Array.getD_eq_getD_getElem?, Array.getElem?_setIfInBounds_ne q, ← Array.getD_eq_getD_getElem?] at hx; exact hx
  · rw [Array.getD_eq_getD_getElem?, Array.getElem?_setIfInBounds_self_of_lt hlt]; rfl

structure DrawInv (lo : Nat) (Cf : Cfg) (ops : Array Oper) (bs : List (Nat × Nat × Nat)) (e0 : Env) (s0 : St) (S : Nat → St) (p : Nat → PV) (w0 : World) (C0 : Ctx) (L : Array Bool) (a : Act) (w : World) : Prop where
  size : L.size = ops.size
  closed : ∀ i j, L.getD i false = true → bit ops i j = true → L.getD j false = true
  sim : ∃ C, Sim w C (stD Cf ops s0 S (fun i => L.getD i false) ops.size) bs ∧ Ext w0 C0 w C ∧ RelE lo w C (envD Cf ops e0 p (fun i => L.getD i false) ops.size) Cf.n a

theorem getD_tf {L : Array Bool} {i : Nat} (h : i < L.size) : L.getD i true = L.getD i false := by
  rw [Array.getD_eq_getD_getElem?, Array.getD_eq_getD_getElem?, Array.getElem?_eq_getElem h]; rfl

theorem draw_any (G : Good Cf.P Cf.call) (hbase : ∀ m t l, (m, t, l) ∈ bs → m ≤ Cf.base) {ops : Array Oper} (hc : drawChk ops (Region.before ops) ops.toList 0 = true) {e0 : Env} {s0 : St} {E : Nat → Env} {S : Nat → St} {p : Nat → PV} {w0 : World} {C0 : Ctx}
    (T : Trace Cf ops 0 ops.size e0 s0 [] [] E S p)
    (hQ : ∀ a w C, Sim w C (S ops.size) bs → Ext w0 C0 w C → RelE lo w C (E ops.size) Cf.n a → Q .normal a w) :
    ∀ (fuel : Nat) (L : Array Bool) (a : Act) (w : World), unl ops.size L ≤ fuel → DrawInv lo Cf ops bs e0 s0 S p w0 C0 L a w → wpAnyIn (fen rd) 0 Cf.P .any ops Q fuel L a w := by
  -- what the check says
  have chk : ∀ i o, ops[i]? = some o → (∀ e ∈ o.after.toList, Region.binds .any e = true → e.on < i) ∧
      ∀ d o' t, ops[d]? = some o' → o'.dst = some t → t ∈ tmpsOf ops o → i = d ∨ (if i < d then bit ops d i = true else bit ops i d = true) := by
    intro i o ho
    obtain ⟨h1, h2⟩ := drawChk_get hc i o (by simpa using ho)
    rw [Nat.zero_add] at h1 h2
    refine ⟨h1, fun d o' t hd hdst ht => ?_⟩
    have := apartOk_get h2 d o' t (by simpa using hd) hdst ht
    rw [Nat.zero_add] at this
    exact this
  -- acts stand in an order
  have acts : ∀ k1 k2, k1 < k2 → k2 < ops.size → kd Cf ops k1 = .acts → kd Cf ops k2 = .acts → bit ops k2 k1 = true := by
    intro k1 k2 h1 h2 h3 h4
    have ho : ops[k2]? = some ops[k2] := Array.getElem?_eq_getElem h2
    rw [kd_of ho] at h4
    exact (T.acts k2 _ (Nat.zero_le _) h2 ho h4).2.2.1 k1 (Nat.zero_le _) h1 h3
  -- when nothing is ready, all is done
  have done : ∀ (L : Array Bool), L.size = ops.size → Region.ready .any ops L = [] → ∀ i, i < ops.size → L.getD i false = true := by
    intro L hs hr i
    induction i using Nat.strongRecOn with
    | _ i ih =>
      intro hi
      cases hL : L.getD i false with
      | true => rfl
      | false =>
        exfalso
        have ho : ops[i]? = some ops[i] := Array.getElem?_eq_getElem hi
        have hmem : i ∈ Region.ready .any ops L := by
          unfold Region.ready
          refine List.mem_filter.2 ⟨List.mem_range.2 hi, ?_⟩
          rw [getD_tf (by omega), hL, ho]
          simp only [Bool.not_false, Bool.true_and, Option.map_some, Option.getD_some]
          rw [Array.all_eq_true']
          intro e he
          cases hb : Region.binds .any e with
          | false => rfl
          | true =>
            have := (chk i _ ho).1 e (by simpa using he) hb
            simp only [Bool.not_true, Bool.false_or]
            exact ih e.on this (by omega)
        rw [hr] at hmem
        cases hmem
  have fin : ∀ (L : Array Bool) (a : Act) (w : World), DrawInv lo Cf ops bs e0 s0 S p w0 C0 L a w → (∀ i, i < ops.size → L.getD i false = true) → Q .normal a w := by
    intro L a w I hall
    obtain ⟨C, k1, k2, k3⟩ := I.sim
    refine hQ a w C ?_ k2 ⟨k3.size, fun t => ?_, k3.defers⟩
    · obtain ⟨m, m1, m2, m3, m4, m5⟩ := st_split T (D := fun i => L.getD i false) ops.size (Nat.le_refl _) fun k1 k2 _ h _ _ _ => hall k1 (by omega)
      have hm : m = ops.size := by
        rcases m5 with m5 | m5
        · exact m5
        · by_cases q : m = ops.size
          · exact q
          · have h1 := m4 m (Nat.le_refl _) (by omega) m5
            have h2 := hall m (by omega)
            simp only [h2] at h1
            cases h1
      rw [m2, hm] at k1
      exact k1
    · have := k3.rep t
      rw [E_all T ops.size (Nat.le_refl _), ← envD_congr (D := fun i => L.getD i false) ops.size fun d o hd _ _ => hall d hd]
      exact this
  intro fuel
  induction fuel with
  | zero =>
    intro L a w hu I
    have hr : Region.ready .any ops L = [] := by
      cases hq : Region.ready .any ops L with
      | nil => rfl
      | cons x xs =>
        exfalso
        have hx : x ∈ Region.ready .any ops L := by rw [hq]; exact List.mem_cons_self ..
        unfold Region.ready at hx
        obtain ⟨h1, h2⟩ := List.mem_filter.1 hx
        rw [Bool.and_eq_true] at h2
        have : 0 < unl ops.size L := by
          unfold unl
          exact List.countP_pos_iff.2 ⟨x, h1, h2.1⟩
        omega
    exact ⟨hr, fin L a w I (done L I.size hr)⟩
  | succ fuel ih =>
    intro L a w hu I
    refine ⟨fun hr => fin L a w I (done L I.size hr), fun i hi => ?_⟩
    unfold Region.ready at hi
    obtain ⟨hi1, hi2⟩ := List.mem_filter.1 hi
    have hin := List.mem_range.1 hi1
    have ho : ops[i]? = some ops[i] := Array.getElem?_eq_getElem hin
    generalize ops[i] = o at ho
    rw [ho, Bool.and_eq_true] at hi2
    have hLi : L.getD i true = false := by simpa using hi2.1
    have hLf : L.getD i false = false := by rw [← getD_tf (by have := I.size; omega)]; exact hLi
    have hafter : ∀ e ∈ o.after.toList, Region.binds .any e = true → L.getD e.on false = true := by
      intro e he hb
      have := hi2.2
      simp only [Option.map_some, Option.getD_some] at this
      rw [Array.all_eq_true'] at this
      have := this e (by simpa using he)
      rw [hb] at this
      simpa using this
    have hdep : ∀ j, bit ops i j = true → L.getD j false = true := by
      intro j hj
      obtain ⟨e, h1, h2, h3⟩ := bit_of ho hj
      have := hafter e h1 h2
      rcases h3 with rfl | h3
      · exact this
      · exact I.closed _ _ this h3
    have hnot : ∀ d, bit ops d i = true → L.getD d false = false := by
      intro d hd
      cases q : L.getD d false with
      | false => rfl
      | true => have := I.closed d i q hd; rw [hLf] at this; cases this
    obtain ⟨hon, hap⟩ := chk i o ho
    -- the new set
    have hL' : ∀ d, (L.setIfInBounds i true).getD d false = if d = i then true else L.getD d false := by
      intro d
      by_cases q : d = i
      · subst q
        rw [if_pos rfl, Array.getD_eq_getD_getElem?, Array.getElem?_setIfInBounds_self_of_lt (by have := I.size; omega)]; rfl
      · rw [if_neg q, Array.getD_eq_getD_getElem?, Array.getElem?_setIfInBounds_ne (Ne.symm q), ← Array.getD_eq_getD_getElem?]
    have hclosed' : ∀ i' j, (L.setIfInBounds i true).getD i' false = true → bit ops i' j = true → (L.setIfInBounds i true).getD j false = true := by
      intro i' j h1 h2
      rw [hL'] at h1 ⊢
      by_cases q : j = i
      · rw [if_pos q]
      · rw [if_neg q]
        by_cases q' : i' = i
        · subst q'; exact hdep j h2
        · rw [if_neg q'] at h1; exact I.closed i' j h1 h2
    obtain ⟨C, k1, k2, k3⟩ := I.sim
    -- the operands
    have henv : ∀ t ∈ tmpsOf ops o, E i t = envD Cf ops e0 p (fun i => L.getD i false) ops.size t := by
      intro t ht
      rw [E_all T i (by omega)]
      rw [envD_stop (Cf := Cf) (i := i) (D := fun i => L.getD i false) ops.size (by omega) fun d o' h1 h2 h3 h4 => ?_]
      · refine (envD_congr i fun d o' h1 h2 h3 => ?_)
        rcases hap d o' t h2 h3 ht with z | z
        · omega
        · rw [if_neg (by omega)] at z
          exact (hdep d z).symm
      · rcases hap d o' t h3 h4 ht with z | z
        · subst z; exact hLf
        · by_cases q : i < d
          · rw [if_pos q] at z; exact hnot d z
          · obtain rfl : i = d := by omega
            exact hLf
    obtain ⟨m, m1, m2, m3, m4, m5⟩ := st_split T (D := fun i => L.getD i false) ops.size (Nat.le_refl _) fun k1 k2 h1 h2 h3 h4 h5 => I.closed k2 k1 h5 (acts k1 k2 h1 h2 h3 h4)
    obtain ⟨m', m1', m2', m3', m4', m5'⟩ := st_split T (D := fun d => (L.setIfInBounds i true).getD d false) ops.size (Nat.le_refl _) fun k1 k2 h1 h2 h3 h4 h5 => hclosed' k2 k1 h5 (acts k1 k2 h1 h2 h3 h4)
    have hkd := kd_of (Cf := Cf) ho
    -- what it tells, and the state behind it
    have htold : alone Cf ops o (E i) (stD Cf ops s0 S (fun i => L.getD i false) ops.size) = some (p i, stD Cf ops s0 S (fun d => (L.setIfInBounds i true).getD d false) ops.size) := by
      have same : kindOf Cf.imp Cf.md o ≠ .acts → stD Cf ops s0 S (fun d => (L.setIfInBounds i true).getD d false) ops.size = stD Cf ops s0 S (fun i => L.getD i false) ops.size := by
        intro hk
        refine stD_congr ops.size fun k h1 h2 => ?_
        simp only [hL']
        rw [if_neg]
        rintro rfl
        rw [hkd] at h2
        exact hk h2
      cases hk : kindOf Cf.imp Cf.md o with
      | quiet =>
        rw [same (by rw [hk]; simp)]
        exact (T.quiet i o (Nat.zero_le _) hin ho hk).1 _
      | reads =>
        rw [same (by rw [hk]; simp), m2]
        obtain ⟨t1, t2, _, t4⟩ := T.reads i o (Nat.zero_le _) hin ho hk
        by_cases q : m ≤ i
        · have hne : m ≠ i := by
            rintro rfl
            rcases m5 with m5 | m5
            · omega
            · rw [hkd, hk] at m5; cases m5
          have hma : kd Cf ops m = .acts := by
            rcases m5 with m5 | m5
            · omega
            · exact m5
          refine t4 m (Nat.zero_le _) (by omega) hma ?_
          cases hb : bit ops i m with
          | false => rfl
          | true =>
            have h1 := hdep m hb
            have h2 := m4 m (Nat.le_refl _) (by omega) hma
            simp only [h1] at h2
            cases h2
        · -- the acts from i up to m
          have key : ∀ n, i + 1 + n ≤ m → alone Cf ops o (E i) (S (i + 1 + n)) = some (p i, S (i + 1 + n)) := by
            intro n
            induction n with
            | zero => intro _; rw [Nat.add_zero, t2]; exact t1
            | succ n ihn =>
              intro hn
              have hlt : i + 1 + n < ops.size := by omega
              have ho' : ops[i + 1 + n]? = some ops[i + 1 + n] := Array.getElem?_eq_getElem hlt
              by_cases hka : kd Cf ops (i + 1 + n) = .acts
              · have hka' := hka
                rw [kd_of ho'] at hka'
                have hD := m3 (i + 1 + n) (by omega) hka
                refine (T.acts (i + 1 + n) _ (Nat.zero_le _) hlt ho' hka').2.2.2.2 i o (Nat.zero_le _) (by omega) ho hk ?_
                cases hb : bit ops (i + 1 + n) i with
                | false => rfl
                | true =>
                  have := hnot _ hb
                  simp only [this] at hD
                  cases hD
              · rw [show i + 1 + (n + 1) = i + 1 + n + 1 by omega, S_next T hlt hka]
                exact ihn (by omega)
          have := key (m - (i + 1)) (by omega)
          rw [show i + 1 + (m - (i + 1)) = m by omega] at this
          exact this
      | acts =>
        rw [hk] at hkd
        obtain ⟨t1, _, t3, _, _⟩ := T.acts i o (Nat.zero_le _) hin ho hk
        have hmi : m = i := by
          have h1 : ¬ m < i := by
            intro hlt
            have hma : kd Cf ops m = .acts := by
              rcases m5 with m5 | m5
              · omega
              · exact m5
            have h1 := hdep m (t3 m (Nat.zero_le _) hlt hma)
            have h2 := m4 m (Nat.le_refl _) (by omega) hma
            simp only [h1] at h2
            cases h2
          have h2 : ¬ i < m := by
            intro hlt
            have := m3 i hlt hkd
            simp only [hLf] at this
            cases this
          omega
        rw [m2, hmi, t1, m2']
        congr 2
        -- behind it nothing else acted
        have hm' : i + 1 ≤ m' := by
          rcases Nat.lt_or_ge i m' with h | h
          · exact h
          · exfalso
            rcases m5' with z | z
            · omega
            · by_cases q : m' = i
              · subst q
                have := m4' m' (Nat.le_refl _) (by omega) z
                simp only [hL', if_true] at this
                cases this
              · have h1 := hdep m' (t3 m' (Nat.zero_le _) (by omega) z)
                have h2 := m4' m' (Nat.le_refl _) (by omega) z
                simp only [hL', if_neg q, h1] at h2
                cases h2
        have hc := S_const T (m' - (i + 1)) (i + 1) (by omega) fun k h1 h2 h3 => by
          have h4 := m3' k (by omega) h3
          simp only [hL'] at h4
          rw [if_neg (by omega)] at h4
          have h5 := hnot k (acts i k (by omega) (by omega) hkd h3)
          rw [h5] at h4
          cases h4
        rw [show i + 1 + (m' - (i + 1)) = m' by omega] at hc
        exact hc.symm
    -- the environment behind it
    have henv' : ∀ t, envD Cf ops e0 p (fun d => (L.setIfInBounds i true).getD d false) ops.size t = put Cf.n (envD Cf ops e0 p (fun i => L.getD i false) ops.size) o.dst (p i) t := by
      intro t
      by_cases hd : o.dst = some t
      · have htm : t ∈ tmpsOf ops o := by
          unfold tmpsOf
          refine List.mem_append_left _ (List.mem_append_left _ ?_)
          rw [hd]; simp
        rw [envD_stop (Cf := Cf) (i := i + 1) (D := fun d => (L.setIfInBounds i true).getD d false) ops.size (by omega) fun d o' h1 h2 h3 h4 => ?_]
        · simp only [envD, ho, hL', if_true, cond_true]
          cases hb : Nat.blt t Cf.n with
          | true =>
            rw [hd]
            simp only [put, hb, cond_true, upd, Nat.beq_refl]
          | false =>
            rw [hd]
            simp only [put, hb, cond_false]
            rw [envD_far hb, envD_far hb]
        · simp only [hL']
          rw [if_neg (by omega)]
          rcases hap d o' t h3 h4 htm with z | z
          · omega
          · rw [if_pos (by omega)] at z; exact hnot d z
      · have hput : put Cf.n (envD Cf ops e0 p (fun i => L.getD i false) ops.size) o.dst (p i) t = envD Cf ops e0 p (fun i => L.getD i false) ops.size t := by
          cases hz : o.dst with
          | none => rfl
          | some d => exact put_other fun z => hd (by rw [hz, z])
        rw [hput]
        refine envD_congr ops.size fun d o' h1 h2 h3 => ?_
        simp only [hL']
        rw [if_neg]
        rintro rfl
        rw [ho] at h2
        cases h2
        exact hd h3
    -- the step
    have hg : guarded Cf ops o (envD Cf ops e0 p (fun i => L.getD i false) ops.size) (stD Cf ops s0 S (fun i => L.getD i false) ops.size) (fun q s => some (q, s)) = some (p i, stD Cf ops s0 S (fun d => (L.setIfInBounds i true).getD d false) ops.size) := by
      rw [← htold]
      exact (guarded_congr henv).symm
    have hw := guarded_sound (rd := rd) (Q := Q) (next := wpAnyIn (fen rd) 0 Cf.P .any ops Q fuel (L.setIfInBounds i true)) G hbase k1 k3 hg fun q st' v w' C' hq q1 q2 q3 => by
      obtain ⟨rfl, rfl⟩ := Prod.mk.inj (Option.some.inj hq)
      refine ih _ _ _ (by have := unl_set hin hLi; omega) ⟨by simp [I.size], hclosed', C', q1, k2.trans q2, ?_⟩
      have hr := (k3.mono q2).put o.dst q3
      exact ⟨hr.size, fun t => by rw [henv' t]; exact hr.rep t, hr.defers⟩
    unfold wpOpIn
    rw [ho]
    simp only []
    split at hw
    · rename_i hh; rw [if_pos hh]; exact hw
    · rename_i hh; rw [if_neg hh]; exact ⟨fun _ _ => trivial, hw⟩

theorem draw_ok (G : Good Cf.P Cf.call) (hbase : ∀ m t l, (m, t, l) ∈ bs → m ≤ Cf.base) (hm : Cf.P.follows .mixedOrders = true) : DrawOk Cf rd lo bs := by
  intro id ops R K r e a w C st Q hc H hE h hK
  obtain ⟨E, S, p, T, hr⟩ := trace_of ops.toList 0 e st [] [] rfl h
  have hl : 0 + ops.toList.length = ops.size := by simp
  rw [hl] at T hr
  obtain ⟨H', hx⟩ := H.heap (w' := { w with drawn := w.drawn + 1 }) rfl rfl rfl rfl
  refine wpIn_region_any hm (draw_any (w0 := w) (C0 := C) G hbase hc T (fun a' w' C' q1 q2 q3 => hK _ _ a' w' C' hr q1 q2 q3) ops.size _ a _ ?_ ⟨by simp, fun i j h => ?_, C, ?_, hx, ?_⟩)
  · unfold unl
    refine Nat.le_trans (List.countP_le_length ..) ?_
    simp
  · exfalso
    rw [Array.getD_eq_getD_getElem?, Array.getElem?_replicate] at h
    split at h <;> simp at h
  · have : ∀ N, stD Cf ops st S (fun i => (Array.replicate ops.size false).getD i false) N = st := by
      intro N
      induction N with
      | zero => rfl
      | succ N ih =>
        have hf : (Array.replicate ops.size false).getD N false = false := by
          rw [Array.getD_eq_getD_getElem?, Array.getElem?_replicate]; split <;> rfl
        cases hk : kd Cf ops N <;> simp only [stD, hk, hf, cond_false, ih]
    rw [this]; exact H'
  · have : ∀ N, envD Cf ops e p (fun i => (Array.replicate ops.size false).getD i false) N = e := by
      intro N
      induction N with
      | zero => rfl
      | succ N ih =>
        have hf : (Array.replicate ops.size false).getD N false = false := by
          rw [Array.getD_eq_getD_getElem?, Array.getElem?_replicate]; split <;> rfl
        cases ho : ops[N]? <;> simp only [envD, ho, hf, cond_false, ih]
    rw [this]; exact hE.mono hx

end
end Go.AM
