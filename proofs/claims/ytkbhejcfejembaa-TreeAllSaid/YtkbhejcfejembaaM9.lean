/- The abstract machine: slices of slices, rows made of parts, rows that grow. No condition. -/
import Derived.Test.YtkbhejcfejembaaM8
set_option linter.all false
set_option linter.unusedVariables false
namespace Go.AM
open Go

section
variable {P : Program} {w : World} {C : Ctx} {st : St} {bs : List (Nat × Nat × Nat)}

/-- An option of a value against one of a plain value. -/
def RepO (w : World) (C : Ctx) : Option Value → Option PV → Prop
  | none, none => True
  | some x, some p => Rep w C x p
  | _, _ => False

theorem okSz_get {sz : Nat} {es : List (List PV)} (h : okSz sz es = true) {i : Nat} {e : List PV} (he : es[i]? = some e) : e.length = sz := by
  unfold okSz at h
  rw [List.all_eq_true] at h
  exact Nat.eq_of_beq_eq_true (h e (List.mem_of_getElem? he))

theorem rep_sub {B o len cap l h : Nat} {es : List (List PV)} {c : Cap} {sz : Nat} (hne : sz ≠ 0) (hsz : okSz sz es = true) (hx : Rep w C (.slice (some ⟨B, o, none⟩) len cap) (.sl es c)) (hh : h ≤ es.length) (hl : l ≤ h) (full : Bool) (m : Nat)
    (hm : if full then m = h else m = cap) (base' : Option Addr) (hb : base' = if m = l then some ⟨B, o, none⟩ else some ⟨B, o + l * sz, none⟩) :
    Rep w C (.slice base' (h - l) (m - l)) (.sl ((es.take h).drop l) (sliceCap c h es.length full)) := by
  cases hx with
  | @sl _ _ _ _ _ _ _ sz' val h1 h2 h3 h4 h5 h6 h7 h8 =>
    have hget : ∀ (i : Nat) (e : List PV), ((es.take h).drop l)[i]? = some e → es[l + i]? = some e := by
      intro i e he
      rw [List.getElem?_drop, List.getElem?_take] at he
      split at he
      · exact he
      · cases he
    have hlen : ((es.take h).drop l).length = h - l := by simp; omega
    have hszz : ∀ (i : Nat) (e : List PV), es[i]? = some e → sz' = sz := fun i e he => by rw [← h3 i e he]; exact okSz_get hsz he
    have hhm : h ≤ m := by
      cases full with
      | true => simp at hm; omega
      | false => simp at hm; omega
    by_cases hlm : m = l
    · -- nothing is left
      have hhl : h = l := by omega
      subst hhl
      subst hlm
      rw [if_pos rfl] at hb
      subst hb
      have hnil : (es.take m).drop m = [] := List.length_eq_zero_iff.1 (by omega)
      rw [hnil, Nat.sub_self]
      refine .sl (match c with | .own a t e => (match C.tl a t with | some (_, _, _, _, s) => s | none => 0) | _ => 0) (fun _ _ => .nilFunc) rfl (Nat.le_refl _) (by simp) (by simp) (by simp) (by simp) (by simp) ?_
      cases full with
      | true => exact rfl
      | false =>
        simp only [sliceCap, cond_false]
        cases hq : Nat.beq m es.length with
        | false => exact trivial
        | true =>
          cases c with
          | nil => simp [CapRep] at h8
          | full => exact rfl
          | dead => exact trivial
          | own a t e =>
            obtain ⟨B', f, to, e', s, g1, g2, g3⟩ := h8
            exact ⟨B', f, to, e', s, g1, g2, fun _ => ⟨by simp only [g1], Or.inl rfl⟩⟩
    · rw [if_neg hlm] at hb
      have hls : l * sz = l * sz' := by
        by_cases hes : es = []
        · subst hes
          simp at hh
          obtain rfl : l = 0 := by omega
          simp
        · obtain ⟨e0, he0⟩ : ∃ e0, es[0]? = some e0 := by
            cases es with
            | nil => exact absurd rfl hes
            | cons a b => exact ⟨a, rfl⟩
          rw [hszz _ _ he0]
      rw [hls] at hb
      subst hb
      have hpos : ∀ i j, o + l * sz' + i * sz' + j = o + (l + i) * sz' + j := fun i j => by rw [Nat.add_mul]; omega
      refine .sl sz' (fun i j => val (l + i) j) hlen.symm (by omega) (fun i e he => h3 _ e (hget i e he)) (fun i e j p he hp => ?_) (fun i e j p he hp => ?_) (fun i e j p he hp => h6 _ e j p (hget i e he) hp) (fun i e j p he hp => h7 _ e j p (hget i e he) hp) ?_
      · rw [hpos]; exact h4 _ e j p (hget i e he) hp
      · rw [hpos]; exact h5 _ e j p (hget i e he) hp
      · cases full with
        | true =>
          simp only [sliceCap, cond_true]
          simp only [if_true] at hm
          subst hm
          exact rfl
        | false =>
          simp only [sliceCap, cond_false]
          simp only [Bool.false_eq_true, if_false] at hm
          subst hm
          cases hq : Nat.beq h es.length with
          | false => exact trivial
          | true =>
            have hq := Nat.eq_of_beq_eq_true hq
            simp only [cond_true]
            cases c with
            | nil => simp [CapRep] at h8
            | full => simp only [CapRep] at h8 ⊢; omega
            | dead => exact trivial
            | own a t e =>
              obtain ⟨B', f, to, e', s, g1, g2, g3⟩ := h8
              refine ⟨B', f, to, e', s, g1, g2, fun q => ?_⟩
              obtain ⟨hs, g4⟩ := g3 q
              refine ⟨hs, ?_⟩
              rcases g4 with g4 | ⟨o', g5, g6, g7⟩
              · exact Or.inl (by clear g3 q hs; omega)
              · clear g3 q
                refine Or.inr ⟨o + l * sz', ?_, ?_, ?_⟩
                · injection g5 with g5; injection g5 with g8 g9; subst g8; rfl
                · injection g5 with g5; injection g5 with g8 g9
                  have k1 : l * sz' ≤ h * sz' := Nat.mul_le_mul_right _ hl
                  rw [g6, ← g9, h1, ← hq, Nat.sub_mul]
                  clear g6 g7
                  omega
                · injection g5 with g5; injection g5 with g8 g9
                  have k1 : l * sz' ≤ m * sz' := Nat.mul_le_mul_right _ (Nat.le_trans hl hhm)
                  rw [g7, ← g9, Nat.sub_mul]
                  clear g6 g7
                  omega

/-- The bounds of a slicing. -/
theorem run_bounds {n len cap : Nat} {lo hi mx : Option Value} {l h m : Option PV} {lv hv mv : Nat} (hlen : len = n) (hcap : len ≤ cap) (hl : RepO w C lo l) (hh : RepO w C hi h) (hm : RepO w C mx m)
    (em : bnd m n n = some mv) (eh : bnd h n mv = some hv) (el : bnd l 0 hv = some lv) (hc : (m.isSome && (h.isNone || !Nat.beq mv hv)) = false) :
    ∃ m', (Instr.sliceBounds true len cap lo hi mx).run P w = .ok (lv, hv, m') w ∧ hv ≤ n ∧ lv ≤ hv ∧ (if m.isSome then m' = hv else m' = cap) := by
  have klow : lv ≤ hv ∧ ((lo = none ∧ lv = 0) ∨ ∃ y, lo = some y ∧ ∀ code, (Instr.sliceBound y hv code).run P w = .ok lv w) := by
    cases l with
    | none =>
      cases lo with
      | some _ => exact hl.elim
      | none => obtain rfl : 0 = lv := Option.some.inj el; exact ⟨Nat.zero_le _, Or.inl ⟨rfl, rfl⟩⟩
    | some q =>
      cases lo with
      | none => exact hl.elim
      | some y => exact ⟨(run_bound (P := P) (y := hv) (code := .index) el hl (Nat.le_refl _)).2, Or.inr ⟨y, rfl, fun code => (run_bound el hl (Nat.le_refl _)).1⟩⟩
  cases m with
  | none =>
    cases mx with
    | some _ => exact hm.elim
    | none =>
      obtain rfl : n = mv := Option.some.inj em
      cases h with
      | none =>
        cases hi with
        | some _ => exact hh.elim
        | none =>
          obtain rfl : n = hv := Option.some.inj eh
          refine ⟨cap, ?_, Nat.le_refl _, klow.1, by simp⟩
          rcases klow.2 with ⟨rfl, rfl⟩ | ⟨y, rfl, hy⟩
          · simp [Instr.sliceBounds, hlen]
          · simp [Instr.sliceBounds, hlen, hy]
      | some q =>
        cases hi with
        | none => exact hh.elim
        | some y =>
          have k1 : ∀ code, (Instr.sliceBound y cap code).run P w = .ok hv w ∧ hv ≤ n := fun code => run_bound eh hh (by omega)
          refine ⟨cap, ?_, (k1 .index).2, klow.1, by simp⟩
          have k2 := fun code => (k1 code).1
          rcases klow.2 with ⟨rfl, rfl⟩ | ⟨y, rfl, hy⟩
          · simp [Instr.sliceBounds, k2]
          · simp [Instr.sliceBounds, k2, hy]
  | some qm =>
    cases mx with
    | none => exact hm.elim
    | some ym =>
      have k0 : ∀ code, (Instr.sliceBound ym cap code).run P w = .ok mv w ∧ mv ≤ n := fun code => run_bound em hm (by omega)
      cases h with
      | none => simp at hc
      | some qh =>
        cases hi with
        | none => exact hh.elim
        | some yh =>
          have k1 : ∀ code, (Instr.sliceBound yh mv code).run P w = .ok hv w ∧ hv ≤ mv := fun code => run_bound eh hh (Nat.le_refl _)
          have kmh : mv = hv := by
            have := hc
            simp at this
            exact this
          have k2 := fun code => (k1 code).1
          have k3 := fun code => (k0 code).1
          refine ⟨mv, ?_, ?_, klow.1, by simp [kmh]⟩
          · rcases klow.2 with ⟨rfl, rfl⟩ | ⟨y, rfl, hy⟩
            · simp [Instr.sliceBounds, k2, k3]
            · simp [Instr.sliceBounds, k2, k3, hy]
          · have := (k0 .index).2; have := (k1 .index).2; omega

theorem tells_slice {t : TypeId} {x : Value} {lo hi mx : Option Value} {p r : PV} {l h m : Option PV} (H : aSlice P t p l h m = some r) (hx : Rep w C x p) (hl : RepO w C lo l) (hh : RepO w C hi h) (hm : RepO w C mx m) :
    Tells P w C (Instr.sliceAt t x lo hi mx) r := by
  unfold aSlice at H
  split at H
  · rename_i s
    obtain ⟨rfl, _⟩ := rep_v hx
    split at H
    · rename_i l' h' e1 e2
      split at H
      · rename_i hu
        have ho : ∀ {y : Option Value} {q : Option PV} {v : Option Value}, RepO w C y q → optV q = some v → y = v := by
          intro y q v h1 h2
          cases q with
          | none =>
            cases y with
            | none => exact Option.some.inj h2
            | some _ => exact h1.elim
          | some q =>
            cases y with
            | none => exact h1.elim
            | some y =>
              unfold optV at h2
              split at h2
              · rename_i e; cases e
              · rename_i a e
                obtain rfl := Option.some.inj e
                obtain rfl := Option.some.inj h2
                rw [(rep_v h1).1]
              · cases h2
        have k1 := ho hl e1
        have k2 := ho hh e2
        subst k1
        subst k2
        have k3 : mx = none := by cases mx with | none => rfl | some _ => exact hm.elim
        subst k3
        obtain ⟨v, hv, hr⟩ := tells_flat (w := w) (C := C) H
        refine ⟨v, ?_, hr⟩
        simp only [Instr.sliceAt, Sem.run_bind, run_underlying hu, Result.andThen_ok]
        exact hv
      · cases H
    · cases H
  · rename_i es c
    split at H
    · rename_i elem hu
      cases hz : Nat.beq (szT P elem) 0 with
      | true => rw [hz] at H; simp at H
      | false =>
        rw [hz] at H
        simp only [cond_false] at H
        have hne : szT P elem ≠ 0 := Nat.ne_of_beq_eq_false hz
        obtain ⟨ie, hie⟩ := info_of_sz hne
        obtain ⟨mv, em, H⟩ := Option.bind_eq_some_iff.1 H
        obtain ⟨hv, eh, H⟩ := Option.bind_eq_some_iff.1 H
        obtain ⟨lv, el, H⟩ := Option.bind_eq_some_iff.1 H
        cases hc : (m.isSome && (h.isNone || !Nat.beq mv hv)) || !okSz (szT P elem) es with
        | true => rw [hc] at H; simp at H
        | false =>
          rw [hc] at H
          simp only [cond_false] at H
          obtain rfl := Option.some.inj H
          rw [Bool.or_eq_false_iff] at hc
          have hok : okSz (szT P elem) es = true := by simpa using hc.2
          obtain ⟨base, len, cap, rfl, hlen, hcap⟩ : ∃ base len cap, x = .slice base len cap ∧ len = es.length ∧ len ≤ cap := by
            cases hx with
            | slnil _ => exact ⟨none, 0, 0, rfl, rfl, Nat.le_refl _⟩
            | sl sz val h1 h2 h3 h4 h5 h6 h7 h8 => exact ⟨_, _, _, rfl, h1, h2⟩
          obtain ⟨m', kb, kh, kl, km⟩ := run_bounds (P := P) hlen hcap hl hh hm em eh el hc.1
          refine ⟨.slice (if m' = lv then base else base.map (·.add (lv * szT P elem))) (hv - lv) (m' - lv), ?_, ?_⟩
          · simp only [Instr.sliceAt, Sem.run_bind, run_underlying hu, Result.andThen_ok, Instr.slice]
            rw [kb]
            simp only [Result.andThen_ok, run_sizeOf' hie]
            rfl
          · cases base with
            | none =>
              have hnil : es = [] ∧ len = 0 ∧ cap = 0 := by
                cases hx with
                | slnil _ => exact ⟨rfl, rfl, rfl⟩
              obtain ⟨rfl, rfl, rfl⟩ := hnil
              simp at kh
              subst kh
              obtain rfl : lv = 0 := by omega
              have hm0 : m' = 0 := by
                cases m with
                | none => simpa using km
                | some _ => simpa using km
              subst hm0
              cases hx with
              | slnil hn =>
                refine .slnil ?_
                unfold sliceCap
                cases m.isSome with
                | true => exact trivial
                | false => exact hn
            | some a =>
              have ha : ∃ B o, a = ⟨B, o, none⟩ := by
                cases hx with
                | sl sz val h1 h2 h3 h4 h5 h6 h7 h8 => exact ⟨_, _, rfl⟩
              obtain ⟨B, o, rfl⟩ := ha
              refine rep_sub hne hok hx kh kl m.isSome m' km _ ?_
              rw [Option.map_some, add_mk]
    · cases H
  · rename_i rh rb off len sz
    split at H
    · rename_i elem hu
      cases hz : Nat.beq sz 0 || !Nat.beq (szT P elem) sz with
      | true => rw [hz] at H; simp at H
      | false =>
        rw [hz] at H
        simp only [cond_false] at H
        rw [Bool.or_eq_false_iff] at hz
        have hne : sz ≠ 0 := Nat.ne_of_beq_eq_false hz.1
        have hsz : szT P elem = sz := Nat.eq_of_beq_eq_true (by simpa using hz.2)
        obtain ⟨ie, hie⟩ := info_of_sz (P := P) (t := elem) (by rw [hsz]; exact hne)
        obtain ⟨mv, em, H⟩ := Option.bind_eq_some_iff.1 H
        obtain ⟨hv, eh, H⟩ := Option.bind_eq_some_iff.1 H
        obtain ⟨lv, el, H⟩ := Option.bind_eq_some_iff.1 H
        cases hx with
        | @rs _ _ _ _ _ cap _ B arr elem' fr h1 h2 h3 h4 =>
          have fin : ∀ m', (Instr.sliceBounds true len cap lo hi mx).run P w = .ok (lv, hv, m') w → Rep w C (.slice (if m' = lv then some ⟨B, off, none⟩ else some ⟨B, off + lv * sz, none⟩) (hv - lv) (m' - lv)) r →
              Tells P w C (Instr.sliceAt t (.slice (some ⟨B, off, none⟩) len cap) lo hi mx) r := by
            intro m' kb kr
            refine ⟨_, ?_, kr⟩
            simp only [Instr.sliceAt, Sem.run_bind, run_underlying hu, Result.andThen_ok, Instr.slice]
            rw [kb]
            simp only [Result.andThen_ok, run_sizeOf' hie, hsz]
            by_cases q : m' = lv <;> simp [q, add_mk]
          split at H
          · obtain ⟨m', kb, kh, kl, km⟩ := run_bounds (P := P) (n := len) (m := none) rfl h2 hl hh hm em eh el rfl
            simp only [Option.isSome_none, Bool.false_eq_true, if_false] at km
            subst km
            refine fin m' kb ?_
            cases hq : Nat.beq lv 0 || Nat.blt lv len with
            | true =>
              rw [hq] at H
              obtain rfl := Option.some.inj H
              rw [Bool.or_eq_true] at hq
              have hcase : (m' = lv ∧ lv = 0) ∨ m' ≠ lv := by
                rcases hq with q | q
                · have := Nat.eq_of_beq_eq_true q
                  by_cases z : m' = lv
                  · exact Or.inl ⟨z, this⟩
                  · exact Or.inr z
                · rw [Nat.blt_eq] at q
                  exact Or.inr (by omega)
              have hbase : (if m' = lv then some (⟨B, off, none⟩ : Addr) else some ⟨B, off + lv * sz, none⟩) = some ⟨B, off + lv * sz, none⟩ := by
                rcases hcase with ⟨z, z0⟩ | z
                · rw [if_pos z, z0]; simp
                · rw [if_neg z]
              rw [hbase]
              refine .rs h1 (by omega) h3 ?_
              have hle : lv ≤ m' := by omega
              have : lv * sz + (m' - lv) * sz = m' * sz := by rw [← Nat.add_mul]; congr 1; omega
              omega
            | false =>
              rw [hq] at H
              obtain rfl := Option.some.inj H
              rw [Bool.or_eq_false_iff] at hq
              have hlt : ¬ lv < len := fun z => by rw [← Nat.blt_eq] at z; rw [z] at hq; cases hq.2
              obtain rfl : hv = lv := by omega
              rw [Nat.sub_self]
              split
              · exact .sl 0 (fun _ _ => .nilFunc) rfl (Nat.zero_le _) (by simp) (by simp) (by simp) (by simp) (by simp) trivial
              · exact .sl 0 (fun _ _ => .nilFunc) rfl (Nat.zero_le _) (by simp) (by simp) (by simp) (by simp) (by simp) trivial
          · cases hq : h.isSome && Nat.beq mv hv && Nat.beq hv lv with
            | false => rw [hq] at H; simp at H
            | true =>
              rw [hq] at H
              obtain rfl := Option.some.inj H
              rw [Bool.and_eq_true, Bool.and_eq_true] at hq
              have hnone : h.isNone = false := by
                have := hq.1.1
                cases h with
                | none => cases this
                | some _ => rfl
              obtain ⟨m', kb, kh, kl, km⟩ := run_bounds (P := P) (n := len) (m := some _) rfl h2 hl hh hm em eh el (by rw [hnone, hq.1.2]; rfl)
              simp only [Option.isSome_some, if_true] at km
              have hlh := Nat.eq_of_beq_eq_true hq.2
              subst km
              refine fin m' kb ?_
              rw [← hlh, Nat.sub_self, if_pos rfl]
              exact .sl 0 (fun _ _ => .nilFunc) rfl (Nat.zero_le _) (by simp) (by simp) (by simp) (by simp) (by simp) rfl
    · cases H
  · cases H

end
end Go.AM
