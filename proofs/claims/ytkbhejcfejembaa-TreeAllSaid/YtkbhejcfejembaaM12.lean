/- The abstract machine: append, joined. No condition. -/
import Derived.Test.YtkbhejcfejembaaM11
set_option linter.all false
set_option linter.unusedVariables false
namespace Go.AM
open Go Go.RowKit

section
variable {P : Program} {w : World} {C : Ctx} {st : St} {bs : List (Nat × Nat × Nat)}

/-- All cells of what a slice holds. -/
theorem run_all (H : Sim w C st bs) {sz : Nat} {x : Value} {q : PV} {ys : List (List PV)} (h : elemsOf st q = some ys) (hok : okSz sz ys = true) (hx : Rep w C x q) :
    (Builtin.lenOf x).run P w = .ok ys.length w ∧ ∃ vs : Array Value, (Builtin.firstCells sz ys.length x).run P w = .ok vs w ∧ vs.size = ys.length * sz ∧
      ∀ (i : Nat) (e : List PV) (j : Nat) (p : PV), ys[i]? = some e → e[j]? = some p → ∃ y, vs[i * sz + j]? = some y ∧ y.oneCell' = true ∧ Rep w C.fz y p := by
  obtain ⟨h1, h2⟩ := run_first (P := P) H h hok hx
  obtain ⟨vs, v1, v2, v3⟩ := h2 ys.length (Nat.le_refl _)
  exact ⟨h1, vs, v1, v2, fun i e j p he hp => v3 i e j p (List.getElem?_eq_some_iff.1 he).1 he hp⟩

theorem one_of_all {sz : Nat} {ys : List (List PV)} {vs : Array Value} (hok : okSz sz ys = true) (hs : vs.size = ys.length * sz)
    (hv : ∀ (i : Nat) (e : List PV) (j : Nat) (p : PV), ys[i]? = some e → e[j]? = some p → ∃ y, vs[i * sz + j]? = some y ∧ y.oneCell' = true ∧ Rep w C.fz y p) : ∀ v ∈ vs.toList, v.oneCell' = true :=
  (cells_of_first hok (Nat.le_refl _) hs fun i e j p _ he hp => hv i e j p he hp).2.1

theorem rep_slice_some {x : Value} {es : List (List PV)} {c : Cap} (h : Rep w C x (.sl es c)) : ∃ base cap, x = .slice base es.length cap ∧ es.length ≤ cap ∧ (base = none → es = [] ∧ cap = 0) ∧ (∀ a, base = some a → ∃ B o, a = ⟨B, o, none⟩) ∧ (c = .nil ∨ c = .full → cap = es.length) := by
  cases h with
  | slnil _ => exact ⟨none, 0, rfl, Nat.le_refl _, fun _ => ⟨rfl, rfl⟩, fun _ e => (by cases e), fun _ => rfl⟩
  | sl sz val h1 h2 h3 h4 h5 h6 h7 h8 =>
    subst h1
    refine ⟨_, _, rfl, h2, fun e => (by cases e), fun _ e => (by cases e; exact ⟨_, _, rfl⟩), fun e => ?_⟩
    rcases e with rfl | rfl
    · simp [CapRep] at h8
    · exact h8

/-- The slice is left as it is; its token goes on by nothing. -/
theorem append_same (H : Sim w C st bs) {st' : St} {x : Value} {es : List (List PV)} {c : Cap} {h : Ow} {t e s : Nat} (hg : Goes st st' h t e s)
    (hx : Rep w C x (.sl es c)) (hok : okSz s es = true) (hc : (c = .own h t e ∧ st.tok h t = some (e, s)) ∨ ((c = .nil ∨ c = .full) ∧ st.tok h t = none)) :
    ∃ C', Sim w C' st' bs ∧ Ext w C w C' ∧ Rep w C' x (.sl es (.own h t e)) := by
  rcases hc with ⟨rfl, htok⟩ | ⟨hc, htok⟩
  · obtain ⟨B, f, to, htl⟩ := H.tokdom h t e s htok
    obtain ⟨g1, g2⟩ := H.claim (st' := st') (X := fun _ _ => False) (o := h) (t := t) (B := B) (f := f) (to := to) (e := e) (s := s) hg.blk hg.tok hg.stk hg.tk hg.lp (fun _ _ q => q.elim)
      (fun o a b => ⟨(H.tok h t B f to e s htl).2 o a b, fun q => q⟩)
      (fun h' t' B' f' to' e' s' y q o a b => ⟨fun q => q, fun z => by
        subst z
        rcases H.disj h' t' h t B' f' to' e' s' f to e s y htl with k | k
        · exact absurd k q
        · by_cases o < f
          · exact Or.inl ‹_›
          · exact Or.inr (Nat.le_of_not_lt fun z => k o a b (by omega) z)⟩)
      (fun B' f' to' e' s' y => by rw [htl] at y; cases y; exact ⟨rfl, Nat.le_refl _, fun _ => ⟨rfl, rfl, rfl⟩⟩)
    exact ⟨_, g1, g2, hx.mono g2⟩
  · have hno : C.tl h t = none := by
      cases q : C.tl h t with
      | none => rfl
      | some y =>
        obtain ⟨B, f, to, e', s'⟩ := y
        have := (H.tok h t B f to e' s' q).1
        rw [htok] at this
        cases this
    obtain ⟨g1, g2⟩ := H.claim (st' := st') (X := fun _ _ => False) (o := h) (t := t) (B := 0) (f := 0) (to := 0) (e := e) (s := s) hg.blk hg.tok hg.stk hg.tk hg.lp (fun _ _ q => q.elim)
      (fun o a b => by omega)
      (fun h' t' B' f' to' e' s' y q o a b => ⟨fun q => q, fun _ => Or.inr (by omega)⟩)
      (fun B' f' to' e' s' y => by rw [hno] at y; cases y)
    refine ⟨_, g1, g2, ?_⟩
    cases hx with
    | slnil hn => exact .slnil ⟨0, 0, 0, e, s, by simp [Ctx.claim], Nat.le_refl _⟩
    | @sl _ _ B o len cap _ sz val h1 h2 h3 h4 h5 h6 h7 h8 =>
      have hcl : cap = len := by
        rcases hc with rfl | rfl
        · simp [CapRep] at h8
        · exact h8
      have hrep : Rep w C (.slice (some ⟨B, o, none⟩) len cap) (.sl es c) := .sl sz val h1 h2 h3 h4 h5 h6 h7 h8
      cases es with
      | nil =>
        refine .sl s (fun _ _ => .nilFunc) h1 h2 (by simp) (by simp) (by simp) (by simp) (by simp) ?_
        exact ⟨0, 0, 0, e, s, by simp [Ctx.claim], Nat.le_refl _, fun _ => ⟨rfl, Or.inl hcl⟩⟩
      | cons e0 es =>
        have hs : sz = s := by rw [← h3 0 e0 rfl]; exact okSz_get hok (i := 0) rfl
        have hm := hrep.mono g2
        cases hm with
        | sl sz' val' k1 k2 k3 k4 k5 k6 k7 k8 =>
          have hs' : sz' = s := by rw [← k3 0 e0 rfl]; exact okSz_get hok (i := 0) rfl
          refine .sl sz' val' k1 k2 k3 k4 k5 k6 k7 ?_
          exact ⟨0, 0, 0, e, s, by simp [Ctx.claim], Nat.le_refl _, fun _ => ⟨hs'.symm, Or.inl hcl⟩⟩

theorem notFrozen_false {w : World} {B o : Nat} {arr : Array Value} {elem : TypeId} {fr : Nat × Nat} (h : w.heap[B]? = some (.cells arr elem fr)) (hn : notFrozen fr o) : w.frozen? ⟨B, o, none⟩ = false := by
  simp only [World.frozen?, h]
  simp only [notFrozen] at hn
  cases hq : (decide (fr.1 ≤ o) && decide (o < fr.2)) with
  | false => rfl
  | true => simp at hq; exact absurd hq hn

/-- What room there is, is filled. -/
theorem append_room (H : Sim w C st bs) {st' : St} {B o cap sz : Nat} {es ys : List (List PV)} {h : Ow} {t e : Nat} {vs : Array Value} (hg : Goes st st' h t (e + ys.length) sz)
    (hx : Rep w C (.slice (some ⟨B, o, none⟩) es.length cap) (.sl es (.own h t e))) (htok : st.tok h t = some (e, sz)) (hok1 : okSz sz es = true) (hok2 : okSz sz ys = true) (hpos : ys.length ≠ 0) (hroom : es.length + ys.length ≤ cap)
    (hvs : vs.size = ys.length * sz) (hnew : ∀ (i : Nat) (e : List PV) (j : Nat) (p : PV), ys[i]? = some e → e[j]? = some p → ∃ y, vs[i * sz + j]? = some y ∧ y.oneCell' = true ∧ Rep w C.fz y p) (hone : ∀ v ∈ vs.toList, v.oneCell' = true) :
    ∃ w' C', (storeCells ((⟨B, o, none⟩ : Addr).add (es.length * sz)) vs.toList).run P w = .ok () w' ∧ Sim w' C' st' bs ∧ Ext w C w' C' ∧ Rep w' C' (.slice (some ⟨B, o, none⟩) (es.length + ys.length) cap) (.sl (es ++ ys) (.own h t (e + ys.length))) := by
  obtain ⟨B0, f0, to0, htl⟩ := H.tokdom h t e sz htok
  cases hx with
  | sl sz' val h1 h2 h3 h4 h5 h6 h7 h8 =>
    obtain ⟨B1, f1, to1, e1, s1, g1, g2, g3⟩ := h8
    rw [htl] at g1
    cases g1
    obtain ⟨hs, g4⟩ := g3 rfl
    subst hs
    rcases g4 with g4 | ⟨o', g5, g6, g7⟩
    · omega
    · injection g5 with g5; injection g5 with g8 g9; subst g8; subst g9
      have hmul : (es.length + ys.length) * sz = es.length * sz + ys.length * sz := Nat.add_mul _ _ _
      have hle : (es.length + ys.length) * sz ≤ cap * sz := Nat.mul_le_mul_right _ hroom
      have hsp := (H.tok h t B f0 to0 e sz htl).2
      have hsp' : ∀ i, o + es.length * sz ≤ i → i < o + es.length * sz + vs.toList.length → spare w C B i := by
        intro i a b
        refine hsp i (by omega) ?_
        have : vs.toList.length = ys.length * sz := by simpa using hvs
        omega
      obtain ⟨k1, k2⟩ := H.scribble (B := B) (off := o + es.length * sz) (vs := vs.toList) (fun i a b => (hsp' i a b).1) (fun hne => by
        have hl : 0 < vs.toList.length := List.length_pos_iff.2 hne
        exact (hsp' (o + es.length * sz) (Nat.le_refl _) (by omega)).2.1)
      have hrun := run_storeCells_cells (P := P) B (o + es.length * sz) vs.toList 0 w (fun j hj => by
          obtain ⟨_, _, arr, elem, fr, q1, q2, q3⟩ := hsp' (o + es.length * sz + 0 + j) (by omega) (by omega)
          simp only [World.cell?, q1]
          simpa using q2) (fun j hj => by
          obtain ⟨_, _, arr, elem, fr, q1, q2, q3⟩ := hsp' (o + es.length * sz + 0 + j) (by omega) (by omega)
          exact notFrozen_false q1 q3) hone
      obtain ⟨m1, m2⟩ := k1.claim (st' := st') (X := fun B' i => B' = B ∧ o + es.length * sz ≤ i ∧ i < o + es.length * sz + ys.length * sz) (o := h) (t := t) (B := B) (f := f0 + ys.length * sz) (to := to0) (e := e + ys.length) (s := sz)
        hg.blk hg.tok hg.stk hg.tk hg.lp
        (by
          rintro B' i ⟨rfl, a, b⟩
          have := hsp i (by omega) (by omega)
          refine ⟨?_, fun a b cs q _ => absurd q (this.2.1.1 a b)⟩
          obtain ⟨_, _, arr, elem, fr, q1, _⟩ := this
          rw [setCells_size]
          exact (Array.getElem?_eq_some_iff.1 q1).1)
        (fun i a b => ⟨spare_set (hsp i (by omega) b), fun q => by omega⟩)
        (fun h' t' B' f' to' e' s' y q i a b => by
          have hdis : B' = B → i < f0 ∨ to0 ≤ i := fun z => by
            subst z
            rcases H.disj h' t' h t B' f' to' e' s' f0 to0 e sz y htl with k | k
            · exact absurd k q
            · by_cases i < f0
              · exact Or.inl ‹_›
              · exact Or.inr (Nat.le_of_not_lt fun z => k i a b (by omega) z)
          refine ⟨fun z => ?_, fun z => ?_⟩
          · have := hdis z.1
            omega
          · have := hdis z
            omega)
        (fun B' f' to' e' s' y => by rw [htl] at y; cases y; exact ⟨rfl, by omega, fun q => by omega⟩)
      have hext := k2.trans m2
      refine ⟨_, _, ?_, m1, hext, ?_⟩
      · rw [add_mk]
        exact hrun
      · -- what is read now
        have hval : ∀ k, k < (es.length + ys.length) * sz → ∃ v, (w.setCells B (o + es.length * sz) vs.toList).cell? ⟨B, o + k, none⟩ = some v ∧
            (k < es.length * sz → w.cell? ⟨B, o + k, none⟩ = some v) ∧ (es.length * sz ≤ k → vs[k - es.length * sz]? = some v) := by
          intro k hk
          by_cases q : k < es.length * sz
          · have hszp : 0 < sz := by
              rcases Nat.eq_zero_or_pos sz with z | z
              · subst z; simp at q
              · exact z
            have hi : k / sz < es.length := by rw [Nat.div_lt_iff_lt_mul hszp]; exact q
            have he : es[k / sz]? = some (es[k / sz]'hi) := List.getElem?_eq_getElem hi
            have hel := okSz_get hok1 he
            have hj : k % sz < sz := Nat.mod_lt _ hszp
            have hp : (es[k / sz]'hi)[k % sz]? = some ((es[k / sz]'hi)[k % sz]'(by omega)) := List.getElem?_eq_getElem (by omega)
            have hd : o + k / sz * sz + k % sz = o + k := by
              have := Nat.div_add_mod k sz
              rw [Nat.mul_comm] at this
              omega
            have hc := h5 _ _ _ _ he hp
            have hS := h4 _ _ _ _ he hp
            rw [hd] at hc hS
            exact ⟨_, (k2.cell B _ hS).trans hc, fun _ => hc, fun z => by omega⟩
          · have hk' : k - es.length * sz < vs.size := by omega
            refine ⟨vs[k - es.length * sz]'hk', ?_, fun z => absurd z q, fun _ => Array.getElem?_eq_getElem hk'⟩
            obtain ⟨_, _, arr, elem, fr, q1, q2, q3⟩ := hsp' (o + k) (by omega) (by simp; omega)
            simp only [World.cell?]
            rw [setCells_heap, if_pos rfl, q1]
            have hsz2 : o + es.length * sz + vs.toList.length ≤ arr.size := by
              rcases Nat.eq_zero_or_pos vs.toList.length with z | z
              · rw [z]; simp at z; omega
              · obtain ⟨_, _, arr', elem', fr', r1, r2, r3⟩ := hsp' (o + es.length * sz + (vs.toList.length - 1)) (by omega) (by omega)
                rw [q1] at r1
                cases r1
                omega
            simp only [Option.isSome_none, Bool.false_eq_true, if_false]
            rw [laidA_get vs.toList arr _ (o + k) hsz2, if_pos (by simp; omega)]
            rw [Array.getElem?_toList, show o + k - (o + es.length * sz) = k - es.length * sz by omega]
            exact Array.getElem?_eq_getElem hk'
        have hch : ∃ f : Nat → Value, ∀ k, k < (es.length + ys.length) * sz → (w.setCells B (o + es.length * sz) vs.toList).cell? ⟨B, o + k, none⟩ = some (f k) ∧
            (k < es.length * sz → w.cell? ⟨B, o + k, none⟩ = some (f k)) ∧ (es.length * sz ≤ k → vs[k - es.length * sz]? = some (f k)) := by
          refine ⟨fun k => if hk : k < (es.length + ys.length) * sz then (hval k hk).choose else .nilFunc, fun k hk => ?_⟩
          simp only [dif_pos hk]
          exact (hval k hk).choose_spec
        obtain ⟨f, hf⟩ := hch
        have hidx : ∀ {n i j : Nat}, i < n → j < sz → i * sz + j < n * sz := by
          intro n i j hi hj
          have : (i + 1) * sz ≤ n * sz := Nat.mul_le_mul_right _ hi
          rw [Nat.succ_mul] at this
          omega
        refine rep_append (f := f) hok1 hok2 hroom (fun k hk => ?_) (fun k hk => (hf k hk).1) (fun i e j p he hp => ?_) (fun i e j p he hp => ?_) ?_
        · by_cases q : k < es.length * sz
          · left
            have hszp : 0 < sz := by
              rcases Nat.eq_zero_or_pos sz with z | z
              · subst z; simp at q
              · exact z
            have hi : k / sz < es.length := by rw [Nat.div_lt_iff_lt_mul hszp]; exact q
            have he : es[k / sz]? = some (es[k / sz]'hi) := List.getElem?_eq_getElem hi
            have hel := okSz_get hok1 he
            have hj : k % sz < sz := Nat.mod_lt _ hszp
            have hp : (es[k / sz]'hi)[k % sz]? = some ((es[k / sz]'hi)[k % sz]'(by omega)) := List.getElem?_eq_getElem (by omega)
            have hS := h4 _ _ _ _ he hp
            have hd : o + k / sz * sz + k % sz = o + k := by
              have := Nat.div_add_mod k sz
              rw [Nat.mul_comm] at this
              omega
            rw [hd] at hS
            exact hS
          · right
            exact ⟨rfl, by omega, by omega⟩
        · have hi := (List.getElem?_eq_some_iff.1 he).1
          have hj := (List.getElem?_eq_some_iff.1 hp).1
          rw [okSz_get hok1 he] at hj
          have hk := hidx hi hj
          have h9 := (hf (i * sz + j) (by omega)).2.1 hk
          have hc := h5 _ _ _ _ he hp
          rw [Nat.add_assoc] at hc
          rw [hc] at h9
          obtain h9 := Option.some.inj h9
          rw [← h9]
          exact ⟨h6 _ _ _ _ he hp, (h7 _ _ _ _ he hp).mono hext.fz⟩
        · have hi := (List.getElem?_eq_some_iff.1 he).1
          have hj := (List.getElem?_eq_some_iff.1 hp).1
          rw [okSz_get hok2 he] at hj
          have hk := hidx hi hj
          have h9 := (hf (es.length * sz + (i * sz + j)) (by omega)).2.2 (by omega)
          rw [show es.length * sz + (i * sz + j) - es.length * sz = i * sz + j by omega] at h9
          obtain ⟨y, y1, y2, y3⟩ := hnew i e j p he hp
          rw [y1] at h9
          obtain rfl := Option.some.inj h9
          exact ⟨y2, y3.mono hext.fz⟩
        · exact ⟨B, f0 + ys.length * sz, to0, e + ys.length, sz, by simp [Ctx.claim], Nat.le_refl _, fun _ => ⟨rfl, Or.inr ⟨o, rfl, by omega, by omega⟩⟩⟩

theorem append_ok (H : Sim w C st bs) {t u ty e : TypeId} {d : TypeDesc} (hu : P.underlying t = some (.slice e)) (hu2 : P.underlying u = some d) (hd : ∀ k, d ≠ .int k) {s x : Value} {p q : PV} {ys : List (List PV)} {r : PV × St}
    (hq : elemsOf st q = some ys) (h : aAppend (szT P e) (byT P e) p ys st = some r) (hs : Rep w C s p) (hx : Rep w C x q) :
    Lays P w C bs (Builtin.append_ #[t, u] ty #[s, x]) r.1 r.2 := by
  unfold aAppend at h
  split at h
  · rename_i es c
    cases hb : Nat.ble ((es.length + ys.length) * byT P e) maxLenB && okSz (szT P e) es && okSz (szT P e) ys && !Nat.beq (szT P e) 0 && !Nat.beq (byT P e) 0 with
    | false => rw [hb] at h; simp at h
    | true =>
      rw [hb] at h
      simp only [cond_true] at h
      simp only [Bool.and_eq_true] at hb
      obtain ⟨⟨⟨⟨b1, b2⟩, b3⟩, b4⟩, b5⟩ := hb
      have b1 := Nat.le_of_ble_eq_true b1
      have hby : byT P e ≠ 0 := by intro z; rw [z] at b5; simp at b5
      obtain ⟨ie, z, hie, hz, hzs, hbe⟩ := byT_some hby
      have hsz : szT P e = ie.size := szT_eq hie
      -- the state and the token
      have key : ∃ a t' e' , r = (.sl (es ++ ys) (.own a t' (e' + ys.length)), r.2) ∧ Goes st r.2 a t' (e' + ys.length) (szT P e) ∧
          ((c = .own a t' e' ∧ st.tok a t' = some (e', szT P e)) ∨ ((c = .nil ∨ c = .full) ∧ st.tok a t' = none)) := by
        cases c with
        | dead => cases h
        | own a t' e' =>
          simp only at h
          split at h
          · rename_i y hy
            cases hq2 : Nat.beq y.1 e' && Nat.beq y.2 (szT P e) with
            | false => rw [hq2] at h; simp at h
            | true =>
              rw [hq2] at h
              obtain rfl := Option.some.inj h
              rw [Bool.and_eq_true] at hq2
              have q1 := Nat.eq_of_beq_eq_true hq2.1
              have q2 := Nat.eq_of_beq_eq_true hq2.2
              refine ⟨a, t', e', rfl, goes_set hy, Or.inl ⟨rfl, ?_⟩⟩
              rw [hy, ← q1, ← q2]
          · cases h
        | nil =>
          obtain rfl := Option.some.inj h
          exact ⟨.fr, st.tk.length, es.length, rfl, goes_push, Or.inr ⟨Or.inl rfl, by simp [St.tok]⟩⟩
        | full =>
          obtain rfl := Option.some.inj h
          exact ⟨.fr, st.tk.length, es.length, rfl, goes_push, Or.inr ⟨Or.inr rfl, by simp [St.tok]⟩⟩
      obtain ⟨a, t', e', hr, hg, hc⟩ := key
      rw [hr]
      clear hr h
      simp only
      generalize r.2 = st' at hg ⊢
      obtain ⟨base, cap, rfl, hlc, hnone, hsome, hfull⟩ := rep_slice_some hs
      obtain ⟨hlen, vs, hvs, hvsz, hvr⟩ := run_all (P := P) H hq b3 hx
      obtain ⟨_, os, hos, hosz, hor⟩ := run_all (P := P) (q := .sl es c) H rfl b2 hs
      have hone := one_of_all b3 hvsz hvr
      rw [hsz] at hvs hos
      by_cases hn0 : ys.length = 0
      · -- nothing is appended
        have hys : ys = [] := List.length_eq_zero_iff.1 hn0
        subst hys
        have hv0 : vs.toList = [] := List.length_eq_zero_iff.1 (by simp [hvsz])
        obtain ⟨C', k1, k2, k3⟩ := append_same (st' := st') (h := a) (t := t') (e := e') (s := szT P e) H (by simpa using hg) hs b2 hc
        refine ⟨_, w, C', run_append_room hu hu2 hd hie hlen (by simpa using hlc) hvs w ?_, k1, k2, by simpa using k3⟩
        rw [hv0]
        cases base <;> rfl
      · by_cases hroom : es.length + ys.length ≤ cap
        · -- into the room
          rcases hc with ⟨rfl, htok⟩ | ⟨hc, _⟩
          · cases base with
            | none => have := (hnone rfl).2; omega
            | some ad =>
              obtain ⟨B, o, rfl⟩ := hsome ad rfl
              obtain ⟨w', C', k0, k1, k2, k3⟩ := append_room (P := P) H hg hs htok b2 b3 hn0 hroom hvsz hvr hone
              refine ⟨_, w', C', run_append_room hu hu2 hd hie hlen hroom hvs w' ?_, k1, k2, k3⟩
              rw [hsz] at k0
              exact k0
          · have := hfull hc
            omega
        · -- a new row
          have hbytes : (es.length + ys.length) * ie.bytes ≤ 140737488355328 := by rw [← hbe]; exact b1
          obtain ⟨hD1, hD2⟩ := H.heap (w' := w.drew) rfl rfl rfl rfl
          obtain ⟨_, vs, hvs, hvsz, hvr⟩ := run_all (P := P) hD1 hq b3 (hx.mono hD2)
          obtain ⟨_, os, hos, hosz, hor⟩ := run_all (P := P) (q := .sl es c) hD1 rfl b2 (hs.mono hD2)
          rw [hsz] at hvs hos
          obtain ⟨newCap, n1, n2⟩ := run_append_grow (ty := ty) hu hu2 hd hie hz (by rw [← hbe]; exact hby) hlen (by omega) hbytes hos hvs
          have hmul : (es.length + ys.length) * szT P e = es.length * szT P e + ys.length * szT P e := Nat.add_mul _ _ _
          have harr : (os ++ vs ++ Builtin.zeroCells z.cells (newCap - (es.length + ys.length))).size = newCap * szT P e := by
            simp only [Array.size_append, hosz, hvsz, Builtin.zeroCells, Array.size_map, Array.size_range, hzs]
            rw [Nat.sub_mul, hmul]
            have : (es.length + ys.length) * szT P e ≤ newCap * szT P e := Nat.mul_le_mul_right _ n1
            omega
          obtain ⟨C', k1, k2, k3, k4⟩ := grown (elem := e) (need := es.length + ys.length) (cap := newCap) hD1 _ hg rfl harr n1 (by
            intro B' f' to' e2 s' y
            rcases hc with ⟨rfl, htok⟩ | ⟨_, htok⟩
            · have := (H.tok a t' B' f' to' e2 s' y).1
              rw [htok] at this
              cases this
              exact ⟨rfl, by omega⟩
            · have := (H.tok a t' B' f' to' e2 s' y).1
              rw [htok] at this
              cases this)
          have hext := hD2.trans k2
          refine ⟨_, _, C', n2, k1, hext, ?_⟩
          have hsize : w.drew.heap.size = w.heap.size := rfl
          rw [hsize] at k3 k4
          refine rep_append (f := fun k => (os ++ vs ++ Builtin.zeroCells z.cells (newCap - (es.length + ys.length)))[k]?.getD .nilFunc) b2 b3 n1 (fun k hk => by rw [Nat.zero_add]; exact k3 k hk) (fun k hk => ?_) (fun i e0 j p he hp => ?_) (fun i e0 j p he hp => ?_) k4
          · have hlt : k < (os ++ vs ++ Builtin.zeroCells z.cells (newCap - (es.length + ys.length))).size := by
              rw [harr]
              have : (es.length + ys.length) * szT P e ≤ newCap * szT P e := Nat.mul_le_mul_right _ n1
              omega
            rw [Nat.zero_add]
            have := World.cell?_alloc_new w.drew (os ++ vs ++ Builtin.zeroCells z.cells (newCap - (es.length + ys.length))) e k
            rw [hsize] at this
            rw [show (World.cell? (w.drew.alloc (Obj.cells (os ++ vs ++ Builtin.zeroCells z.cells (newCap - (es.length + ys.length))) e)) ⟨w.heap.size, k, none⟩) = _ from this, Array.getElem?_eq_getElem hlt]
            rfl
          · obtain ⟨y, y1, y2, y3⟩ := hor i e0 j p he hp
            have hk := (Array.getElem?_eq_some_iff.1 y1).1
            have : (os ++ vs ++ Builtin.zeroCells z.cells (newCap - (es.length + ys.length)))[i * szT P e + j]? = some y := by
              rw [Array.getElem?_append_left (by rw [Array.size_append]; omega), Array.getElem?_append_left hk]; exact y1
            simp only [this, Option.getD_some]
            exact ⟨y2, y3.mono k2.fz⟩
          · obtain ⟨y, y1, y2, y3⟩ := hvr i e0 j p he hp
            have hk := (Array.getElem?_eq_some_iff.1 y1).1
            have : (os ++ vs ++ Builtin.zeroCells z.cells (newCap - (es.length + ys.length)))[es.length * szT P e + (i * szT P e + j)]? = some y := by
              rw [Array.getElem?_append_left (by rw [Array.size_append]; omega), Array.getElem?_append_right (by omega)]
              rw [show es.length * szT P e + (i * szT P e + j) - os.size = i * szT P e + j by omega]
              exact y1
            simp only [this, Option.getD_some]
            exact ⟨y2, y3.mono k2.fz⟩
  · cases h

/-- A row of its own that grows: what the model does. -/
theorem run_grow (C0 : Ctx) {t u ty e : TypeId} {d : TypeDesc} (hu : P.underlying t = some (.slice e)) (hu2 : P.underlying u = some d) (hd : ∀ k, d ≠ .int k) {x : Value} {n m : Nat} {os vs : Array Value}
    (b1 : (n + m) * byT P e ≤ maxLenB) (hby : byT P e ≠ 0) {zz : List PV} (hzt : zeroT P e = some zz) {base : Option Addr} {cap : Nat} (hcap : cap < n + m)
    (hlen : (Builtin.lenOf x).run P w = .ok m w) (hos : (Builtin.firstCells (szT P e) n (.slice base n cap)).run P w.drew = .ok os w.drew) (hvs : (Builtin.firstCells (szT P e) m x).run P w.drew = .ok vs w.drew)
    (hosz : os.size = n * szT P e) (hvsz : vs.size = m * szT P e) (oone : ∀ v ∈ os.toList, v.oneCell' = true) (vone : ∀ v ∈ vs.toList, v.oneCell' = true) :
    ∃ (newCap : Nat) (arr : Array Value), n + m ≤ newCap ∧ arr.size = newCap * szT P e ∧
      (Builtin.append_ #[t, u] ty #[.slice base n cap, x]).run P w = .ok (.slice (some ⟨w.heap.size, 0, none⟩) (n + m) newCap) (w.drew.alloc (.cells arr e)) ∧
      (∀ (k : Nat) (y : Value), arr[k]? = some y → y.oneCell' = true) ∧ (∀ k, k < n * szT P e → arr[k]? = os[k]?) ∧ (∀ k, k < m * szT P e → arr[n * szT P e + k]? = vs[k]?) := by
  obtain ⟨ie, z, hie, hz, hzs, hbe⟩ := byT_some hby
  have hsz : szT P e = ie.size := szT_eq hie
  rw [hsz] at hvs hos
  have hbytes : (n + m) * ie.bytes ≤ 140737488355328 := by rw [← hbe]; exact b1
  obtain ⟨newCap, n1, n2⟩ := run_append_grow (ty := ty) hu hu2 hd hie hz (by rw [← hbe]; exact hby) hlen hcap hbytes hos hvs
  have hmul : (n + m) * szT P e = n * szT P e + m * szT P e := Nat.add_mul _ _ _
  have harr : (os ++ vs ++ Builtin.zeroCells z.cells (newCap - (n + m))).size = newCap * szT P e := by
    simp only [Array.size_append, hosz, hvsz, Builtin.zeroCells, Array.size_map, Array.size_range, hzs]
    rw [Nat.sub_mul, hmul]
    have : (n + m) * szT P e ≤ newCap * szT P e := Nat.mul_le_mul_right _ n1
    omega
  have hzone : ∀ y ∈ z.cells, y.oneCell' = true := by
    intro y hy
    obtain ⟨it, zv, hi, hzv, hzc⟩ := zero_rep (w := w) (C := C0) hzt
    rw [hie] at hi; cases hi
    rw [hz] at hzv; cases hzv
    obtain ⟨k, hk⟩ := Array.mem_iff_getElem?.1 hy
    exact hzc.one k y hk
  refine ⟨newCap, _, n1, harr, n2, fun k y hy => ?_, fun k hk => ?_, fun k hk => ?_⟩
  · rw [Array.getElem?_append] at hy
    split at hy
    · rw [Array.getElem?_append] at hy
      split at hy
      · exact oone y (by simpa using Array.mem_of_getElem? hy)
      · exact vone y (by simpa using Array.mem_of_getElem? hy)
    · have := Array.mem_of_getElem? hy
      simp only [Builtin.zeroCells, Array.mem_map] at this
      obtain ⟨k', hk', rfl⟩ := this
      have hk := Array.mem_range.1 hk'
      have hzp : 0 < z.cells.size := by
        rcases Nat.eq_zero_or_pos z.cells.size with q | q
        · rw [q] at hk; simp at hk
        · exact q
      have hlt := Nat.mod_lt k' hzp
      rw [getElem!_pos z.cells _ hlt]
      exact hzone _ (Array.getElem_mem hlt)
  · rw [Array.getElem?_append_left (by rw [Array.size_append]; omega), Array.getElem?_append_left (by omega)]
  · rw [Array.getElem?_append_left (by rw [Array.size_append]; omega), Array.getElem?_append_right (by omega)]
    congr 1
    omega

theorem okB {a b c d e : Bool} (h : (a && b && c && !d && !e) = true) : a = true ∧ b = true ∧ c = true ∧ d = false ∧ e = false := by
  simp only [Bool.and_eq_true, Bool.not_eq_true'] at h
  exact ⟨h.1.1.1.1, h.1.1.1.2, h.1.1.2, h.1.2, h.2⟩
theorem beq0 {n : Nat} (h : Nat.beq n 0 = false) : n ≠ 0 := Nat.ne_of_beq_eq_false h

/-- Append that lays a new row, to be written in place. -/
theorem appendM_ok (H : Sim w C st bs) {hh : Bool} {t u ty e : TypeId} {d : TypeDesc} (hu : P.underlying t = some (.slice e)) (hu2 : P.underlying u = some d) (hd : ∀ k, d ≠ .int k) {s x : Value} {p q : PV} {ys : List (List PV)} {r : PV × St}
    {zz : List PV} (hzt : zeroT P e = some zz) (hq : elemsOf st q = some ys) (h : aAppendM hh (szT P e) (byT P e) p ys st = some r) (hs : Rep w C s p) (hx : Rep w C x q) : Lays P w C bs (Builtin.append_ #[t, u] ty #[s, x]) r.1 r.2 := by
  unfold aAppendM at h
  split at h
  · rename_i es c
    cases hb : Nat.ble ((es.length + ys.length) * byT P e) maxLenB && okSz (szT P e) es && okSz (szT P e) ys && !Nat.beq (szT P e) 0 && !Nat.beq (byT P e) 0 with
    | false => rw [hb] at h; simp at h
    | true =>
      rw [hb] at h
      simp only [cond_true] at h
      obtain ⟨b1, b2, b3, b4, b5⟩ := okB hb
      have b1 := Nat.le_of_ble_eq_true b1
      have hby := beq0 b5
      have hne := beq0 b4
      obtain ⟨ie, z, hie, hz, hzs, hbe⟩ := byT_some hby
      obtain ⟨base, cap, rfl, hlc, hnone, hsome, hfull⟩ := rep_slice_some hs
      have key : (c = .nil ∨ c = .full) ∧ ((ys = [] ∧ r = (.sl es c, st)) ∨ (ys ≠ [] ∧ r = (.rs hh (st.len hh) 0 (es.length + ys.length) (szT P e), st.lay hh (flat (es ++ ys))))) := by
        cases c with
        | dead => cases h
        | own _ _ _ => cases h
        | nil =>
          simp only at h
          cases ys with
          | nil => exact ⟨Or.inl rfl, Or.inl ⟨rfl, (Option.some.inj h).symm⟩⟩
          | cons y ys => exact ⟨Or.inl rfl, Or.inr ⟨by simp, (Option.some.inj h).symm⟩⟩
        | full =>
          simp only at h
          cases ys with
          | nil => exact ⟨Or.inr rfl, Or.inl ⟨rfl, (Option.some.inj h).symm⟩⟩
          | cons y ys => exact ⟨Or.inr rfl, Or.inr ⟨by simp, (Option.some.inj h).symm⟩⟩
      obtain ⟨hc, key⟩ := key
      have hcap := hfull hc
      rcases key with ⟨rfl, rfl⟩ | ⟨hys, rfl⟩
      · obtain ⟨hlen, vs, hvs, hvsz, hvr⟩ := run_all (P := P) H hq b3 hx
        have hv0 : vs.toList = [] := List.length_eq_zero_iff.1 (by simp [hvsz])
        rw [szT_eq hie] at hvs
        refine ⟨_, w, C, run_append_room hu hu2 hd hie hlen (by simp; omega) hvs w ?_, H, Ext.refl w C, by simpa using hs⟩
        rw [hv0]
        cases base <;> rfl
      · have hpos : 0 < ys.length := List.length_pos_iff.2 hys
        obtain ⟨hD1, hD2⟩ := H.heap (w' := w.drew) rfl rfl rfl rfl
        obtain ⟨hlen0, _⟩ := run_all (P := P) H hq b3 hx
        obtain ⟨_, vs, hvs, hvsz, hvr⟩ := run_all (P := P) hD1 hq b3 (hx.mono hD2)
        obtain ⟨_, os, hos, hosz, hor⟩ := run_all (P := P) (q := .sl es c) hD1 rfl b2 (hs.mono hD2)
        obtain ⟨newCap, arr, n1, n2, n3, n4, n5, n6⟩ := run_grow C (ty := ty) hu hu2 hd b1 hby hzt (by omega) hlen0 hos hvs hosz hvsz (one_of_all b2 hosz hor) (one_of_all b3 hvsz hvr)
        have hok : okSz (szT P e) (es ++ ys) = true := by
          unfold okSz at b2 b3 ⊢
          rw [List.all_append, b2, b3]; rfl
        obtain ⟨f1, f2⟩ := flat_get hok
        have hrep : ∀ (o : Nat) (y : Value) (r : PV), arr[o]? = some y → (flat (es ++ ys))[o]? = some r → Rep w.drew C.fz y r := by
          intro o y r hy hr
          obtain ⟨c', e1, e2⟩ := f2 o r hr
          have ho : o < (es ++ ys).length * szT P e := by rw [← f1]; exact (List.getElem?_eq_some_iff.1 hr).1
          obtain ⟨k0, k1, k2, k3⟩ := divmod_lt ho
          rw [List.getElem?_append] at e1
          split at e1
          · rename_i hlt
            obtain ⟨y', y1, _, y2⟩ := hor _ _ _ _ e1 e2
            have hlt' := idx_lt hlt k2
            rw [n5 o (by omega), ← k3, y1] at hy
            obtain rfl := Option.some.inj hy
            exact y2
          · rename_i hge
            obtain ⟨y', y1, _, y2⟩ := hvr _ _ _ _ e1 e2
            have hi := (List.getElem?_eq_some_iff.1 e1).1
            have hlt' := idx_lt hi k2
            have : es.length * szT P e + ((o / szT P e - es.length) * szT P e + o % szT P e) = o := by
              rw [Nat.sub_mul]
              have : es.length * szT P e ≤ o / szT P e * szT P e := Nat.mul_le_mul_right _ (by omega)
              omega
            have h6 := n6 _ hlt'
            rw [this, hy, y1] at h6
            obtain rfl := Option.some.inj h6
            exact y2
        have hlen : (flat (es ++ ys)).length ≤ arr.size := by
          rw [f1, n2, List.length_append]
          exact Nat.mul_le_mul_right _ n1
        obtain ⟨k1, k2⟩ := hD1.lay hh arr e (flat (es ++ ys)) hlen n4 (fun o y r hy hr => (hrep o y r hy hr).mono (Ext.of_fz _ C)) fun m t l _ _ o y r hy hr => (hrep o y r hy hr).mono (Ext.fz_cut _ C m t l)
        refine ⟨_, _, _, n3, k1, hD2.trans k2, .rs (arr := arr) (elem := e) (fr := (0, 0)) (by simp [Ctx.lay]) n1 ?_ (by rw [n2]; omega)⟩
        exact (show (w.heap.push (Obj.cells arr e))[w.heap.size]? = some (Obj.cells arr e) by simp)
  · cases h

/-- Append to a row that is written in place. -/
theorem appendR_ok (H : Sim w C st bs) (base : Nat) (hbase : ∀ m t l, (m, t, l) ∈ bs → m ≤ base) {t u ty e : TypeId} {d : TypeDesc} (hu : P.underlying t = some (.slice e)) (hu2 : P.underlying u = some d) (hd : ∀ k, d ≠ .int k) {s x : Value} {p q : PV} {ys : List (List PV)} {r : PV × St}
    {zz : List PV} (hzt : zeroT P e = some zz) (hq : elemsOf st q = some ys) (h : aAppendR base (szT P e) (byT P e) p ys st = some r) (hs : Rep w C s p) (hx : Rep w C x q) : Lays P w C bs (Builtin.append_ #[t, u] ty #[s, x]) r.1 r.2 := by
  unfold aAppendR at h
  split at h
  · rename_i hh b off len sz
    cases hb : Nat.beq sz (szT P e) && Nat.ble ((len + ys.length) * byT P e) maxLenB && okSz (szT P e) ys && !Nat.beq (szT P e) 0 && !Nat.beq (byT P e) 0 with
    | false => rw [hb] at h; simp at h
    | true =>
      rw [hb] at h
      simp only [cond_true] at h
      obtain ⟨b0, b1, b3, b4, b5⟩ := okB hb
      have hszz := Nat.eq_of_beq_eq_true b0
      subst hszz
      have b1 := Nat.le_of_ble_eq_true b1
      have hby := beq0 b5
      have hne := beq0 b4
      obtain ⟨ie, z, hie, hz, hzs, hbe⟩ := byT_some hby
      obtain ⟨old, hold, h⟩ := Option.bind_eq_some_iff.1 h
      have hs' := hs
      cases hs' with
      | @rs _ _ _ _ _ cap _ B arr elem fr h1 h2 h3 h4 =>
      obtain ⟨B', arr', elem', fr', a1, a2, a3, a4, a5, a6, a7, a8⟩ := H.blk hh b old hold
      rw [h1] at a1
      obtain rfl := Option.some.inj a1
      rw [h3] at a2
      cases a2
      obtain ⟨hlen, vs, hvs, hvsz, hvr⟩ := run_all (P := P) H hq b3 hx
      obtain ⟨c1, c2, c3⟩ := cells_of_first b3 (Nat.le_refl _) hvsz fun i e j p _ he hp => hvr i e j p he hp
      rw [List.take_of_length_le (Nat.le_refl _)] at c1 c3
      have hfl := (flat_get b3).1
      have hszp : 0 < szT P e := Nat.pos_of_ne_zero hne
      have hmul : (len + ys.length) * szT P e = len * szT P e + ys.length * szT P e := Nat.add_mul _ _ _
      have hroomRun : ∀ w', (storeCells ⟨B, off + len * szT P e, none⟩ vs.toList).run P w = .ok () w' → len + ys.length ≤ cap →
          (Builtin.append_ #[t, u] ty #[.slice (some ⟨B, off, none⟩) len cap, x]).run P w = .ok (.slice (some ⟨B, off, none⟩) (len + ys.length) cap) w' := by
        intro w' hw' hroom
        have hvs' := hvs
        rw [szT_eq hie] at hvs' hw'
        refine run_append_room hu hu2 hd hie hlen hroom hvs' w' ?_
        simp only [add_mk]
        exact hw'
      cases hin : Nat.ble (off + (len + ys.length) * szT P e) old.length with
      | true =>
        rw [hin] at h
        simp only [cond_true] at h
        obtain ⟨st', hp, h⟩ := Option.bind_eq_some_iff.1 h
        obtain rfl := Option.some.inj h
        have hin := Nat.le_of_ble_eq_true hin
        have hroom : len + ys.length ≤ cap := by
          refine Nat.le_of_mul_le_mul_right (c := szT P e) ?_ hszp
          omega
        obtain ⟨C', k1, k2, k3⟩ := put_ok (P := P) H base hbase hp h1 c1 c2 fun i x p hx hp => (c3 i x p hx hp).mono (Ext.of_fz w C)
        refine ⟨_, _, C', hroomRun _ k1 hroom, k2, k3, ?_⟩
        exact .rs (k3.σ _ _ _ h1) hroom (setCells_shape w B _ vs.toList h3) (by rw [if_pos rfl, laidA_size]; exact h4)
      | false =>
        rw [hin] at h
        simp only [cond_false] at h
        cases hb2 : Nat.beq off 0 && Nat.ble (len * szT P e) old.length && Nat.blt 0 old.length with
        | false => rw [hb2] at h; simp at h
        | true =>
          rw [hb2] at h
          obtain rfl := Option.some.inj h
          simp only [Bool.and_eq_true] at hb2
          obtain ⟨⟨o1, o2⟩, o3⟩ := hb2
          have o1 := Nat.eq_of_beq_eq_true o1
          subst o1
          have o2 := Nat.le_of_ble_eq_true o2
          rw [Nat.blt_eq] at o3
          have hne' : old ≠ [] := List.length_pos_iff.1 o3
          have hin' : ¬ (0 + (len + ys.length) * szT P e ≤ old.length) := fun z => by rw [show Nat.ble (0 + (len + ys.length) * szT P e) old.length = true from by rw [Nat.ble_eq]; exact z] at hin; cases hin
          have htl : (old.take (len * szT P e)).length = len * szT P e := by simp; omega
          have hnewlen : (old.take (len * szT P e) ++ flat ys).length = (len + ys.length) * szT P e := by rw [List.length_append, htl, hfl, hmul]
          by_cases hroom : len + ys.length ≤ cap
          · -- into the room behind the block
            have hsz2 : len * szT P e + vs.toList.length ≤ arr.size := by
              have : (len + ys.length) * szT P e ≤ cap * szT P e := Nat.mul_le_mul_right _ hroom
              have : vs.toList.length = ys.length * szT P e := by simpa using hvsz
              omega
            obtain ⟨k1, k2⟩ := H.put (off := len * szT P e) (vs := vs.toList) (ds := []) h1 hold h3 (Nat.zero_le _) c2 hsz2 (Or.inl hne') (by simp) (by simp)
            have hrun := run_storeCells_cells (P := P) B (len * szT P e) vs.toList 0 w (fun j hj => by
                have hj' : len * szT P e + 0 + j < arr.size := by omega
                simp only [World.cell?, h3]
                simpa using hj') (fun j hj => notFrozen_false h3 (a4 _)) c2
            have hrun' : (storeCells ⟨B, 0 + len * szT P e, none⟩ vs.toList).run P w = .ok () (w.setCells B (len * szT P e) vs.toList) := by
              rw [Nat.zero_add]
              simpa using hrun
            have hshape := setCells_shape w B (len * szT P e) vs.toList h3
            rw [if_pos rfl] at hshape
            have hblk1 : ∀ h' b', C.σ h' b' = some B → (st.setBlk hh b []).blk h' b' = some [] := by
              intro h' b' hσ'
              rw [blk_setBlk st hh b _ h' b' hold]
              by_cases q : h' = hh ∧ b' = b
              · rw [if_pos q]
              · rw [if_neg q]
                rcases H.inj _ _ _ _ _ hσ' h1 with z | z | z
                · exact absurd z q
                · exact z
                · rw [hold] at z; exact absurd (Option.some.inj z) hne'
            have hrep : ∀ (o : Nat) (y : Value) (r : PV), (laidA arr (len * szT P e) vs.toList)[o]? = some y → (old.take (len * szT P e) ++ flat ys)[o]? = some r →
                (∃ q, arr[o]? = some y ∧ old[o]? = some q ∧ r = q) ∨ Rep w C.fz y r := by
              intro o y r hy hr
              rw [laidA_get vs.toList arr _ o hsz2] at hy
              rw [List.getElem?_append, htl] at hr
              split at hr
              · rename_i hlt
                rw [if_neg (by omega)] at hy
                rw [List.getElem?_take, if_pos hlt] at hr
                exact Or.inl ⟨r, hy, hr, rfl⟩
              · rename_i hge
                have hlt : o - len * szT P e < (flat ys).length := (List.getElem?_eq_some_iff.1 hr).1
                rw [if_pos (by omega)] at hy
                exact Or.inr (c3 _ y r hy hr)
            obtain ⟨g1, g2⟩ := k1.layAt hh (B := B) (arr := laidA arr (len * szT P e) vs.toList) (elem := elem) (fr := fr) (cs := old.take (len * szT P e) ++ flat ys) hshape a4 (a5 hne') (H.low.2.1 _ _ _ h1) hblk1
              (fun o t B' f to e s i x y z hq => by
                subst hq
                exact absurd h1 (((k1.tok o t B' f to e s x).2 i y z).2.1.1 hh b))
              (by rw [laidA_size, hnewlen]; have : (len + ys.length) * szT P e ≤ cap * szT P e := Nat.mul_le_mul_right _ hroom; omega)
              (fun o y hy => by
                rw [laidA_get vs.toList arr _ o hsz2] at hy
                split at hy
                · exact c2 y (List.mem_of_getElem? hy)
                · exact a6 o y hy)
              (fun o y r hy hr => by
                rcases hrep o y r hy hr with ⟨q, q1, q2, rfl⟩ | z
                · exact (a7 o y r q1 q2).mono k2
                · exact (z.mono (Ext.of_fz w C)).mono k2)
              (fun m tt l hm hht o y r hy hr => by
                rcases hrep o y r hy hr with ⟨q, q1, q2, rfl⟩ | z
                · exact (a8 m tt l hm (Or.inl hht) o y r q1 q2).mono (k2.cut m tt l)
                · exact (z.mono (Ext.fz_cut w C m tt l)).mono (k2.cut m tt l))
            have hlenB : (st.setBlk hh b []).len hh = st.len hh := len_upB st hh b _ hh
            rw [hlenB] at g1 g2
            refine ⟨_, _, _, hroomRun _ hrun' hroom, g1, k2.trans g2, ?_⟩
            exact .rs (by simp [Ctx.lay]) hroom hshape (by rw [laidA_size]; exact h4)
          · -- a new object
            obtain ⟨hD1, hD2⟩ := H.heap (w' := w.drew) rfl rfl rfl rfl
            obtain ⟨_, vs', hvs', hvsz', hvr'⟩ := run_all (P := P) hD1 hq b3 (hx.mono hD2)
            obtain ⟨d1, d2, d3⟩ := cells_of_first b3 (Nat.le_refl _) hvsz' fun i e j p _ he hp => hvr' i e j p he hp
            rw [List.take_of_length_le (Nat.le_refl _)] at d1 d3
            have hget : ∀ k, k < len * szT P e → ∃ y, arr[k]? = some y := fun k hk => ⟨_, Array.getElem?_eq_getElem (show k < arr.size by omega)⟩
            have hos : (Builtin.firstCells (szT P e) len (.slice (some ⟨B, 0, none⟩) len cap)).run P w.drew = .ok ((List.range (len * szT P e)).map fun k => arr[k]?.getD .nilFunc).toArray w.drew := by
              simp only [Builtin.firstCells]
              refine run_loadCells w.drew _ _ _ fun k hk => ?_
              obtain ⟨y, hy⟩ := hget k hk
              rw [add_mk, Nat.zero_add]
              simp only [World.cell?]
              have : w.drew.heap[B]? = some (.cells arr elem fr) := h3
              rw [this]
              simp [hy]
            have hosg : ∀ k, k < len * szT P e → (((List.range (len * szT P e)).map fun k => arr[k]?.getD .nilFunc).toArray)[k]? = arr[k]? := by
              intro k hk
              obtain ⟨y, hy⟩ := hget k hk
              rw [List.getElem?_toArray, List.getElem?_map, List.getElem?_range hk, hy]
              simp [hy]
            obtain ⟨newCap, arr2, n1, n2, n3, n4, n5, n6⟩ := run_grow C (ty := ty) hu hu2 hd b1 hby hzt (by omega) hlen hos hvs' (by simp) hvsz' (fun v hv => by
              obtain ⟨k, hk⟩ := List.mem_iff_getElem?.1 hv
              rw [Array.getElem?_toList] at hk
              have hlt : k < len * szT P e := by have := (Array.getElem?_eq_some_iff.1 hk).1; simpa using this
              rw [hosg k hlt] at hk
              exact a6 k v hk) d2
            have k1 := hD1.shut hold
            have hlenB : (st.setBlk hh b []).len hh = st.len hh := len_upB st hh b _ hh
            have hrep : ∀ (o : Nat) (y : Value) (r : PV), arr2[o]? = some y → (old.take (len * szT P e) ++ flat ys)[o]? = some r → (arr[o]? = some y ∧ old[o]? = some r) ∨ Rep w.drew C.fz y r := by
              intro o y r hy hr
              rw [List.getElem?_append, htl] at hr
              split at hr
              · rename_i hlt
                rw [n5 o hlt, hosg o hlt] at hy
                rw [List.getElem?_take, if_pos hlt] at hr
                exact Or.inl ⟨hy, hr⟩
              · rename_i hge
                have hlt : o - len * szT P e < (flat ys).length := (List.getElem?_eq_some_iff.1 hr).1
                have h6 := n6 (o - len * szT P e) (by omega)
                rw [show len * szT P e + (o - len * szT P e) = o by omega, hy] at h6
                exact Or.inr (d3 _ y r (by rw [Array.getElem?_toList]; exact h6.symm) hr)
            obtain ⟨g1, g2⟩ := k1.lay hh arr2 e (old.take (len * szT P e) ++ flat ys) (by rw [hnewlen, n2]; exact Nat.mul_le_mul_right _ n1) n4
              (fun o y r hy hr => by
                rcases hrep o y r hy hr with ⟨q1, q2⟩ | z
                · exact (a7 o y r q1 q2).mono hD2
                · exact z.mono (Ext.of_fz _ C))
              (fun m tt l hm hht o y r hy hr => by
                rcases hrep o y r hy hr with ⟨q1, q2⟩ | z
                · exact (a8 m tt l hm (Or.inl hht) o y r q1 q2).mono (hD2.cut m tt l)
                · exact z.mono (Ext.fz_cut _ C m tt l))
            rw [hlenB] at g1 g2
            refine ⟨_, _, _, n3, g1, hD2.trans g2, .rs (arr := arr2) (elem := e) (fr := (0, 0)) (by simp [Ctx.lay]) n1 ?_ (by rw [n2]; omega)⟩
            exact (show (w.heap.push (Obj.cells arr2 e))[w.heap.size]? = some (Obj.cells arr2 e) by simp)
  · cases h

end
end Go.AM
