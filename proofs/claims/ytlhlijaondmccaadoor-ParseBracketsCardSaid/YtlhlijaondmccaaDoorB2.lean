/- Part 2 of the proof of a law of the parser, its names made short by a program. No condition. -/
import Derived.Test.YtlhlijaondmccaaDoorB1
import Derived.RangeFuncIn
import Derived.LoopNIn
import Derived.OrdersIn
import Derived.Scope
set_option linter.all false
set_option maxRecDepth 100000
set_option maxHeartbeats 4000000
open _root_.Array renaming getD_eq_getD_getElem? → aI, getElem?_eq_getElem → aV, getElem?_setIfInBounds_ne → dS, getElem?_toList → gn
open _root_.Bool renaming and_eq_true → ao, false_eq_true → ab, not_false → ba, not_true → bA, true_and → bB
open _root_.List renaming all_eq_true → dG, getElem?_append → fi, getElem?_cons_succ → az, getElem?_drop → gL, getElem?_eq_getElem → dF, getElem?_take → fj, length_append → bM, length_cons → al, length_drop → fY, length_nil → aF, mem_cons_of_mem → bZ, mem_cons_self → bH, mem_of_getElem? → dT
open _root_.Nat renaming add_zero → bz, beq → ai, ble → dr, blt → fJ, eq_of_beq_eq_true → au, le_of_ble_eq_true → dQ, le_refl → aq, mul_le_mul_right → eT, zero_add → bf, zero_le → dq
open _root_.Option renaming bind_assoc → fO, bind_none → bg, bind_some → ag, map_some → aP
open _root_.Or renaming inl → cL, inr → cG
namespace Go.AM
open Go Go.RowKit
section
variable {P : Program} {w : World} {C : Ctx} {st : St} {bs : List (Nat × Nat × Nat)}
theorem iY (H : Sim w C st bs) {sz : Nat} {x : Value} {q : PV} {ys : List (List PV)} (h : cu st q = some ys) (hok : cM sz ys = true) (hx : Rep w C x q) :
 (Builtin.lenOf x).run P w = .ok ys.length w ∧ ∃ vs : Array Value, (Builtin.firstCells sz ys.length x).run P w = .ok vs w ∧ vs.size = ys.length * sz ∧
  ∀ (i : Nat) (e : List PV) (j : Nat) (p : PV), ys[i]? = some e → e[j]? = some p → ∃ y, vs[i * sz + j]? = some y ∧ y.oneCell' = true ∧ Rep w C.fz y p := by
 obtain ⟨h1, h2⟩ := sV (P := P) H h hok hx; obtain ⟨vs, v1, v2, v3⟩ := h2 ys.length (aq _); exact ⟨h1, vs, v1, v2, fun i e j p he hp => v3 i e j p (List.getElem?_eq_some_iff.1 he).1 he hp⟩
theorem nW {sz : Nat} {ys : List (List PV)} {vs : Array Value} (hok : cM sz ys = true) (hs : vs.size = ys.length * sz)
 (hv : ∀ (i : Nat) (e : List PV) (j : Nat) (p : PV), ys[i]? = some e → e[j]? = some p → ∃ y, vs[i * sz + j]? = some y ∧ y.oneCell' = true ∧ Rep w C.fz y p) : ∀ v ∈ vs.toList, v.oneCell' = true :=
 (iB hok (aq _) hs fun i e j p _ he hp => hv i e j p he hp).2.1
theorem mK {x : Value} {es : List (List PV)} {c : Cap} (h : Rep w C x (.sl es c)) : ∃ base cap, x = .slice base es.length cap ∧ es.length ≤ cap ∧ (base = none → es = [] ∧ cap = 0) ∧ (∀ a, base = some a → ∃ B o, a = ⟨B, o, none⟩) ∧ (c = .nil ∨ c = .full → cap = es.length) := by
 cases h with
 | slnil _ => exact ⟨none, 0, rfl, aq _, fun _ => ⟨rfl, rfl⟩, fun _ e => (by cases e), fun _ => rfl⟩
 | sl sz val h1 h2 h3 h4 h5 h6 h7 h8 =>
  subst h1; refine ⟨_, _, rfl, h2, fun e => (by cases e), fun _ e => (by cases e; exact ⟨_, _, rfl⟩), fun e => ?_⟩
  rcases e with rfl | rfl
  · simp [fL] at h8
  · exact h8
theorem uq (H : Sim w C st bs) {st' : St} {x : Value} {es : List (List PV)} {c : Cap} {h : Ow} {t e s : Nat} (hg : qq st st' h t e s)
 (hx : Rep w C x (.sl es c)) (hok : cM s es = true) (hc : (c = .own h t e ∧ st.tok h t = some (e, s)) ∨ ((c = .nil ∨ c = .full) ∧ st.tok h t = none)) :
 ∃ C', Sim w C' st' bs ∧ Ext w C w C' ∧ Rep w C' x (.sl es (.own h t e)) := by
 rcases hc with ⟨rfl, htok⟩ | ⟨hc, htok⟩
 · obtain ⟨B, f, to, htl⟩ := H.iq h t e s htok
   obtain ⟨g1, g2⟩ := H.gC (st' := st') (X := fun _ _ => False) (o := h) (t := t) (B := B) (f := f) (to := to) (e := e) (s := s) hg.blk hg.tok hg.stk hg.tk hg.lp (fun _ _ q => q.elim)
    (fun o a b => ⟨(H.tok h t B f to e s htl).2 o a b, fun q => q⟩)
    (fun h' t' B' f' to' e' s' y q o a b => ⟨fun q => q, fun z => by
     subst z
     rcases H.nR h' t' h t B' f' to' e' s' f to e s y htl with k | k
     · exact absurd k q
     · by_cases o < f
       · exact cL ‹_›
       · exact cG (Nat.le_of_not_lt fun z => k o a b (by omega) z)⟩)
    (fun B' f' to' e' s' y => by rw [htl] at y; cases y; exact ⟨rfl, aq _, fun _ => ⟨rfl, rfl, rfl⟩⟩)
   exact ⟨_, g1, g2, hx.mono g2⟩
 · have hno : C.tl h t = none := by
    cases q : C.tl h t with
    | none => rfl
    | some y =>
     obtain ⟨B, f, to, e', s'⟩ := y; have := (H.tok h t B f to e' s' q).1; rw [htok] at this; cases this
   obtain ⟨g1, g2⟩ := H.gC (st' := st') (X := fun _ _ => False) (o := h) (t := t) (B := 0) (f := 0) (to := 0) (e := e) (s := s) hg.blk hg.tok hg.stk hg.tk hg.lp (fun _ _ q => q.elim)
    (fun o a b => by omega)
    (fun h' t' B' f' to' e' s' y q o a b => ⟨fun q => q, fun _ => cG (by omega)⟩)
    (fun B' f' to' e' s' y => by rw [hno] at y; cases y)
   refine ⟨_, g1, g2, ?_⟩
   cases hx with
   | slnil hn => exact .slnil ⟨0, 0, 0, e, s, by simp [Ctx.gC], aq _⟩
   | @sl _ _ B o len cap _ sz val h1 h2 h3 h4 h5 h6 h7 h8 =>
    have hcl : cap = len := by
     rcases hc with rfl | rfl
     · simp [fL] at h8
     · exact h8
    have hrep : Rep w C (.slice (some ⟨B, o, none⟩) len cap) (.sl es c) := .sl sz val h1 h2 h3 h4 h5 h6 h7 h8
    cases es with
    | nil =>
     refine .sl s (fun _ _ => .nilFunc) h1 h2 (by simp) (by simp) (by simp) (by simp) (by simp) ?_; exact ⟨0, 0, 0, e, s, by simp [Ctx.gC], aq _, fun _ => ⟨rfl, cL hcl⟩⟩
    | cons e0 es =>
     have hs : sz = s := by rw [← h3 0 e0 rfl]; exact fq hok (i := 0) rfl
     have hm := hrep.mono g2
     cases hm with
     | sl sz' val' k1 k2 k3 k4 k5 k6 k7 k8 =>
      have hs' : sz' = s := by rw [← k3 0 e0 rfl]; exact fq hok (i := 0) rfl
      refine .sl sz' val' k1 k2 k3 k4 k5 k6 k7 ?_; exact ⟨0, 0, 0, e, s, by simp [Ctx.gC], aq _, fun _ => ⟨hs'.symm, cL hcl⟩⟩
theorem lX {w : World} {B o : Nat} {arr : Array Value} {elem : TypeId} {fr : Nat × Nat} (h : w.heap[B]? = some (.cells arr elem fr)) (hn : iu fr o) : w.frozen? ⟨B, o, none⟩ = false := by
 simp only [World.frozen?, h]; simp only [iu] at hn
 cases hq : (decide (fr.1 ≤ o) && decide (o < fr.2)) with
 | false => rfl
 | true => simp at hq; exact absurd hq hn
theorem uo (H : Sim w C st bs) {st' : St} {B o cap sz : Nat} {es ys : List (List PV)} {h : Ow} {t e : Nat} {vs : Array Value} (hg : qq st st' h t (e + ys.length) sz)
 (hx : Rep w C (.slice (some ⟨B, o, none⟩) es.length cap) (.sl es (.own h t e))) (htok : st.tok h t = some (e, sz)) (hok1 : cM sz es = true) (hok2 : cM sz ys = true) (hpos : ys.length ≠ 0) (hroom : es.length + ys.length ≤ cap)
 (hvs : vs.size = ys.length * sz) (hnew : ∀ (i : Nat) (e : List PV) (j : Nat) (p : PV), ys[i]? = some e → e[j]? = some p → ∃ y, vs[i * sz + j]? = some y ∧ y.oneCell' = true ∧ Rep w C.fz y p) (hone : ∀ v ∈ vs.toList, v.oneCell' = true) :
 ∃ w' C', (storeCells ((⟨B, o, none⟩ : Addr).add (es.length * sz)) vs.toList).run P w = .ok () w' ∧ Sim w' C' st' bs ∧ Ext w C w' C' ∧ Rep w' C' (.slice (some ⟨B, o, none⟩) (es.length + ys.length) cap) (.sl (es ++ ys) (.own h t (e + ys.length))) := by
 obtain ⟨B0, f0, to0, htl⟩ := H.iq h t e sz htok
 cases hx with
 | sl sz' val h1 h2 h3 h4 h5 h6 h7 h8 =>
  obtain ⟨B1, f1, to1, e1, s1, g1, g2, g3⟩ := h8; rw [htl] at g1; cases g1; obtain ⟨hs, g4⟩ := g3 rfl; subst hs
  rcases g4 with g4 | ⟨o', g5, g6, g7⟩
  · omega
  · injection g5 with g5; injection g5 with g8 g9; subst g8; subst g9
    have hmul : (es.length + ys.length) * sz = es.length * sz + ys.length * sz := Nat.add_mul _ _ _; have hle : (es.length + ys.length) * sz ≤ cap * sz := eT _ hroom; have hsp := (H.tok h t B f0 to0 e sz htl).2
    have hsp' : ∀ i, o + es.length * sz ≤ i → i < o + es.length * sz + vs.toList.length → spare w C B i := by
     intro i a b; refine hsp i (by omega) ?_
     have : vs.toList.length = ys.length * sz := by simpa using hvs
     omega
    obtain ⟨k1, k2⟩ := H.Br (B := B) (off := o + es.length * sz) (vs := vs.toList) (fun i a b => (hsp' i a b).1) (fun hne => by
     have hl : 0 < vs.toList.length := List.length_pos_iff.2 hne
     exact (hsp' (o + es.length * sz) (aq _) (by omega)).2.1)
    have hrun := run_storeCells_cells (P := P) B (o + es.length * sz) vs.toList 0 w (fun j hj => by
     obtain ⟨_, _, arr, elem, fr, q1, q2, q3⟩ := hsp' (o + es.length * sz + 0 + j) (by omega) (by omega); simp only [World.cell?, q1]
     simpa using q2) (fun j hj => by
     obtain ⟨_, _, arr, elem, fr, q1, q2, q3⟩ := hsp' (o + es.length * sz + 0 + j) (by omega) (by omega)
     exact lX q1 q3) hone
    obtain ⟨m1, m2⟩ := k1.gC (st' := st') (X := fun B' i => B' = B ∧ o + es.length * sz ≤ i ∧ i < o + es.length * sz + ys.length * sz) (o := h) (t := t) (B := B) (f := f0 + ys.length * sz) (to := to0) (e := e + ys.length) (s := sz)
     hg.blk hg.tok hg.stk hg.tk hg.lp
     (by
      rintro B' i ⟨rfl, a, b⟩
      have := hsp i (by omega) (by omega); refine ⟨?_, fun a b cs q _ => absurd q (this.2.1.1 a b)⟩; obtain ⟨_, _, arr, elem, fr, q1, _⟩ := this; rw [setCells_size]
      exact (Array.getElem?_eq_some_iff.1 q1).1)
     (fun i a b => ⟨pQ (hsp i (by omega) b), fun q => by omega⟩)
     (fun h' t' B' f' to' e' s' y q i a b => by
      have hdis : B' = B → i < f0 ∨ to0 ≤ i := fun z => by
       subst z
       rcases H.nR h' t' h t B' f' to' e' s' f0 to0 e sz y htl with k | k
       · exact absurd k q
       · by_cases i < f0
         · exact cL ‹_›
         · exact cG (Nat.le_of_not_lt fun z => k i a b (by omega) z)
      refine ⟨fun z => ?_, fun z => ?_⟩
      · have := hdis z.1
        omega
      · have := hdis z
        omega)
     (fun B' f' to' e' s' y => by rw [htl] at y; cases y; exact ⟨rfl, by omega, fun q => by omega⟩)
    have hext := k2.trans m2; refine ⟨_, _, ?_, m1, hext, ?_⟩
    · rw [jn]
      exact hrun
    · -- what is read now
      have hval : ∀ k, k < (es.length + ys.length) * sz → ∃ v, (w.setCells B (o + es.length * sz) vs.toList).cell? ⟨B, o + k, none⟩ = some v ∧
       (k < es.length * sz → w.cell? ⟨B, o + k, none⟩ = some v) ∧ (es.length * sz ≤ k → vs[k - es.length * sz]? = some v) := by
       intro k hk
       by_cases q : k < es.length * sz
       · have hszp : 0 < sz := by
          rcases Nat.eq_zero_or_pos sz with z | z
          · subst z; simp at q
          · exact z
         have hi : k / sz < es.length := by rw [Nat.div_lt_iff_lt_mul hszp]; exact q
         have he : es[k / sz]? = some (es[k / sz]'hi) := dF hi; have hel := fq hok1 he; have hj : k % sz < sz := Nat.mod_lt _ hszp; have hp : (es[k / sz]'hi)[k % sz]? = some ((es[k / sz]'hi)[k % sz]'(by omega)) := dF (by omega)
         have hd : o + k / sz * sz + k % sz = o + k := by
          have := Nat.div_add_mod k sz; rw [Nat.mul_comm] at this; omega
         have hc := h5 _ _ _ _ he hp; have hS := h4 _ _ _ _ he hp; rw [hd] at hc hS; exact ⟨_, (k2.cell B _ hS).trans hc, fun _ => hc, fun z => by omega⟩
       · have hk' : k - es.length * sz < vs.size := by omega
         refine ⟨vs[k - es.length * sz]'hk', ?_, fun z => absurd z q, fun _ => aV hk'⟩; obtain ⟨_, _, arr, elem, fr, q1, q2, q3⟩ := hsp' (o + k) (by omega) (by simp; omega); simp only [World.cell?]; rw [fU, if_pos rfl, q1]
         have hsz2 : o + es.length * sz + vs.toList.length ≤ arr.size := by
          rcases Nat.eq_zero_or_pos vs.toList.length with z | z
          · rw [z]; simp at z; omega
          · obtain ⟨_, _, arr', elem', fr', r1, r2, r3⟩ := hsp' (o + es.length * sz + (vs.toList.length - 1)) (by omega) (by omega)
            rw [q1] at r1; cases r1; omega
         simp only [Option.isSome_none, ab, if_false]; rw [gF vs.toList arr _ (o + k) hsz2, if_pos (by simp; omega)]; rw [gn, show o + k - (o + es.length * sz) = k - es.length * sz by omega]; exact aV hk'
      have hch : ∃ f : Nat → Value, ∀ k, k < (es.length + ys.length) * sz → (w.setCells B (o + es.length * sz) vs.toList).cell? ⟨B, o + k, none⟩ = some (f k) ∧
       (k < es.length * sz → w.cell? ⟨B, o + k, none⟩ = some (f k)) ∧ (es.length * sz ≤ k → vs[k - es.length * sz]? = some (f k)) := by
       refine ⟨fun k => if hk : k < (es.length + ys.length) * sz then (hval k hk).choose else .nilFunc, fun k hk => ?_⟩; simp only [dif_pos hk]; exact (hval k hk).choose_spec
      obtain ⟨f, hf⟩ := hch
      have hidx : ∀ {n i j : Nat}, i < n → j < sz → i * sz + j < n * sz := by
       intro n i j hi hj; have : (i + 1) * sz ≤ n * sz := eT _ hi; rw [Nat.succ_mul] at this; omega
      refine rI (f := f) hok1 hok2 hroom (fun k hk => ?_) (fun k hk => (hf k hk).1) (fun i e j p he hp => ?_) (fun i e j p he hp => ?_) ?_
      · by_cases q : k < es.length * sz
        · left
          have hszp : 0 < sz := by
           rcases Nat.eq_zero_or_pos sz with z | z
           · subst z; simp at q
           · exact z
          have hi : k / sz < es.length := by rw [Nat.div_lt_iff_lt_mul hszp]; exact q
          have he : es[k / sz]? = some (es[k / sz]'hi) := dF hi; have hel := fq hok1 he; have hj : k % sz < sz := Nat.mod_lt _ hszp; have hp : (es[k / sz]'hi)[k % sz]? = some ((es[k / sz]'hi)[k % sz]'(by omega)) := dF (by omega); have hS := h4 _ _ _ _ he hp
          have hd : o + k / sz * sz + k % sz = o + k := by
           have := Nat.div_add_mod k sz; rw [Nat.mul_comm] at this; omega
          rw [hd] at hS; exact hS
        · right
          exact ⟨rfl, by omega, by omega⟩
      · have hi := (List.getElem?_eq_some_iff.1 he).1
        have hj := (List.getElem?_eq_some_iff.1 hp).1; rw [fq hok1 he] at hj; have hk := hidx hi hj; have h9 := (hf (i * sz + j) (by omega)).2.1 hk; have hc := h5 _ _ _ _ he hp; rw [Nat.add_assoc] at hc; rw [hc] at h9; obtain h9 := Option.some.inj h9; rw [← h9]; exact ⟨h6 _ _ _ _ he hp, (h7 _ _ _ _ he hp).mono hext.fz⟩
      · have hi := (List.getElem?_eq_some_iff.1 he).1
        have hj := (List.getElem?_eq_some_iff.1 hp).1; rw [fq hok2 he] at hj; have hk := hidx hi hj; have h9 := (hf (es.length * sz + (i * sz + j)) (by omega)).2.2 (by omega); rw [show es.length * sz + (i * sz + j) - es.length * sz = i * sz + j by omega] at h9; obtain ⟨y, y1, y2, y3⟩ := hnew i e j p he hp; rw [y1] at h9; obtain rfl := Option.some.inj h9; exact ⟨y2, y3.mono hext.fz⟩
      · exact ⟨B, f0 + ys.length * sz, to0, e + ys.length, sz, by simp [Ctx.gC], aq _, fun _ => ⟨rfl, cG ⟨o, rfl, by omega, by omega⟩⟩⟩
theorem yI (H : Sim w C st bs) {t u ty e : TypeId} {d : TypeDesc} (hu : P.underlying t = some (.slice e)) (hu2 : P.underlying u = some d) (hd : ∀ k, d ≠ .int k) {s x : Value} {p q : PV} {ys : List (List PV)} {r : PV × St}
 (hq : cu st q = some ys) (h : mV (szT P e) (byT P e) p ys st = some r) (hs : Rep w C s p) (hx : Rep w C x q) :
 Lays P w C bs (Builtin.append_ #[t, u] ty #[s, x]) r.1 r.2 := by
 unfold mV at h; split at h
 · rename_i es c
   cases hb : dr ((es.length + ys.length) * byT P e) dz && cM (szT P e) es && cM (szT P e) ys && !ai (szT P e) 0 && !ai (byT P e) 0 with
   | false => rw [hb] at h; simp at h
   | true =>
    rw [hb] at h; simp only [cond_true] at h; simp only [ao] at hb; obtain ⟨⟨⟨⟨b1, b2⟩, b3⟩, b4⟩, b5⟩ := hb; have b1 := dQ b1
    have hby : byT P e ≠ 0 := by intro z; rw [z] at b5; simp at b5
    obtain ⟨ie, z, hie, hz, hzs, hbe⟩ := ov hby; have hsz : szT P e = ie.size := kQ hie
    have key : ∃ a t' e' , r = (.sl (es ++ ys) (.own a t' (e' + ys.length)), r.2) ∧ qq st r.2 a t' (e' + ys.length) (szT P e) ∧
     ((c = .own a t' e' ∧ st.tok a t' = some (e', szT P e)) ∨ ((c = .nil ∨ c = .full) ∧ st.tok a t' = none)) := by
     cases c with
     | dead => cases h
     | own a t' e' =>
      simp only at h; split at h
      · rename_i y hy
        cases hq2 : ai y.1 e' && ai y.2 (szT P e) with
        | false => rw [hq2] at h; simp at h
        | true =>
         rw [hq2] at h; obtain rfl := Option.some.inj h; rw [ao] at hq2; have q1 := au hq2.1; have q2 := au hq2.2; refine ⟨a, t', e', rfl, uL hy, cL ⟨rfl, ?_⟩⟩; rw [hy, ← q1, ← q2]
      · cases h
     | nil =>
      obtain rfl := Option.some.inj h; exact ⟨.fr, st.tk.length, es.length, rfl, sF, cG ⟨cL rfl, by simp [St.tok]⟩⟩
     | full =>
      obtain rfl := Option.some.inj h; exact ⟨.fr, st.tk.length, es.length, rfl, sF, cG ⟨cG rfl, by simp [St.tok]⟩⟩
    obtain ⟨a, t', e', hr, hg, hc⟩ := key; rw [hr]; clear hr h; simp only; generalize r.2 = st' at hg ⊢; obtain ⟨base, cap, rfl, hlc, hnone, hsome, hfull⟩ := mK hs; obtain ⟨hlen, vs, hvs, hvsz, hvr⟩ := iY (P := P) H hq b3 hx; obtain ⟨_, os, hos, hosz, hor⟩ := iY (P := P) (q := .sl es c) H rfl b2 hs; have hone := nW b3 hvsz hvr; rw [hsz] at hvs hos
    by_cases hn0 : ys.length = 0
    · -- nothing is appended
      have hys : ys = [] := List.length_eq_zero_iff.1 hn0; subst hys; have hv0 : vs.toList = [] := List.length_eq_zero_iff.1 (by simp [hvsz]); obtain ⟨C', k1, k2, k3⟩ := uq (st' := st') (h := a) (t := t') (e := e') (s := szT P e) H (by simpa using hg) hs b2 hc; refine ⟨_, w, C', run_append_room hu hu2 hd hie hlen (by simpa using hlc) hvs w ?_, k1, k2, by simpa using k3⟩; rw [hv0]
      cases base <;> rfl
    · by_cases hroom : es.length + ys.length ≤ cap
      · -- into the room
        rcases hc with ⟨rfl, htok⟩ | ⟨hc, _⟩
        · cases base with
          | none => have := (hnone rfl).2; omega
          | some ad =>
           obtain ⟨B, o, rfl⟩ := hsome ad rfl; obtain ⟨w', C', k0, k1, k2, k3⟩ := uo (P := P) H hg hs htok b2 b3 hn0 hroom hvsz hvr hone; refine ⟨_, w', C', run_append_room hu hu2 hd hie hlen hroom hvs w' ?_, k1, k2, k3⟩; rw [hsz] at k0; exact k0
        · have := hfull hc
          omega
      · -- a new row
        have hbytes : (es.length + ys.length) * ie.bytes ≤ 140737488355328 := by rw [← hbe]; exact b1
        obtain ⟨hD1, hD2⟩ := H.heap (w' := w.drew) rfl rfl rfl rfl; obtain ⟨_, vs, hvs, hvsz, hvr⟩ := iY (P := P) hD1 hq b3 (hx.mono hD2); obtain ⟨_, os, hos, hosz, hor⟩ := iY (P := P) (q := .sl es c) hD1 rfl b2 (hs.mono hD2); rw [hsz] at hvs hos; obtain ⟨newCap, n1, n2⟩ := run_append_grow (ty := ty) hu hu2 hd hie hz (by rw [← hbe]; exact hby) hlen (by omega) hbytes hos hvs; have hmul : (es.length + ys.length) * szT P e = es.length * szT P e + ys.length * szT P e := Nat.add_mul _ _ _
        have harr : (os ++ vs ++ Builtin.zeroCells z.cells (newCap - (es.length + ys.length))).size = newCap * szT P e := by
         simp only [Array.size_append, hosz, hvsz, Builtin.zeroCells, Array.size_map, Array.size_range, hzs]; rw [Nat.sub_mul, hmul]; have : (es.length + ys.length) * szT P e ≤ newCap * szT P e := eT _ n1; omega
        obtain ⟨C', k1, k2, k3, k4⟩ := grown (elem := e) (bw := es.length + ys.length) (cap := newCap) hD1 _ hg rfl harr n1 (by
         intro B' f' to' e2 s' y
         rcases hc with ⟨rfl, htok⟩ | ⟨_, htok⟩
         · have := (H.tok a t' B' f' to' e2 s' y).1
           rw [htok] at this; cases this; exact ⟨rfl, by omega⟩
         · have := (H.tok a t' B' f' to' e2 s' y).1
           rw [htok] at this
           cases this)
        have hext := hD2.trans k2; refine ⟨_, _, C', n2, k1, hext, ?_⟩; have hsize : w.drew.heap.size = w.heap.size := rfl; rw [hsize] at k3 k4; refine rI (f := fun k => (os ++ vs ++ Builtin.zeroCells z.cells (newCap - (es.length + ys.length)))[k]?.getD .nilFunc) b2 b3 n1 (fun k hk => by rw [bf]; exact k3 k hk) (fun k hk => ?_) (fun i e0 j p he hp => ?_) (fun i e0 j p he hp => ?_) k4
        · have hlt : k < (os ++ vs ++ Builtin.zeroCells z.cells (newCap - (es.length + ys.length))).size := by
           rw [harr]; have : (es.length + ys.length) * szT P e ≤ newCap * szT P e := eT _ n1; omega
          rw [bf]; have := World.cell?_alloc_new w.drew (os ++ vs ++ Builtin.zeroCells z.cells (newCap - (es.length + ys.length))) e k; rw [hsize] at this; rw [show (World.cell? (w.drew.alloc (Obj.cells (os ++ vs ++ Builtin.zeroCells z.cells (newCap - (es.length + ys.length))) e)) ⟨w.heap.size, k, none⟩) = _ from this, aV hlt]
          rfl
        · obtain ⟨y, y1, y2, y3⟩ := hor i e0 j p he hp
          have hk := (Array.getElem?_eq_some_iff.1 y1).1
          have : (os ++ vs ++ Builtin.zeroCells z.cells (newCap - (es.length + ys.length)))[i * szT P e + j]? = some y := by
           rw [Array.getElem?_append_left (by rw [Array.size_append]; omega), Array.getElem?_append_left hk]; exact y1
          simp only [this, Option.getD_some]; exact ⟨y2, y3.mono k2.fz⟩
        · obtain ⟨y, y1, y2, y3⟩ := hvr i e0 j p he hp
          have hk := (Array.getElem?_eq_some_iff.1 y1).1
          have : (os ++ vs ++ Builtin.zeroCells z.cells (newCap - (es.length + ys.length)))[es.length * szT P e + (i * szT P e + j)]? = some y := by
           rw [Array.getElem?_append_left (by rw [Array.size_append]; omega), Array.getElem?_append_right (by omega)]; rw [show es.length * szT P e + (i * szT P e + j) - os.size = i * szT P e + j by omega]; exact y1
          simp only [this, Option.getD_some]; exact ⟨y2, y3.mono k2.fz⟩
 · cases h
theorem vp (C0 : Ctx) {t u ty e : TypeId} {d : TypeDesc} (hu : P.underlying t = some (.slice e)) (hu2 : P.underlying u = some d) (hd : ∀ k, d ≠ .int k) {x : Value} {n m : Nat} {os vs : Array Value}
 (b1 : (n + m) * byT P e ≤ dz) (hby : byT P e ≠ 0) {zz : List PV} (hzt : lr P e = some zz) {base : Option Addr} {cap : Nat} (hcap : cap < n + m)
 (hlen : (Builtin.lenOf x).run P w = .ok m w) (hos : (Builtin.firstCells (szT P e) n (.slice base n cap)).run P w.drew = .ok os w.drew) (hvs : (Builtin.firstCells (szT P e) m x).run P w.drew = .ok vs w.drew)
 (hosz : os.size = n * szT P e) (hvsz : vs.size = m * szT P e) (oone : ∀ v ∈ os.toList, v.oneCell' = true) (vone : ∀ v ∈ vs.toList, v.oneCell' = true) :
 ∃ (newCap : Nat) (arr : Array Value), n + m ≤ newCap ∧ arr.size = newCap * szT P e ∧
  (Builtin.append_ #[t, u] ty #[.slice base n cap, x]).run P w = .ok (.slice (some ⟨w.heap.size, 0, none⟩) (n + m) newCap) (w.drew.alloc (.cells arr e)) ∧
  (∀ (k : Nat) (y : Value), arr[k]? = some y → y.oneCell' = true) ∧ (∀ k, k < n * szT P e → arr[k]? = os[k]?) ∧ (∀ k, k < m * szT P e → arr[n * szT P e + k]? = vs[k]?) := by
 obtain ⟨ie, z, hie, hz, hzs, hbe⟩ := ov hby; have hsz : szT P e = ie.size := kQ hie; rw [hsz] at hvs hos
 have hbytes : (n + m) * ie.bytes ≤ 140737488355328 := by rw [← hbe]; exact b1
 obtain ⟨newCap, n1, n2⟩ := run_append_grow (ty := ty) hu hu2 hd hie hz (by rw [← hbe]; exact hby) hlen hcap hbytes hos hvs; have hmul : (n + m) * szT P e = n * szT P e + m * szT P e := Nat.add_mul _ _ _
 have harr : (os ++ vs ++ Builtin.zeroCells z.cells (newCap - (n + m))).size = newCap * szT P e := by
  simp only [Array.size_append, hosz, hvsz, Builtin.zeroCells, Array.size_map, Array.size_range, hzs]; rw [Nat.sub_mul, hmul]; have : (n + m) * szT P e ≤ newCap * szT P e := eT _ n1; omega
 have hzone : ∀ y ∈ z.cells, y.oneCell' = true := by
  intro y hy; obtain ⟨it, zv, hi, hzv, hzc⟩ := jj (w := w) (C := C0) hzt
  rw [hie] at hi; cases hi
  rw [hz] at hzv; cases hzv
  obtain ⟨k, hk⟩ := Array.mem_iff_getElem?.1 hy; exact hzc.one k y hk
 refine ⟨newCap, _, n1, harr, n2, fun k y hy => ?_, fun k hk => ?_, fun k hk => ?_⟩
 · rw [Array.getElem?_append] at hy
   split at hy
   · rw [Array.getElem?_append] at hy
     split at hy
     · exact oone y (by simpa using Array.mem_of_getElem? hy)
     · exact vone y (by simpa using Array.mem_of_getElem? hy)
   · have := Array.mem_of_getElem? hy
     simp only [Builtin.zeroCells, Array.mem_map] at this; obtain ⟨k', hk', rfl⟩ := this; have hk := Array.mem_range.1 hk'
     have hzp : 0 < z.cells.size := by
      rcases Nat.eq_zero_or_pos z.cells.size with q | q
      · rw [q] at hk; simp at hk
      · exact q
     have hlt := Nat.mod_lt k' hzp; rw [getElem!_pos z.cells _ hlt]; exact hzone _ (Array.getElem_mem hlt)
 · rw [Array.getElem?_append_left (by rw [Array.size_append]; omega), Array.getElem?_append_left (by omega)]
 · rw [Array.getElem?_append_left (by rw [Array.size_append]; omega), Array.getElem?_append_right (by omega)]
   congr 1
   omega
theorem okB {a b c d e : Bool} (h : (a && b && c && !d && !e) = true) : a = true ∧ b = true ∧ c = true ∧ d = false ∧ e = false := by
 simp only [ao, Bool.not_eq_true'] at h; exact ⟨h.1.1.1.1, h.1.1.1.2, h.1.1.2, h.1.2, h.2⟩
theorem Cn {n : Nat} (h : ai n 0 = false) : n ≠ 0 := Nat.ne_of_beq_eq_false h
theorem vV (H : Sim w C st bs) {hh : Bool} {t u ty e : TypeId} {d : TypeDesc} (hu : P.underlying t = some (.slice e)) (hu2 : P.underlying u = some d) (hd : ∀ k, d ≠ .int k) {s x : Value} {p q : PV} {ys : List (List PV)} {r : PV × St}
 {zz : List PV} (hzt : lr P e = some zz) (hq : cu st q = some ys) (h : qP hh (szT P e) (byT P e) p ys st = some r) (hs : Rep w C s p) (hx : Rep w C x q) : Lays P w C bs (Builtin.append_ #[t, u] ty #[s, x]) r.1 r.2 := by
 unfold qP at h; split at h
 · rename_i es c
   cases hb : dr ((es.length + ys.length) * byT P e) dz && cM (szT P e) es && cM (szT P e) ys && !ai (szT P e) 0 && !ai (byT P e) 0 with
   | false => rw [hb] at h; simp at h
   | true =>
    rw [hb] at h; simp only [cond_true] at h; obtain ⟨b1, b2, b3, b4, b5⟩ := okB hb; have b1 := dQ b1; have hby := Cn b5; have hne := Cn b4; obtain ⟨ie, z, hie, hz, hzs, hbe⟩ := ov hby; obtain ⟨base, cap, rfl, hlc, hnone, hsome, hfull⟩ := mK hs
    have key : (c = .nil ∨ c = .full) ∧ ((ys = [] ∧ r = (.sl es c, st)) ∨ (ys ≠ [] ∧ r = (.rs hh (st.len hh) 0 (es.length + ys.length) (szT P e), st.lay hh (flat (es ++ ys))))) := by
     cases c with
     | dead => cases h
     | own _ _ _ => cases h
     | nil =>
      simp only at h
      cases ys with
      | nil => exact ⟨cL rfl, cL ⟨rfl, (Option.some.inj h).symm⟩⟩
      | cons y ys => exact ⟨cL rfl, cG ⟨by simp, (Option.some.inj h).symm⟩⟩
     | full =>
      simp only at h
      cases ys with
      | nil => exact ⟨cG rfl, cL ⟨rfl, (Option.some.inj h).symm⟩⟩
      | cons y ys => exact ⟨cG rfl, cG ⟨by simp, (Option.some.inj h).symm⟩⟩
    obtain ⟨hc, key⟩ := key; have hcap := hfull hc
    rcases key with ⟨rfl, rfl⟩ | ⟨hys, rfl⟩
    · obtain ⟨hlen, vs, hvs, hvsz, hvr⟩ := iY (P := P) H hq b3 hx
      have hv0 : vs.toList = [] := List.length_eq_zero_iff.1 (by simp [hvsz]); rw [kQ hie] at hvs; refine ⟨_, w, C, run_append_room hu hu2 hd hie hlen (by simp; omega) hvs w ?_, H, Ext.refl w C, by simpa using hs⟩; rw [hv0]
      cases base <;> rfl
    · have hpos : 0 < ys.length := List.length_pos_iff.2 hys
      obtain ⟨hD1, hD2⟩ := H.heap (w' := w.drew) rfl rfl rfl rfl; obtain ⟨hlen0, _⟩ := iY (P := P) H hq b3 hx; obtain ⟨_, vs, hvs, hvsz, hvr⟩ := iY (P := P) hD1 hq b3 (hx.mono hD2); obtain ⟨_, os, hos, hosz, hor⟩ := iY (P := P) (q := .sl es c) hD1 rfl b2 (hs.mono hD2); obtain ⟨newCap, arr, n1, n2, n3, n4, n5, n6⟩ := vp C (ty := ty) hu hu2 hd b1 hby hzt (by omega) hlen0 hos hvs hosz hvsz (nW b2 hosz hor) (nW b3 hvsz hvr)
      have hok : cM (szT P e) (es ++ ys) = true := by
       unfold cM at b2 b3 ⊢
       rw [List.all_append, b2, b3]; rfl
      obtain ⟨f1, f2⟩ := oI hok
      have hrep : ∀ (o : Nat) (y : Value) (r : PV), arr[o]? = some y → (flat (es ++ ys))[o]? = some r → Rep w.drew C.fz y r := by
       intro o y r hy hr; obtain ⟨c', e1, e2⟩ := f2 o r hr
       have ho : o < (es ++ ys).length * szT P e := by rw [← f1]; exact (List.getElem?_eq_some_iff.1 hr).1
       obtain ⟨k0, k1, k2, k3⟩ := na ho; rw [fi] at e1; split at e1
       · rename_i hlt
         obtain ⟨y', y1, _, y2⟩ := hor _ _ _ _ e1 e2; have hlt' := wx hlt k2; rw [n5 o (by omega), ← k3, y1] at hy; obtain rfl := Option.some.inj hy; exact y2
       · rename_i hge
         obtain ⟨y', y1, _, y2⟩ := hvr _ _ _ _ e1 e2; have hi := (List.getElem?_eq_some_iff.1 e1).1; have hlt' := wx hi k2
         have : es.length * szT P e + ((o / szT P e - es.length) * szT P e + o % szT P e) = o := by
          rw [Nat.sub_mul]; have : es.length * szT P e ≤ o / szT P e * szT P e := eT _ (by omega); omega
         have h6 := n6 _ hlt'; rw [this, hy, y1] at h6; obtain rfl := Option.some.inj h6; exact y2
      have hlen : (flat (es ++ ys)).length ≤ arr.size := by
       rw [f1, n2, bM]; exact eT _ n1
      obtain ⟨k1, k2⟩ := hD1.lay hh arr e (flat (es ++ ys)) hlen n4 (fun o y r hy hr => (hrep o y r hy hr).mono (Ext.sL _ C)) fun m t l _ _ o y r hy hr => (hrep o y r hy hr).mono (Ext.wt _ C m t l)
      refine ⟨_, _, _, n3, k1, hD2.trans k2, .rs (arr := arr) (elem := e) (fr := (0, 0)) (by simp [Ctx.lay]) n1 ?_ (by rw [n2]; omega)⟩; exact (show (w.heap.push (Obj.cells arr e))[w.heap.size]? = some (Obj.cells arr e) by simp)
 · cases h
theorem vW (H : Sim w C st bs) (base : Nat) (hbase : ∀ m t l, (m, t, l) ∈ bs → m ≤ base) {t u ty e : TypeId} {d : TypeDesc} (hu : P.underlying t = some (.slice e)) (hu2 : P.underlying u = some d) (hd : ∀ k, d ≠ .int k) {s x : Value} {p q : PV} {ys : List (List PV)} {r : PV × St}
 {zz : List PV} (hzt : lr P e = some zz) (hq : cu st q = some ys) (h : oh base (szT P e) (byT P e) p ys st = some r) (hs : Rep w C s p) (hx : Rep w C x q) : Lays P w C bs (Builtin.append_ #[t, u] ty #[s, x]) r.1 r.2 := by
 unfold oh at h; split at h
 · rename_i hh b off len sz
   cases hb : ai sz (szT P e) && dr ((len + ys.length) * byT P e) dz && cM (szT P e) ys && !ai (szT P e) 0 && !ai (byT P e) 0 with
   | false => rw [hb] at h; simp at h
   | true =>
    rw [hb] at h; simp only [cond_true] at h; obtain ⟨b0, b1, b3, b4, b5⟩ := okB hb; have hszz := au b0; subst hszz; have b1 := dQ b1; have hby := Cn b5; have hne := Cn b4; obtain ⟨ie, z, hie, hz, hzs, hbe⟩ := ov hby; obtain ⟨old, hold, h⟩ := Option.bind_eq_some_iff.1 h; have hs' := hs
    cases hs' with
    | @rs _ _ _ _ _ cap _ B arr elem fr h1 h2 h3 h4 =>
    obtain ⟨B', arr', elem', fr', a1, a2, a3, a4, a5, a6, a7, a8⟩ := H.blk hh b old hold; rw [h1] at a1; obtain rfl := Option.some.inj a1; rw [h3] at a2; cases a2; obtain ⟨hlen, vs, hvs, hvsz, hvr⟩ := iY (P := P) H hq b3 hx
    obtain ⟨c1, c2, c3⟩ := iB b3 (aq _) hvsz fun i e j p _ he hp => hvr i e j p he hp
    rw [List.take_of_length_le (aq _)] at c1 c3; have hfl := (oI b3).1; have hszp : 0 < szT P e := Nat.pos_of_ne_zero hne; have hmul : (len + ys.length) * szT P e = len * szT P e + ys.length * szT P e := Nat.add_mul _ _ _
    have hroomRun : ∀ w', (storeCells ⟨B, off + len * szT P e, none⟩ vs.toList).run P w = .ok () w' → len + ys.length ≤ cap →
     (Builtin.append_ #[t, u] ty #[.slice (some ⟨B, off, none⟩) len cap, x]).run P w = .ok (.slice (some ⟨B, off, none⟩) (len + ys.length) cap) w' := by
     intro w' hw' hroom; have hvs' := hvs; rw [kQ hie] at hvs' hw'; refine run_append_room hu hu2 hd hie hlen hroom hvs' w' ?_; simp only [jn]; exact hw'
    cases hin : dr (off + (len + ys.length) * szT P e) old.length with
    | true =>
     rw [hin] at h; simp only [cond_true] at h; obtain ⟨st', hp, h⟩ := Option.bind_eq_some_iff.1 h; obtain rfl := Option.some.inj h; have hin := dQ hin
     have hroom : len + ys.length ≤ cap := by
      refine Nat.le_of_mul_le_mul_right (c := szT P e) ?_ hszp; omega
     obtain ⟨C', k1, k2, k3⟩ := tX (P := P) H base hbase hp h1 c1 c2 fun i x p hx hp => (c3 i x p hx hp).mono (Ext.sL w C)
     refine ⟨_, _, C', hroomRun _ k1 hroom, k2, k3, ?_⟩; exact .rs (k3.σ _ _ _ h1) hroom (gR w B _ vs.toList h3) (by rw [if_pos rfl, gN]; exact h4)
    | false =>
     rw [hin] at h; simp only [cond_false] at h
     cases hb2 : ai off 0 && dr (len * szT P e) old.length && fJ 0 old.length with
     | false => rw [hb2] at h; simp at h
     | true =>
      rw [hb2] at h; obtain rfl := Option.some.inj h; simp only [ao] at hb2; obtain ⟨⟨o1, o2⟩, o3⟩ := hb2; have o1 := au o1; subst o1; have o2 := dQ o2; rw [Nat.blt_eq] at o3; have hne' : old ≠ [] := List.length_pos_iff.1 o3
      have hin' : ¬ (0 + (len + ys.length) * szT P e ≤ old.length) := fun z => by rw [show dr (0 + (len + ys.length) * szT P e) old.length = true from by rw [Nat.ble_eq]; exact z] at hin; cases hin
      have htl : (old.take (len * szT P e)).length = len * szT P e := by simp; omega
      have hnewlen : (old.take (len * szT P e) ++ flat ys).length = (len + ys.length) * szT P e := by rw [bM, htl, hfl, hmul]
      by_cases hroom : len + ys.length ≤ cap
      · -- into the room behind the block
        have hsz2 : len * szT P e + vs.toList.length ≤ arr.size := by
         have : (len + ys.length) * szT P e ≤ cap * szT P e := eT _ hroom
         have : vs.toList.length = ys.length * szT P e := by simpa using hvsz
         omega
        obtain ⟨k1, k2⟩ := H.put (off := len * szT P e) (vs := vs.toList) (ds := []) h1 hold h3 (dq _) c2 hsz2 (cL hne') (by simp) (by simp)
        have hrun := run_storeCells_cells (P := P) B (len * szT P e) vs.toList 0 w (fun j hj => by
         have hj' : len * szT P e + 0 + j < arr.size := by omega
         simp only [World.cell?, h3]
         simpa using hj') (fun j hj => lX h3 (a4 _)) c2
        have hrun' : (storeCells ⟨B, 0 + len * szT P e, none⟩ vs.toList).run P w = .ok () (w.setCells B (len * szT P e) vs.toList) := by
         rw [bf]; simpa using hrun
        have hshape := gR w B (len * szT P e) vs.toList h3; rw [if_pos rfl] at hshape
        have hblk1 : ∀ h' b', C.σ h' b' = some B → (st.af hh b []).blk h' b' = some [] := by
         intro h' b' hσ'; rw [jK st hh b _ h' b' hold]
         by_cases q : h' = hh ∧ b' = b
         · rw [if_pos q]
         · rw [if_neg q]
           rcases H.inj _ _ _ _ _ hσ' h1 with z | z | z
           · exact absurd z q
           · exact z
           · rw [hold] at z; exact absurd (Option.some.inj z) hne'
        have hrep : ∀ (o : Nat) (y : Value) (r : PV), (iF arr (len * szT P e) vs.toList)[o]? = some y → (old.take (len * szT P e) ++ flat ys)[o]? = some r →
         (∃ q, arr[o]? = some y ∧ old[o]? = some q ∧ r = q) ∨ Rep w C.fz y r := by
         intro o y r hy hr; rw [gF vs.toList arr _ o hsz2] at hy; rw [fi, htl] at hr; split at hr
         · rename_i hlt
           rw [if_neg (by omega)] at hy; rw [fj, if_pos hlt] at hr; exact cL ⟨r, hy, hr, rfl⟩
         · rename_i hge
           have hlt : o - len * szT P e < (flat ys).length := (List.getElem?_eq_some_iff.1 hr).1; rw [if_pos (by omega)] at hy; exact cG (c3 _ y r hy hr)
        obtain ⟨g1, g2⟩ := k1.Dt hh (B := B) (arr := iF arr (len * szT P e) vs.toList) (elem := elem) (fr := fr) (cs := old.take (len * szT P e) ++ flat ys) hshape a4 (a5 hne') (H.low.2.1 _ _ _ h1) hblk1
         (fun o t B' f to e s i x y z hq => by
          subst hq
          exact absurd h1 (((k1.tok o t B' f to e s x).2 i y z).2.1.1 hh b))
         (by rw [gN, hnewlen]; have : (len + ys.length) * szT P e ≤ cap * szT P e := eT _ hroom; omega)
         (fun o y hy => by
          rw [gF vs.toList arr _ o hsz2] at hy; split at hy
          · exact c2 y (dT hy)
          · exact a6 o y hy)
         (fun o y r hy hr => by
          rcases hrep o y r hy hr with ⟨q, q1, q2, rfl⟩ | z
          · exact (a7 o y r q1 q2).mono k2
          · exact (z.mono (Ext.sL w C)).mono k2)
         (fun m tt l hm hht o y r hy hr => by
          rcases hrep o y r hy hr with ⟨q, q1, q2, rfl⟩ | z
          · exact (a8 m tt l hm (cL hht) o y r q1 q2).mono (k2.cut m tt l)
          · exact (z.mono (Ext.wt w C m tt l)).mono (k2.cut m tt l))
        have hlenB : (st.af hh b []).len hh = st.len hh := oL st hh b _ hh; rw [hlenB] at g1 g2; refine ⟨_, _, _, hroomRun _ hrun' hroom, g1, k2.trans g2, ?_⟩; exact .rs (by simp [Ctx.lay]) hroom hshape (by rw [gN]; exact h4)
      · -- a new object
        obtain ⟨hD1, hD2⟩ := H.heap (w' := w.drew) rfl rfl rfl rfl; obtain ⟨_, vs', hvs', hvsz', hvr'⟩ := iY (P := P) hD1 hq b3 (hx.mono hD2)
        obtain ⟨d1, d2, d3⟩ := iB b3 (aq _) hvsz' fun i e j p _ he hp => hvr' i e j p he hp
        rw [List.take_of_length_le (aq _)] at d1 d3
        have hget : ∀ k, k < len * szT P e → ∃ y, arr[k]? = some y := fun k hk => ⟨_, aV (show k < arr.size by omega)⟩
        have hos : (Builtin.firstCells (szT P e) len (.slice (some ⟨B, 0, none⟩) len cap)).run P w.drew = .ok ((List.range (len * szT P e)).map fun k => arr[k]?.getD .nilFunc).toArray w.drew := by
         simp only [Builtin.firstCells]
         refine run_loadCells w.drew _ _ _ fun k hk => ?_
         obtain ⟨y, hy⟩ := hget k hk; rw [jn, bf]; simp only [World.cell?]; have : w.drew.heap[B]? = some (.cells arr elem fr) := h3; rw [this]; simp [hy]
        have hosg : ∀ k, k < len * szT P e → (((List.range (len * szT P e)).map fun k => arr[k]?.getD .nilFunc).toArray)[k]? = arr[k]? := by
         intro k hk; obtain ⟨y, hy⟩ := hget k hk; rw [List.getElem?_toArray, List.getElem?_map, List.getElem?_range hk, hy]; simp [hy]
        obtain ⟨newCap, arr2, n1, n2, n3, n4, n5, n6⟩ := vp C (ty := ty) hu hu2 hd b1 hby hzt (by omega) hlen hos hvs' (by simp) hvsz' (fun v hv => by
         obtain ⟨k, hk⟩ := List.mem_iff_getElem?.1 hv; rw [gn] at hk
         have hlt : k < len * szT P e := by have := (Array.getElem?_eq_some_iff.1 hk).1; simpa using this
         rw [hosg k hlt] at hk
         exact a6 k v hk) d2
        have k1 := hD1.shut hold; have hlenB : (st.af hh b []).len hh = st.len hh := oL st hh b _ hh
        have hrep : ∀ (o : Nat) (y : Value) (r : PV), arr2[o]? = some y → (old.take (len * szT P e) ++ flat ys)[o]? = some r → (arr[o]? = some y ∧ old[o]? = some r) ∨ Rep w.drew C.fz y r := by
         intro o y r hy hr; rw [fi, htl] at hr; split at hr
         · rename_i hlt
           rw [n5 o hlt, hosg o hlt] at hy; rw [fj, if_pos hlt] at hr; exact cL ⟨hy, hr⟩
         · rename_i hge
           have hlt : o - len * szT P e < (flat ys).length := (List.getElem?_eq_some_iff.1 hr).1; have h6 := n6 (o - len * szT P e) (by omega); rw [show len * szT P e + (o - len * szT P e) = o by omega, hy] at h6; exact cG (d3 _ y r (by rw [gn]; exact h6.symm) hr)
        obtain ⟨g1, g2⟩ := k1.lay hh arr2 e (old.take (len * szT P e) ++ flat ys) (by rw [hnewlen, n2]; exact eT _ n1) n4
         (fun o y r hy hr => by
          rcases hrep o y r hy hr with ⟨q1, q2⟩ | z
          · exact (a7 o y r q1 q2).mono hD2
          · exact z.mono (Ext.sL _ C))
         (fun m tt l hm hht o y r hy hr => by
          rcases hrep o y r hy hr with ⟨q1, q2⟩ | z
          · exact (a8 m tt l hm (cL hht) o y r q1 q2).mono (hD2.cut m tt l)
          · exact z.mono (Ext.wt _ C m tt l))
        rw [hlenB] at g1 g2; refine ⟨_, _, _, n3, g1, hD2.trans g2, .rs (arr := arr2) (elem := e) (fr := (0, 0)) (by simp [Ctx.lay]) n1 ?_ (by rw [n2]; omega)⟩; exact (show (w.heap.push (Obj.cells arr2 e))[w.heap.size]? = some (Obj.cells arr2 e) by simp)
 · cases h
end
open Go
def fen (rd : Option Nat) : Fence := { Fence.wide with round := rd }
theorem AA (rd : Option Nat) (n : Nat) : (fen rd).room n := fun _ h => by simp [fen, Fence.wide] at h
theorem mn {rd : Option Nat} {n : Nat} {P : Program} {f : FuncId} {args : Array Value} {w : World} {R : Ending → World → Prop} (h : Calls P f args w R) : CallsIn (fen rd) n P f args w R := by
 have := callsIn_wide (n := n).2 h; exact this
theorem qe {rd : Option Nat} {n : Nat} {P : Program} {f : FuncId} {args : Array Value} {w : World} {R : Ending → World → Prop} (h : CallsIn (fen rd) n P f args w R) : Calls P f args w R := by
 have : CallsIn Fence.wide n P f args w R := h; exact callsIn_wide.1 this
theorem vo {rd rd' : Option Nat} {n n' : Nat} {P : Program} {l : Nat} {f : FuncId} {tmps : Array Value} {assign body : Code} {w : World} {R : Ending → World → Prop} (h : RoundIn (fen rd) n P l f tmps assign body w R) : RoundIn (fen rd') n' P l f tmps assign body w R :=
 ⟨trivial, fun c cs _ => h.2 c cs (AA _ _)⟩
def gM : PV → Bool
 | .pan _ _ => true
 | _ => false
def Ends (w : World) (C : Ctx) (p : PV) (e : Ending) : Prop := match p with
 | .pan t x => e = .panicked [{ v := .iface t x, recovered := false }]
 | p => ∃ v, e = .returned v ∧ Rep w C v p
theorem Ends.ret {w : World} {C : Ctx} {p : PV} {e : Ending} (h : Ends w C p e) (hp : gM p = false) : ∃ v, e = .returned v ∧ Rep w C v p := by
 cases p <;> first | exact h | (simp [gM] at hp)
theorem Ends.of {w : World} {C : Ctx} {p : PV} {v : Value} (h : Rep w C v p) : Ends w C p (.returned v) := by
 cases p <;> first | exact ⟨v, rfl, h⟩ | (cases h)
def qt (r : PV × St) (bs : List (Nat × Nat × Nat)) (w : World) (C : Ctx) : Ending → World → Prop :=
 fun e w' => ∃ C', Sim w' C' r.2 bs ∧ Ext w C w' C' ∧ Ends w' C' r.1 e
def Good (gv : GV) (pn : List FuncId) (P : Program) (call : bF) : Prop := ∀ g args st r, call g args st = some r → match g with
 | .func f => (pn.any (ai f) = false → gM r.1 = false) ∧ (∃ fn, P.funcs[f]? = some fn ∧ (fn.name == "runtime.NumGoroutine") = false ∧ fn.body.isNone = false) ∧
  ∀ w C bs (xs : Array Value), mc gv w C → Sim w C st bs → xs.size = args.length → (∀ (i : Nat) (x : Value) (p : PV), xs[i]? = some x → args[i]? = some p → Rep w C x p) → Calls P f xs w (qt r bs w C)
 | .yield i => gM r.1 = false ∧ ∀ w C bs (xs : Array Value) B, C.lp i = some B → mc gv w C → Sim w C st bs → xs.size = args.length → (∀ (i : Nat) (x : Value) (p : PV), xs[i]? = some x → args[i]? = some p → Rep w C x p) →
  ∃ fn tmps assign body, (Instr.yield B xs).run P w = .ok (.round B fn tmps assign body) w ∧ RoundIn (fen none) 0 P B fn tmps assign body w (qt r bs w C)
 | _ => False
theorem Bb {R : Type} {q : PV × St} {K : PV → St → Option R} {N : TypeId → Value → St → Option R} (h : gM q.1 = false) : aL q K N = K q.1 q.2 := by
 obtain ⟨p, s⟩ := q
 cases p <;> first | rfl | (simp [gM] at h)
theorem lI {R : Type} {q : PV × St} {K : PV → St → Option R} {r : R} (h : dP q K = some r) : gM q.1 = false ∧ K q.1 q.2 = some r := by
 obtain ⟨p, s⟩ := q
 cases p <;> first | exact ⟨rfl, h⟩ | (cases h)
section
variable {gv : GV} {Cf : Cfg} {rd : Option Nat} {lo : Nat} {w : World} {C : Ctx} {st : St} {bs : List (Nat × Nat × Nat)} {o : Oper} {e : Env} {a : Act} {next : Act → World → Prop} {Q : Exit → Act → World → Prop}
theorem lq {P : Program} {w' : World} {v : Value} (hnd : ∀ c, o.op ≠ .defer c) (h : (execOp a.eval o).run P w = .ok (.value v) w') (hn : next (a.put o.dst v) w') : o.wpIn (fen rd) 0 P a w next Q := by
 refine ⟨fun _ _ => trivial, ?_⟩; rw [Oper.semAt_eq _ _ _ hnd, h]; exact hn
theorem w6 {P : Program} {w' : World} (hnd : ∀ c, o.op ≠ .defer c) (h : (execOp a.eval o).run P w = .ok .skip w') (hn : next (a.put o.dst undef) w') : o.wpIn (fen rd) 0 P a w next Q := by
 refine ⟨fun _ _ => trivial, ?_⟩; rw [Oper.semAt_eq _ _ _ hnd, h]; exact hn
theorem yk {P : Program} {s : Sem Value} {v : Value} {w' : World} (h : s.run P w = .ok v w') : (do pure (Next.value (← s)) : Sem Next).run P w = .ok (.value v) w' := by
 simp [h]
theorem eG {R : Type} {x : Option PV} {K : PV → Option R} {r : R} (h : x.bind K = some r) : ∃ p, x = some p ∧ K p = some r := Option.bind_eq_some_iff.1 h
theorem sP {ps : Array (Nat × Operand)} (hE : dU gv Cf.gl lo w C e Cf.n a) : (ps.map fun (i, x) => (i, a.eval x)).size = (ps.toList.map fun p => (p.1, dK Cf.gl e p.2)).length ∧
 ∀ (i : Nat) (v : Nat × Value) (q : Nat × PV), (ps.map fun (i, x) => (i, a.eval x))[i]? = some v → (ps.toList.map fun p => (p.1, dK Cf.gl e p.2))[i]? = some q → v.1 = q.1 ∧ Rep w C v.2 q.2 := by
 refine ⟨by simp, fun i v q hv hq => ?_⟩; rw [Array.getElem?_map] at hv; obtain ⟨y, hy, rfl⟩ := Option.map_eq_some_iff.1 hv; obtain ⟨z, hz, rfl⟩ := cw hq; rw [gn, hy] at hz; obtain rfl := Option.some.inj hz; exact ⟨rfl, cn hE y.2⟩
theorem tV (hE : dU gv Cf.gl lo w C e Cf.n a) (x : Option Operand) : uh w C (x.map a.eval) (x.map (dK Cf.gl e)) := by
 cases x with
 | none => exact trivial
 | some y => exact cn hE y
theorem tU (hE : dU gv Cf.gl lo w C e Cf.n a) (xs : Array Operand) : (xs.map a.eval).size = (xs.toList.map (dK Cf.gl e)).length ∧
 ∀ (i : Nat) (v : Value) (p : PV), (xs.map a.eval)[i]? = some v → (xs.toList.map (dK Cf.gl e))[i]? = some p → Rep w C v p := by
 refine ⟨by simp, fun i v q hv hq => ?_⟩; rw [Array.getElem?_map] at hv; obtain ⟨y, hy, rfl⟩ := Option.map_eq_some_iff.1 hv; obtain ⟨z, hz, rfl⟩ := cw hq; rw [gn, hy] at hz; obtain rfl := Option.some.inj hz; exact cn hE y
theorem ur (hE : dU gv Cf.gl lo w C e Cf.n a) (xs : Array Operand) : (xs.map a.eval).size = (nN (dK Cf.gl e) xs).length ∧
 ∀ (i : Nat) (v : Value) (p : PV), (xs.map a.eval)[i]? = some v → (nN (dK Cf.gl e) xs)[i]? = some p → Rep w C v p := by
 refine ⟨by simp [nN], fun i v q hv hq => ?_⟩; rw [Array.getElem?_map] at hv; obtain ⟨y, hy, rfl⟩ := Option.map_eq_some_iff.1 hv; obtain ⟨z, hz, rfl⟩ := cw hq; rw [gn, hy] at hz; obtain rfl := Option.some.inj hz; exact sS (cn hE y)
theorem lj {P : Program} {f : FuncId} {fn : Func} {args : Array Value} (h : P.funcs[f]? = some fn) (hn : (fn.name == "runtime.NumGoroutine") = false) (hb : fn.body.isNone = false) (w : World) :
 (callFunc f args).run P w = .ok (.enter f args) w := by
 unfold callFunc; simp only [Sem.run_bind, run_program, Result.andThen_ok, h]; rw [if_neg (by rw [hn]; simp), if_neg (by rw [hb]; simp)]
 rfl
theorem tT (hE : dU gv Cf.gl lo w C e Cf.n a) {xs : Array Operand} {x : PV} (hxs : xs.toList.map (fun x => dK Cf.gl e x) = [x]) : ∃ y, xs.map a.eval = #[y] ∧ Rep w C y x := by
 obtain ⟨s1, s2⟩ := tU hE xs; rw [hxs] at s1 s2; have : (xs.map a.eval).size = 1 := s1; refine ⟨(xs.map a.eval)[0], ?_, s2 0 _ _ (aV (by omega)) rfl⟩; apply Array.ext (by simp [this]); intro i h1 h2
 have : i = 0 := by simp at h2; exact h2
 subst this; simp
theorem pa (hE : dU gv Cf.gl lo w C e Cf.n a) {xs : Array Operand} {x1 x2 : PV} (hxs : xs.toList.map (fun x => dK Cf.gl e x) = [x1, x2]) : ∃ y1 y2, xs.map a.eval = #[y1, y2] ∧ Rep w C y1 x1 ∧ Rep w C y2 x2 := by
 obtain ⟨s1, s2⟩ := tU hE xs; rw [hxs] at s1 s2; have hs : (xs.map a.eval).size = 2 := s1; refine ⟨(xs.map a.eval)[0], (xs.map a.eval)[1], ?_, s2 0 _ _ (aV (by omega)) rfl, s2 1 _ _ (aV (by omega)) rfl⟩; apply Array.ext (by simp [hs]); intro i h1 h2
 have : i = 0 ∨ i = 1 := by simp at h2; omega
 rcases this with rfl | rfl <;> simp
theorem vy {R : Type} (hbase : ∀ m t l, (m, t, l) ∈ bs → m ≤ Cf.base) {b : Builtin} {c : Call} {m : Nat} {K : PV → St → Option R} {r : R} (hop : o.op = .call c) (hcal : c.callee = .builtin b) (H : Sim w C st bs) (hE : dU gv Cf.gl lo w C e Cf.n a)
 (h : nG Cf m b c.argTypes (c.args.toList.map fun x => dK Cf.gl e x) st K = some r)
 (hK : ∀ p st' v w' C', K p st' = some r → Sim w' C' st' bs → Ext w C w' C' → Rep w' C' v p → next (a.put o.dst v) w') : o.wpIn (fen rd) 0 Cf.P a w next Q := by
 have hexec : ∀ s : Sem Next, (∀ consts, builtin b c.argTypes o.type consts (c.args.map a.eval) = s) → (execOp a.eval o).run Cf.P w = s.run Cf.P w := by
  intro s hs; simp only [execOp, hop, resolve, hcal, Sem.run_bind, Sem.run_pure, Result.andThen_ok, invoke, hs]
 have hnd : ∀ c, o.op ≠ .defer c := fun c q => by rw [hop] at q; cases q
 have fin : ∀ {s : Sem Value} {p : PV} {st' : St}, K p st' = some r → (∀ consts, builtin b c.argTypes o.type consts (c.args.map a.eval) = (do pure (Next.value (← s)))) → Lays Cf.P w C bs s p st' → o.wpIn (fen rd) 0 Cf.P a w next Q := by
  intro s p st' hk hs hl; obtain ⟨v, w', C', k1, k2, k3, k4⟩ := hl; refine lq hnd ?_ (hK p st' v w' C' hk k2 k3 k4); rw [hexec _ hs]; exact yk k1
 unfold nG at h; split at h
 · -- len
   rename_i t x hats hxs
   have hat : c.argTypes = #[t] := by cases hc : c.argTypes; rw [hc] at hats; simp at hats; rw [hats]
   obtain ⟨y, hy, hrep⟩ := tT hE hxs; obtain ⟨p, hp, h⟩ := eG h; exact fin h (fun _ => by rw [hy, hat]; rfl) ((zI (ty := o.type) hp hrep).yY H)
 · -- cap
   rename_i t x hats hxs
   have hat : c.argTypes = #[t] := by cases hc : c.argTypes; rw [hc] at hats; simp at hats; rw [hats]
   obtain ⟨y, hy, hrep⟩ := tT hE hxs; obtain ⟨p, hp, h⟩ := eG h; exact fin h (fun _ => by rw [hy, hat]; rfl) ((zH (ty := o.type) hp hrep).yY H)
 · -- max
   rename_i x1 x2 hxs; obtain ⟨y1, y2, hy, hr1, hr2⟩ := pa hE hxs; obtain ⟨p, hp, h⟩ := eG h; exact fin h (fun _ => by rw [hy]; rfl) ((zJ (ats := c.argTypes) (ty := o.type) hp hr1 hr2).yY H)
 · -- min
   rename_i x1 x2 hxs; obtain ⟨y1, y2, hy, hr1, hr2⟩ := pa hE hxs; obtain ⟨p, hp, h⟩ := eG h; exact fin h (fun _ => by rw [hy]; rfl) ((zK (ats := c.argTypes) (ty := o.type) hp hr1 hr2).yY H)
 · -- append
   rename_i t u x1 x2 hats hxs
   have hat : c.argTypes = #[t, u] := by cases hc : c.argTypes; rw [hc] at hats; simp at hats; rw [hats]
   obtain ⟨y1, y2, hy, hr1, hr2⟩ := pa hE hxs; split at h
   · cases h
   · rename_i el d hni hu hu2
     obtain ⟨ys, hys, h⟩ := Option.bind_eq_some_iff.1 h; obtain ⟨q, hq, h2⟩ := Option.bind_eq_some_iff.1 h; unfold xo at hq; split at hq
     · obtain ⟨zz, hzz, hq⟩ := Option.bind_eq_some_iff.1 hq
       exact fin h2 (fun _ => by rw [hy, hat]; rfl) (vW (ty := o.type) H Cf.base hbase hu hu2 (fun k z => hni k z) hzz hys hq hr1 hr2)
     · cases hm : ai m 0 with
       | true =>
        rw [hm] at hq; exact fin h2 (fun _ => by rw [hy, hat]; rfl) (yI (ty := o.type) H hu hu2 (fun k z => hni k z) hys hq hr1 hr2)
       | false =>
        rw [hm] at hq; obtain ⟨zz, hzz, hq⟩ := Option.bind_eq_some_iff.1 hq; exact fin h2 (fun _ => by rw [hy, hat]; rfl) (vV (ty := o.type) H hu hu2 (fun k z => hni k z) hzz hys hq hr1 hr2)
   · cases h
 · -- copy
   rename_i t u x1 x2 hats hxs
   have hat : c.argTypes = #[t, u] := by cases hc : c.argTypes; rw [hc] at hats; simp at hats; rw [hats]
   obtain ⟨y1, y2, hy, hr1, hr2⟩ := pa hE hxs; split at h
   · rename_i el hu
     obtain ⟨ys, hys, h⟩ := Option.bind_eq_some_iff.1 h; obtain ⟨q, hq, h⟩ := Option.bind_eq_some_iff.1 h; exact fin h (fun _ => by rw [hy, hat]; rfl) (Cw (ty := o.type) H Cf.base hbase hu hys hq hr1 hr2)
   · cases h
 · -- clear
   rename_i t x hats hxs
   have hat : c.argTypes = #[t] := by cases hc : c.argTypes; rw [hc] at hats; simp at hats; rw [hats]
   obtain ⟨y, hy, hrep⟩ := tT hE hxs; obtain ⟨st', hst, h⟩ := Option.bind_eq_some_iff.1 h; exact fin h (fun _ => by rw [hy, hat]; rfl) (Ao (ty := o.type) H Cf.base hbase hst hrep)
 · cases h
theorem qo {R : Type} (G : Good gv Cf.pn Cf.P Cf.call) (hbase : ∀ m t l, (m, t, l) ∈ bs → m ≤ Cf.base) {K : PV → St → Option R} {N : TypeId → Value → St → Option R} {r : R} (H : Sim w C st bs) (hE : dU gv Cf.gl lo w C e Cf.n a)
 (h : iv Cf o e st K N = some r)
 (hK : ∀ p st' v w' C', K p st' = some r → Sim w' C' st' bs → Ext w C w' C' → Rep w' C' v p → next (a.put o.dst v) w')
 (hN : ∀ t x st' w' C', N t x st' = some r → Sim w' C' st' bs → Ext w C w' C' → Q (.panic [{ v := .iface t x, recovered := false }]) a w') : o.wpIn (fen rd) 0 Cf.P a w next Q := by
 have lay1 : ∀ {s : Sem Value} {p : PV} {st' : St}, K p st' = some r → (∀ c, o.op ≠ .defer c) → (execOp a.eval o = do pure (Next.value (← s))) → Lays Cf.P w C bs s p st' → o.wpIn (fen rd) 0 Cf.P a w next Q :=
  fun {s p st'} hk hnd hs ht => by
   obtain ⟨v, w', C', k1, k2, k3, k4⟩ := ht; exact lq hnd (by rw [hs]; exact yk k1) (hK p st' v w' C' hk k2 k3 k4)
 have pure1 : ∀ {p : PV} {v : Value}, K p st = some r → (∀ c, o.op ≠ .defer c) → (execOp a.eval o).run Cf.P w = .ok (.value v) w → Rep w C v p → o.wpIn (fen rd) 0 Cf.P a w next Q :=
  fun {p v} hk hnd hr hrep => lq hnd hr (hK p st v w C hk H (Ext.refl w C) hrep)
 have pure2 : ∀ {s : Sem Value} {p : PV}, K p st = some r → (∀ c, o.op ≠ .defer c) → (execOp a.eval o = do pure (Next.value (← s))) → ga Cf.P w C s p → o.wpIn (fen rd) 0 Cf.P a w next Q :=
  fun {s p} hk hnd hs ht => lay1 hk hnd hs (ht.yY H)
 unfold iv at h; split at h
 · rename_i x hop; exact pure1 h (by rw [hop]; simp) (by simp [execOp, hop]) (cn hE x)
 · rename_i x hop; exact pure1 h (by rw [hop]; simp) (by simp [execOp, hop]) (cn hE x)
 · rename_i c x y hop
   obtain ⟨p, hp, h⟩ := eG h; refine pure2 (s := do pure (if ← asBool (a.eval c) then a.eval x else a.eval y)) h (by rw [hop]; simp) ?_ (wV hp (cn hE c) (cn hE x) (cn hE y)); simp [execOp, hop]
 · -- alloc
   rename_i t hop; obtain ⟨z, hz, h⟩ := Option.bind_eq_some_iff.1 h; obtain ⟨i, v, hi, hzv, hc⟩ := jj (w := w) (C := C) hz
   have hcut : ∀ C' : Ctx, eF w C' v.cells z := fun C' => by
    obtain ⟨i', v', hi', hzv', hc'⟩ := jj (w := w) (C := C') hz
    rw [hi] at hi'; cases hi'
    rw [hzv] at hzv'; cases hzv'
    exact hc'
   obtain ⟨w', C', k1, k2, k3, k4, k5⟩ := wB (P := Cf.P) (elem := t) H (hB (Cf.md.of o.dst)) hc fun m t l _ _ => hcut _
   refine lq (by rw [hop]; simp) ?_ (hK _ _ _ w' C' h k2 k3 (.ptr k5))
   have : (Instr.alloc t true (.tuple #[])).run Cf.P w = .ok (.pointer (some ⟨w.heap.size, 0, none⟩)) w' := by
    simp [Instr.alloc, zeroValue, typeInfo, hi, hzv, newVar, k1]
   simp only [execOp, hop]; exact yk this
 · -- box
   rename_i t x hop; obtain ⟨cs, hcs, h⟩ := Option.bind_eq_some_iff.1 h; obtain ⟨q, hq, h⟩ := Option.bind_eq_some_iff.1 h; obtain ⟨c1, c2, c3⟩ := pM hcs (cn hE x); obtain ⟨w', C', k1, k2, k3, k4⟩ := Er (P := Cf.P) (elem := t) H ⟨c1, c2, c3⟩ hq; refine lq (by rw [hop]; simp) ?_ (hK _ _ _ w' C' h k2 k3 k4)
   have : (Instr.box t (a.eval x)).run Cf.P w = .ok (.pointer (some ⟨w.heap.size, 0, none⟩)) w' := by
    simp [Instr.box, newVar, k1]
   simp only [execOp, hop]; exact yk this
 · -- build
   rename_i t ps hop; obtain ⟨p, hp, h⟩ := eG h; obtain ⟨s1, s2⟩ := sP (Cf := Cf) (ps := ps) hE; exact pure2 h (by rw [hop]; simp) (by simp only [execOp, hop]) (vE hp s1 s2)
 · -- buildSlice
   rename_i t n ps hop; obtain ⟨s1, s2⟩ := sP (Cf := Cf) (ps := ps) hE
   cases hm : ai (Cf.md.of o.dst) 0 with
   | true =>
    rw [hm] at h; obtain ⟨p, hp, h⟩ := eG h; exact lay1 h (by rw [hop]; simp) (by simp only [execOp, hop]) (rZ H hp s1 s2)
   | false =>
    rw [hm] at h; obtain ⟨q, hq, h⟩ := Option.bind_eq_some_iff.1 h; exact lay1 h (by rw [hop]; simp) (by simp only [execOp, hop]) (uB H hq s1 s2)
 · -- load
   rename_i t x hop; split at h
   · rename_i d hu
     obtain ⟨p, hp, h⟩ := eG h; exact pure2 h (by rw [hop]; simp) (by simp only [execOp, hop]) (rP H ⟨d, hu⟩ hp (cn hE x))
   · cases h
 · -- store
   rename_i t x y hop; obtain ⟨st', hst, h⟩ := Option.bind_eq_some_iff.1 h; obtain ⟨w', C', k1, k2, k3⟩ := BG (P := Cf.P) H Cf.base hbase hst (cn hE x) (cn hE y); refine w6 (by rw [hop]; simp) ?_ (hK _ _ undef w' C' h k2 k3 .u); simp only [execOp, hop, Sem.run_bind, k1, Result.andThen_ok]
   rfl
 · -- nilCheck
   rename_i x hop; obtain ⟨p, hp, h⟩ := eG h; obtain ⟨k1, k2⟩ := rQ (P := Cf.P) hp (cn hE x); exact pure1 h (by rw [hop]; simp) (k1 o a.eval x hop rfl) k2
 · rename_i op t x y yt hop
   obtain ⟨p, hp, h⟩ := eG h; exact pure2 (s := do eqGuard op t x y (a.eval x) (a.eval y); binOp op t (a.eval x) (a.eval y)) h (by rw [hop]; simp) (by simp only [execOp, hop]) (zG hp (cn hE x) (cn hE y))
 · -- range
   rename_i t x hop; obtain ⟨q, hq, h⟩ := Option.bind_eq_some_iff.1 h; exact lay1 h (by rw [hop]; simp) (by simp only [execOp, hop]) (Bl H hq (cn hE x))
 · -- next
   rename_i x hop; obtain ⟨q, hq, h⟩ := Option.bind_eq_some_iff.1 h; exact lay1 h (by rw [hop]; simp) (by simp only [execOp, hop]) (CS (ty := o.type) H hq (cn hE x))
 · rename_i op t x hop
   obtain ⟨p, hp, h⟩ := eG h; exact pure2 h (by rw [hop]; simp) (by simp only [execOp, hop]) (BI hp (cn hE x))
 · rename_i src dst x hop
   obtain ⟨p, hp, h⟩ := eG h; exact lay1 h (by rw [hop]; simp) (by simp only [execOp, hop]) (Cv H hp (cn hE x))
 · -- makeFunc
   rename_i f fs cs hop; obtain ⟨p, hp, h⟩ := eG h; unfold kT at hp
   cases hf : fs.isEmpty && eQ f with
   | false => rw [hf] at hp; simp at hp
   | true =>
    rw [hf] at hp; obtain rfl := Option.some.inj hp; rw [ao] at hf
    have hfs : fs = #[] := by simpa using hf.1
    subst hfs; obtain ⟨s1, s2⟩ := tU (Cf := Cf) hE cs
    obtain ⟨f', rfl⟩ : ∃ f', f = .func f' := by
     cases f <;> first | exact ⟨_, rfl⟩ | (have := hf.2; simp [eQ] at this)
    refine pure1 (v := .func (.func f') #[] (cs.map a.eval)) h (by rw [hop]; simp) ?_ (.clo (by simpa using s1) fun i x p hx hp => ?_)
    · simp [execOp, hop, Instr.makeFunc]
    · obtain ⟨q, hq, rfl⟩ := cw hp
      exact sS (s2 i x q hx hq)
 · -- makeSlice
   rename_i t x y hop; obtain ⟨q, hq, h⟩ := Option.bind_eq_some_iff.1 h; exact lay1 h (by rw [hop]; simp) (by simp only [execOp, hop]) (tP H hq (cn hE x) (cn hE y))
 · rename_i t x lo hi mx hop
   obtain ⟨p, hp, h⟩ := eG h; exact pure2 h (by rw [hop]; simp) (by simp only [execOp, hop]) (vI hp (cn hE x) (tV hE lo) (tV hE hi) (tV hE mx))
 · rename_i s x f hop
   obtain ⟨p, hp, h⟩ := eG h; exact pure2 h (by rw [hop]; simp) (by simp only [execOp, hop]) (qx hp (cn hE x))
 · rename_i t x f hop
   obtain ⟨p, hp, h⟩ := eG h; exact pure2 h (by rw [hop]; simp) (by simp only [execOp, hop]) (vF hp (cn hE x))
 · rename_i t x i hop
   obtain ⟨p, hp, h⟩ := eG h; exact pure2 h (by rw [hop]; simp) (by simp only [execOp, hop]) (qy hp (cn hE x) (cn hE i))
 · rename_i t x i hop
   obtain ⟨p, hp, h⟩ := eG h; exact pure2 h (by rw [hop]; simp) (by simp only [execOp, hop]) (vH hp (cn hE x) (cn hE i))
 · rename_i x i hop
   obtain ⟨p, hp, h⟩ := eG h; exact pure2 h (by rw [hop]; simp) (by simp only [execOp, hop]) (sk hp (cn hE x))
 · -- a call
   rename_i c hop
   have hnd : ∀ c, o.op ≠ .defer c := by rw [hop]; simp
   split at h
   · rename_i b hcal
     exact vy hbase hop hcal H hE h hK
   · rename_i g hcal
     obtain ⟨s1, s2⟩ := ur (Cf := Cf) hE c.args; obtain ⟨q, hq, h⟩ := Option.bind_eq_some_iff.1 h; rw [List.append_nil] at hq; obtain ⟨gp, ⟨fn, g1, g2, g3⟩, gc⟩ := G _ _ st q hq
     have hrun : (execOp a.eval o).run Cf.P w = .ok (.enter g (c.args.map a.eval)) w := by
      simp only [execOp, hop, resolve, hcal, Act.eval, Deferred.ofValue, Sem.run_bind, Sem.run_pure, Result.andThen_ok, invoke, Array.append_empty, Array.empty_append]; exact lj g1 g2 g3 w
     refine ⟨fun _ _ => trivial, ?_⟩; rw [Oper.semAt_eq _ _ _ hnd, hrun, Oper.uponIn_enter]; refine ⟨fun z => by simp [fen, Fence.wide] at z, mn ?_⟩; refine (gc w C bs (c.args.map a.eval) hE.gl.1 H s1 s2).mono ?_
     rintro e' w' ⟨C', k1, k2, k3⟩
     cases hp : gM q.1 with
     | false =>
      obtain ⟨v, rfl, k4⟩ := k3.ret hp; refine hK _ _ v w' C' ?_ k1 k2 k4
      cases hi : uO Cf g with
      | false => rw [hi] at h; exact h
      | true => rw [hi] at h; rw [cond_true, Bb hp] at h; exact h
     | true =>
      obtain ⟨p, s⟩ := q
      cases p with
      | pan t x =>
       cases hi : uO Cf g with
       | false => have := gp hi; simp [gM] at this
       | true =>
        rw [hi] at h; have k3 : e' = .panicked [{ v := .iface t x, recovered := false }] := k3; subst k3; exact hN t x s w' C' h k1 k2
      | _ => simp [gM] at hp
   · rename_i f hnf hcal
     have hrf := cn hE f; obtain ⟨s1, s2⟩ := ur (Cf := Cf) hE c.args; unfold fP at h; split at h
     · rename_i g caps hf
       obtain ⟨q, hq, h⟩ := Option.bind_eq_some_iff.1 h; obtain ⟨hnp, h⟩ := lI h; obtain ⟨gp, ⟨fn, g1, g2, g3⟩, gc⟩ := G _ _ st q hq; rw [hf] at hrf
       obtain ⟨cs, hcs, hcl, hcr⟩ : ∃ cs : Array Value, a.eval f = .func (.func g) #[] cs ∧ cs.size = caps.length ∧ ∀ (i : Nat) (x : Value) (p : PV), cs[i]? = some x → caps[i]? = some p → Rep w C x p := by
        cases hv : a.eval f <;> rw [hv] at hrf <;> cases hrf
        rename_i h1 h2; exact ⟨_, rfl, h1, h2⟩
       have hrun : (execOp a.eval o).run Cf.P w = .ok (.enter g (c.args.map a.eval ++ cs)) w := by
        simp only [execOp, hop, resolve, hcal, hcs, Deferred.ofValue, Sem.run_bind, Sem.run_pure, Result.andThen_ok, invoke, Array.empty_append]; exact lj g1 g2 g3 w
       refine ⟨fun _ _ => trivial, ?_⟩; rw [Oper.semAt_eq _ _ _ hnd, hrun, Oper.uponIn_enter]; refine ⟨fun z => by simp [fen, Fence.wide] at z, mn ?_⟩; refine (gc w C bs (c.args.map a.eval ++ cs) hE.gl.1 H (by rw [Array.size_append, bM, s1, hcl]) fun i x p hx hp => ?_).mono ?_
       · rw [Array.getElem?_append] at hx
         rw [fi, ← s1] at hp; split at hx
         · rename_i hlt; rw [if_pos hlt] at hp; exact s2 i x p hx hp
         · rename_i hlt; rw [if_neg hlt] at hp; exact hcr _ x p hx hp
       · rintro e' w' ⟨C', k1, k2, k3⟩
         obtain ⟨v, rfl, k4⟩ := k3.ret hnp; exact hK _ _ v w' C' h k1 k2 k4
     · rename_i i caps hf
       obtain ⟨q, hq, h2⟩ := Option.bind_eq_some_iff.1 h; obtain ⟨hnp, h2⟩ := lI h2; rw [hf] at hrf
       obtain ⟨B, hv, rfl, hB⟩ : ∃ B, a.eval f = .func (.yield B) #[] #[] ∧ caps = [] ∧ C.lp i = some B := by
        cases hv : a.eval f <;> rw [hv] at hrf <;> cases hrf
        rename_i h1; exact ⟨_, rfl, rfl, h1⟩
       rw [List.append_nil] at hq; obtain ⟨fn, tmps, assign, body, g1, g2⟩ := (G _ _ st q hq).2 w C bs (c.args.map a.eval) B hB hE.gl.1 H s1 s2
       have hrun : (execOp a.eval o).run Cf.P w = .ok (.round B fn tmps assign body) w := by
        simp only [execOp, hop, resolve, hcal, hv, Deferred.ofValue, Sem.run_bind, Sem.run_pure, Result.andThen_ok, invoke, Array.empty_append]; exact g1
       refine ⟨fun _ _ => trivial, ?_⟩; rw [Oper.semAt_eq _ _ _ hnd, hrun, Oper.uponIn_round]; refine ⟨fun z => by simp [fen, Fence.wide] at z, (vo g2).mono ?_⟩
       rintro e' w' ⟨C', k1, k2, k3⟩
       obtain ⟨v, rfl, k4⟩ := k3.ret hnp; exact hK _ _ v w' C' h2 k1 k2 k4
     · cases h
   · cases h
 · -- panic
   rename_i x hop
   have hnd : ∀ c, o.op ≠ .defer c := by rw [hop]; simp
   have hrx := cn hE x; unfold sN at h; split at h
   · rename_i t v hf
     rw [hf] at hrx
     have hv : a.eval x = .iface t v := by
      cases hq : a.eval x <;> rw [hq] at hrx <;> cases hrx
      rfl
     refine ⟨fun _ _ => trivial, ?_⟩
     have hrun : (execOp a.eval o).run Cf.P w = .halt (.panic (.iface t v)) w := by
      simp only [execOp, hop, hv]
      rfl
     rw [Oper.semAt_eq _ _ _ hnd, hrun, Oper.uponIn_panic]; exact hN t v st w C h H (Ext.refl w C)
   · cases h
 · -- makeInterface
   rename_i t x hop; obtain ⟨p, hp, h⟩ := eG h; exact pure2 h (by rw [hop]; simp) (by simp only [execOp, hop]) (vG hp (cn hE x))
 · cases h
end
section
variable {w : World} {C : Ctx} {st : St} {bs : List (Nat × Nat × Nat)}
theorem oo (st : St) (m t l : Nat) (h : Bool) (b : Nat) : (st.back m t l).bk h b = if h = false ∧ ¬ b < m then none else st.bk h b := by
 cases h with
 | true => rfl
 | false =>
  simp only [St.back, St.bk, fj, true_and]
  by_cases q : b < m
  · rw [if_pos q, if_neg (by omega)]
  · rw [if_neg q, if_pos q]
theorem ml {st : St} {m t l : Nat} {h : Bool} {b : Nat} {cs : List PV} (x : (st.back m t l).blk h b = some cs) : st.blk h b = some cs ∧ (h = false → b < m) := by
 simp only [St.blk, oo] at x ⊢; split at x
 · cases x
 · rename_i q; exact ⟨x, fun e => by subst e; simpa using q⟩
theorem ss {st : St} {m t l : Nat} {h : Bool} {b : Nat} (x : h = false → b < m) : (st.back m t l).blk h b = st.blk h b := by
 simp only [St.blk, oo]; rw [if_neg]
 rintro ⟨rfl, q⟩
 exact q (x rfl)
theorem Sim.restrict (H : Sim w C st bs) {C' : Ctx} {st' : St} {bs' : List (Nat × Nat × Nat)} (hS : C'.S = C.S) (hN : C'.N = C.N) (hσ : ∀ h b B, C'.σ h b = some B → C.σ h b = some B ∧ st'.blk h b = st.blk h b)
 (htl : ∀ o t y, C'.tl o t = some y → C.tl o t = some y ∧ st'.tok o t = st.tok o t) (hlp : ∀ i B, C'.lp i = some B → C.lp i = some B ∧ st'.lp[i]? = st.lp[i]?)
 (hblk : ∀ h b cs, st'.blk h b = some cs → st.blk h b = some cs ∧ C'.σ h b = C.σ h b) (htok : ∀ o t y, st'.tok o t = some y → st.tok o t = some y ∧ C'.tl o t = C.tl o t)
 (hlp' : ∀ i r, st'.lp[i]? = some r → st.lp[i]? = some r ∧ C'.lp i = C.lp i) (hbs : ∀ x ∈ bs', x ∈ bs) (hbnd : ∀ m t l, (m, t, l) ∈ bs' → m ≤ st'.stk.length ∧ t ≤ st'.tk.length ∧ l ≤ st'.lp.length)
 (hcut : ∀ m t l, (m, t, l) ∈ bs' → C'.cut m t l = C.cut m t l)
 (hrep : ∀ (h : Bool) (b : Nat) (cs : List PV) (o : Nat) (x : Value) (p : PV), st'.blk h b = some cs → cs[o]? = some p → Rep w C x p → (∀ m t l, (m, t, l) ∈ bs → (h = true ∨ b < m) → Rep w (C.cut m t l) x p) → Rep w C' x p)
 (haux : ∀ (i B : Nat) (r : Aux), st'.lp[i]? = some r → lS w C bs i B r → lS w C' bs' i B r) : Sim w C' st' bs' := by
 refine ⟨?_, ?_, ?_, by rw [hS]; exact H.Sok, ?_, ?_, ?_, hbnd, ?_, ?_, ?_, ?_⟩
 · intro h b cs hcs
   obtain ⟨k1, k2⟩ := hblk h b cs hcs; obtain ⟨B, arr, elem, fr, a1, a2, a3, a4, a5, a6, a7, a8⟩ := H.blk h b cs k1; refine ⟨B, arr, elem, fr, k2.trans a1, a2, a3, a4, by rw [hS]; exact a5, a6, fun o x p hx hp => hrep h b cs o x p hcs hp (a7 o x p hx hp) fun m t l hm hb => a8 m t l hm hb o x p hx hp, fun m t l hm hb o x p hx hp => ?_⟩; rw [hcut m t l hm]; exact a8 m t l (hbs _ hm) hb o x p hx hp
 · intro h b B x
   obtain ⟨k1, k2⟩ := hσ h b B x; obtain ⟨cs, hcs⟩ := H.dom h b B k1; exact ⟨cs, k2.trans hcs⟩
 · intro h b h' b' B x y
   obtain ⟨k1, k2⟩ := hσ h b B x; obtain ⟨g1, g2⟩ := hσ h' b' B y; rw [k2, g2]; exact H.inj h b h' b' B k1 g1
 · intro o t B f to e s x
   obtain ⟨k1, k2⟩ := htl o t _ x; obtain ⟨g1, g2⟩ := H.tok o t B f to e s k1; refine ⟨k2.trans g1, fun i a b => ?_⟩; obtain ⟨q1, q2, q3⟩ := g2 i a b; exact ⟨by rw [hS]; exact q1, ⟨fun h b' q => q2.1 h b' (hσ h b' B q).1, by rw [hN]; exact q2.2⟩, q3⟩
 · intro o t e s x
   obtain ⟨k1, k2⟩ := htok o t _ x; obtain ⟨B, f, to, y⟩ := H.iq o t e s k1; exact ⟨B, f, to, k2.trans y⟩
 · intro o t o' t' B f to e s f' to' e' s' x y
   exact H.nR o t o' t' B f to e s f' to' e' s' (htl _ _ _ x).1 (htl _ _ _ y).1
 · rw [hN]
   exact ⟨H.low.1, fun h b B x => H.low.2.1 h b B (hσ h b B x).1, fun i B x => H.low.2.2 i B (hlp i B x).1⟩
 · intro i r hr
   obtain ⟨k1, k2⟩ := hlp' i r hr; obtain ⟨B, a1, a2⟩ := H.lps i r k1; exact ⟨B, k2.trans a1, haux i B r hr a2⟩
 · intro i B x
   obtain ⟨k1, k2⟩ := hlp i B x; obtain ⟨r, hr⟩ := H.jY i B k1; exact ⟨r, k2.trans hr⟩
 · intro i i' B x y
   exact H.kz i i' B (hlp i B x).1 (hlp i' B y).1
theorem xx (C : Ctx) {m t l m' t' l' : Nat} (h1 : m ≤ m') (h2 : t ≤ t') (h3 : l ≤ l') : (C.cut m' t' l').cut m t l = C.cut m t l := by
 simp only [Ctx.cut, Ctx.mk.injEq, true_and, and_true]; refine ⟨?_, ?_, ?_⟩
 · funext a b
   cases a with
   | true => rfl
   | false =>
    simp only []
    by_cases q : b < m
    · rw [if_pos q, if_pos q, if_pos (by omega)]
    · rw [if_neg q, if_neg q]
 · funext a b
   cases a with
   | fr =>
    simp only []
    by_cases q : b < t
    · rw [if_pos q, if_pos q, if_pos (by omega)]
    · rw [if_neg q, if_neg q]
   | bl a b' =>
    cases a with
    | true => rfl
    | false =>
     simp only []
     by_cases q : b' < m
     · rw [if_pos q, if_pos q, if_pos (by omega)]
     · rw [if_neg q, if_neg q]
 · funext i
   by_cases q : i < l
   · rw [if_pos q, if_pos q, if_pos (by omega)]
   · rw [if_neg q, if_neg q]
theorem qW (C : Ctx) {m t l m' : Nat} (h1 : m ≤ m') : (C.jN m').cut m t l = C.cut m t l := by
 simp only [Ctx.cut, Ctx.jN, Ctx.mk.injEq, true_and, and_true]; refine ⟨?_, ?_⟩
 · funext a b
   cases a with
   | true => rfl
   | false =>
    simp only []
    by_cases q : b < m
    · rw [if_pos q, if_pos q, if_pos (by omega)]
    · rw [if_neg q, if_neg q]
 · funext a b
   cases a with
   | fr => rfl
   | bl a b' =>
    cases a with
    | true => rfl
    | false =>
     simp only []
     by_cases q : b' < m
     · rw [if_pos q, if_pos q, if_pos (by omega)]
     · rw [if_neg q, if_neg q]
theorem oE (w : World) (C : Ctx) {m t l m' : Nat} (h1 : m ≤ m') : Ext w (C.cut m t l) w (C.jN m') := by
 rw [← qW C (t := t) (l := l) h1]; exact Ext.EA w _ m t l
theorem ji (st : St) (m t l : Nat) {o : Ow} (h : ∀ b, o = .bl false b → b < m) (hf : o ≠ .fr) (i : Nat) : (st.back m t l).tok o i = st.tok o i := by
 cases o with
 | fr => exact absurd rfl hf
 | bl a b =>
  simp only [St.tok, oo]; rw [if_neg]
  rintro ⟨rfl, q⟩
  exact q (h b rfl)
theorem Sim.EM (H : Sim w C st bs) {base m tb lb : Nat} (hb : (base, tb, lb) ∈ bs) (hbm : base ≤ m) (hbase : ∀ m' t l, (m', t, l) ∈ bs → m' ≤ base) (hm : m ≤ st.stk.length)
 (hit : (st.lp.drop lb).all fm = true) (hsf : ((st.stk.drop base).take (m - base)).all (fun b => b.cs.all (sf true m 4)) = true) : Sim w (C.jN m) { st with stk := st.stk.take m } bs := by
 have hst : ({ st with stk := st.stk.take m } : St) = st.back m st.tk.length st.lp.length := by
  simp only [St.back, List.take_length]
 have htk : ∀ i, (st.back m st.tk.length st.lp.length).tok .fr i = st.tok .fr i := fun i => by simp [St.back, St.tok]
 have hlpe : (st.back m st.tk.length st.lp.length).lp = st.lp := by simp [St.back]
 rw [hst]; refine H.restrict rfl rfl ?_ ?_ (fun i B x => ⟨x, by rw [hlpe]⟩) ?_ ?_ (fun i r x => ⟨by rw [hlpe] at x; exact x, rfl⟩) (fun _ x => x) ?_ (fun m' t l hmt => qW C (Nat.le_trans (hbase m' t l hmt) hbm)) ?_ ?_
 · intro h b B x
   cases h with
   | true => exact ⟨x, rfl⟩
   | false =>
    simp only [Ctx.jN] at x; split at x
    · rename_i hlt; exact ⟨x, ss fun _ => hlt⟩
    · cases x
 · intro o t y x
   cases o with
   | fr => exact ⟨x, htk t⟩
   | bl a b =>
    cases a with
    | true => exact ⟨x, ji st _ _ _ (by simp) (by simp) t⟩
    | false =>
     simp only [Ctx.jN] at x; split at x
     · rename_i hlt; exact ⟨x, ji st _ _ _ (fun b' e => by cases e; exact hlt) (by simp) t⟩
     · cases x
 · intro h b cs hcs
   obtain ⟨k1, k2⟩ := ml hcs; refine ⟨k1, ?_⟩
   cases h with
   | true => rfl
   | false => simp only [Ctx.jN]; rw [if_pos (k2 rfl)]
 · intro o t y x
   cases o with
   | fr => rw [htk] at x; exact ⟨x, rfl⟩
   | bl a b =>
    cases a with
    | true => rw [ji st _ _ _ (by simp) (by simp)] at x; exact ⟨x, rfl⟩
    | false =>
     by_cases hlt : b < m
     · rw [ji st _ _ _ (fun b' e => by cases e; exact hlt) (by simp)] at x
       exact ⟨x, by simp only [Ctx.jN]; rw [if_pos hlt]⟩
     · simp only [St.tok, oo] at x
       rw [if_pos ⟨trivial, hlt⟩] at x; cases x
 · intro m' t l hmt
   have h1 := H.bnd m' t l hmt; have h2 := hbase m' t l hmt; simp [St.back]; omega
 · intro h b cs o x p hcs hp hr hc
   obtain ⟨hcs, hlt⟩ := ml hcs
   by_cases q : h = true ∨ b < base
   · exact (hc base tb lb hb q).mono (oE w C hbm)
   · have hf : h = false := by cases h with | true => exact absurd (cL rfl) q | false => rfl
     subst hf
     have hge : base ≤ b := Nat.le_of_not_lt fun z => q (cG z)
     have hbm' := hlt rfl; obtain ⟨blk, hblk, rfl⟩ := Option.map_eq_some_iff.1 hcs
     have hmem : blk ∈ (st.stk.drop base).take (m - base) := by
      refine dT (i := b - base) ?_; rw [fj, if_pos (by omega), gL, show base + (b - base) = b by omega]; exact hblk
     rw [dG] at hsf; have := hsf blk hmem; rw [dG] at this; exact vk hr (this p (dT hp))
 · intro i B r hr ha
   rw [hlpe] at hr
   cases r with
   | iter s pos => exact ha
   | loop r =>
    have hi : i < lb := by
     rcases Nat.lt_or_ge i lb with z | z
     · exact z
     · exfalso
       rw [dG] at hit; have hmem : Aux.loop r ∈ st.lp.drop lb := dT (i := i - lb) (by rw [gL, show lb + (i - lb) = i by omega]; exact hr); have := hit _ hmem; simp [fm] at this
    obtain ⟨fn, D, tmps, h1, h2, h3, h4⟩ := ha; refine ⟨fn, D, tmps, h1, h2, fun j => (h4 base tb lb hb hi j).mono (oE w C hbm), fun m' t l hm' hl j => ?_⟩; rw [qW C (Nat.le_trans (hbase m' t l hm') hbm)]; exact h4 m' t l hm' hl j
theorem Az {w' : World} {C0 : Ctx} {m : Nat} (h : Ext w C0 w' C) (hm : ∀ b B, C0.σ false b = some B → b < m) (ht : ∀ b t y, C0.tl (.bl false b) t = some y → b < m) : Ext w C0 w' (C.jN m) := by
 refine ⟨h.size, h.N, h.below, h.S, h.cell, fun a b B x => ?_, fun o t B f to e s x => ?_, h.lp, h.shape, h.dfr⟩
 · cases a with
   | true => exact h.σ true b B x
   | false => simp only [Ctx.jN]; rw [if_pos (hm b B x)]; exact h.σ false b B x
 · cases o with
   | fr => exact h.tl _ t B f to e s x
   | bl a b =>
    cases a with
    | true => exact h.tl _ t B f to e s x
    | false => simp only [Ctx.jN]; rw [if_pos (ht b t _ x)]; exact h.tl _ t B f to e s x
theorem Sim.leave {m0 t0 l0 : Nat} (H : Sim w C st bs) (h0 : (m0, t0, l0) ∈ bs) {bs' : List (Nat × Nat × Nat)} (hin : ∀ x ∈ bs', x ∈ bs) (hbs : ∀ m t l, (m, t, l) ∈ bs' → m ≤ m0 ∧ t ≤ t0 ∧ l ≤ l0) : Sim w (C.cut m0 t0 l0) (st.back m0 t0 l0) bs' := by
 have hhead := H.bnd m0 t0 l0 h0; refine H.restrict rfl rfl ?_ ?_ ?_ ?_ ?_ ?_ hin ?_ (fun m t l hmt => xx C (hbs m t l hmt).1 (hbs m t l hmt).2.1 (hbs m t l hmt).2.2) ?_ ?_
 · intro h b B x
   cases h with
   | true => exact ⟨x, rfl⟩
   | false =>
    simp only [Ctx.cut] at x; split at x
    · rename_i hlt; exact ⟨x, ss fun _ => hlt⟩
    · cases x
 · intro o t y x
   cases o with
   | fr =>
    simp only [Ctx.cut] at x; split at x
    · rename_i hlt; exact ⟨x, by simp only [St.tok, St.back, fj]; rw [if_pos hlt]⟩
    · cases x
   | bl a b =>
    cases a with
    | true => exact ⟨x, ji st _ _ _ (by simp) (by simp) t⟩
    | false =>
     simp only [Ctx.cut] at x; split at x
     · rename_i hlt; exact ⟨x, ji st _ _ _ (fun b' e => by cases e; exact hlt) (by simp) t⟩
     · cases x
 · intro i B x
   simp only [Ctx.cut] at x; split at x
   · rename_i hlt; exact ⟨x, by simp only [St.back, fj]; rw [if_pos hlt]⟩
   · cases x
 · intro h b cs hcs
   obtain ⟨k1, k2⟩ := ml hcs; refine ⟨k1, ?_⟩
   cases h with
   | true => rfl
   | false => simp only [Ctx.cut]; rw [if_pos (k2 rfl)]
 · intro o t y x
   cases o with
   | fr =>
    simp only [St.tok, St.back, fj] at x; split at x
    · rename_i hlt; exact ⟨x, by simp only [Ctx.cut]; rw [if_pos hlt]⟩
    · cases x
   | bl a b =>
    cases a with
    | true => rw [ji st _ _ _ (by simp) (by simp)] at x; exact ⟨x, rfl⟩
    | false =>
     by_cases hlt : b < m0
     · rw [ji st _ _ _ (fun b' e => by cases e; exact hlt) (by simp)] at x
       exact ⟨x, by simp only [Ctx.cut]; rw [if_pos hlt]⟩
     · simp only [St.tok, oo] at x
       rw [if_pos ⟨trivial, hlt⟩] at x; cases x
 · intro i r x
   simp only [St.back, fj] at x; split at x
   · rename_i hlt; exact ⟨x, by simp only [Ctx.cut]; rw [if_pos hlt]⟩
   · cases x
 · intro m t l hmt
   have h1 := H.bnd m t l (hin _ hmt); have h2 := hbs m t l hmt; simp [St.back]; omega
 · intro h b cs o x p hcs hp hr hc
   obtain ⟨hcs, hlt⟩ := ml hcs; exact hc m0 t0 l0 h0 (by cases h with | true => exact cL rfl | false => exact cG (hlt rfl))
 · intro i B r hr ha
   simp only [St.back, fj] at hr; split at hr
   · rename_i hlt
     cases r with
     | iter s pos => exact ha
     | loop r =>
      obtain ⟨fn, D, tmps, h1, h2, h3, h4⟩ := ha; refine ⟨fn, D, tmps, h1, h2, h4 m0 t0 l0 h0 hlt, fun m t l hm hl j => ?_⟩; rw [xx C (hbs m t l hm).1 (hbs m t l hm).2.1 (hbs m t l hm).2.2]; exact h4 m t l (hin _ hm) hl j
   · cases hr
theorem yW {w' : World} {C0 : Ctx} {m t l : Nat} (h : Ext w C0 w' C) (hm : ∀ b B, C0.σ false b = some B → b < m) (ht : ∀ i y, C0.tl .fr i = some y → i < t) (hb : ∀ b i y, C0.tl (.bl false b) i = some y → b < m) (hl : ∀ i B, C0.lp i = some B → i < l) : Ext w C0 w' (C.cut m t l) := by
 refine ⟨h.size, h.N, h.below, h.S, h.cell, fun a b B x => ?_, fun o i B f to e s x => ?_, fun i B x => ?_, h.shape, h.dfr⟩
 · cases a with
   | true => exact h.σ true b B x
   | false => simp only [Ctx.cut]; rw [if_pos (hm b B x)]; exact h.σ false b B x
 · cases o with
   | fr => simp only [Ctx.cut]; rw [if_pos (ht i _ x)]; exact h.tl _ i B f to e s x
   | bl a b =>
    cases a with
    | true => exact h.tl _ i B f to e s x
    | false => simp only [Ctx.cut]; rw [if_pos (hb b i _ x)]; exact h.tl _ i B f to e s x
 · simp only [Ctx.cut]; rw [if_pos (hl i B x)]; exact h.lp i B x
theorem Sim.mz (H : Sim w C st bs) {w' : World} {C' : Ctx} (h : Ext w C w' C') : Ext w C w' (C'.cut st.stk.length st.tk.length st.lp.length) := by
 refine yW h (fun b B z => H.EP z) (fun i y z => ?_) (fun b i y z => ?_) (fun i B z => ?_)
 · rcases Nat.lt_or_ge i st.tk.length with z' | z'
   · exact z'
   · rw [H.BL z'] at z; cases z
 · rcases Nat.lt_or_ge b st.stk.length with z' | z'
   · exact z'
   · rw [H.uc (a := false) z' i] at z; cases z
 · rcases Nat.lt_or_ge i st.lp.length with z' | z'
   · exact z'
   · rw [H.wE z'] at z; cases z
theorem nV (vs : List PV) : ∀ (is : List Nat) (j i : Nat), rq vs is j i = .u ∨ ∃ k, is[k]? = some i ∧ rq vs is j i = ae vs (j + k)
 | [], j, i => cL rfl
 | a :: is, j, i => by
  simp only [rq, upd]
  cases h : ai i a with
  | true =>
   have := au h; subst this; exact cG ⟨0, rfl, rfl⟩
  | false =>
   simp only [cond_false]
   rcases nV vs is (j + 1) i with h1 | ⟨k, h1, h2⟩
   · exact cL h1
   · exact cG ⟨k + 1, by simpa using h1, by rw [h2]; congr 1; omega⟩
theorem dU.live {gv : GV} {g : Nat → PV} {lo : Nat} {e : Env} {n : Nat} {a : Act} (h : dU gv g lo w C e n a) (live : List Nat) : dU gv g lo w C (fX live (live.map e)) n a := by
 refine ⟨h.gl, h.size, fun i => ?_, h.defers⟩
 rcases nV (live.map e) live 0 i with q | ⟨k, q1, q2⟩
 · unfold fX; rw [q]; exact .u
 · unfold fX
   rw [q2, bf]
   have : ae (live.map e) k = e i := by simp [ae, q1]
   rw [this]; exact h.rep i
theorem dU.jN {gv : GV} {g : Nat → PV} {lo n : Nat} {a : Act} {live : List Nat} {vs : List PV} {m : Nat} (h : dU gv g lo w C (fX live vs) n a) (hs : vs.all (sf true m 4) = true) : dU gv g lo w (C.jN m) (fX live vs) n a := by
 refine ⟨⟨h.gl.1.of (fun _ _ x => x) rfl, h.gl.2⟩, h.size, fun i => ?_, h.defers⟩; have hi := h.rep i
 rcases nV vs live 0 i with q | ⟨k, q1, q2⟩
 · unfold fX; rw [q]; exact .u
 · unfold fX at hi ⊢
   rw [q2, bf] at hi ⊢
   cases hv : vs[k]? with
   | none => simp only [ae, List.getD, hv]; exact .u
   | some p =>
    simp only [ae, List.getD, hv, Option.getD_some] at hi ⊢; rw [dG] at hs; exact vk hi (hs p (dT hv))
theorem nM : ∀ (ps : List PV) (j i : Nat), jo j ps i = if j ≤ i then (ps[i - j]?).getD .u else .u
 | [], j, i => by simp [jo]
 | p :: ps, j, i => by
  simp only [jo, upd]
  cases h : ai i j with
  | true =>
   have := au h; subst this; simp
  | false =>
   have hne : i ≠ j := Nat.ne_of_beq_eq_false h; simp only [cond_false]; rw [nM ps (j + 1) i]
   by_cases q : j ≤ i
   · rw [if_pos (by omega), if_pos q, show i - j = (i - (j + 1)) + 1 by omega, az]
   · rw [if_neg (by omega), if_neg q]
theorem dU.enter {gv : GV} {g : Nat → PV} (hg : mc gv w C ∧ GOk gv g) {args : List PV} {xs : Array Value} {n : Nat} (hs : xs.size = args.length) (hn : args.length ≤ n) (hr : ∀ (i : Nat) (x : Value) (p : PV), xs[i]? = some x → args[i]? = some p → Rep w C x p) :
 dU gv g w.heap.size w C (jo 0 args) n { tmps := xs ++ Array.replicate (n - xs.size) undef, defers := [] } := by
 refine ⟨hg, by simp; omega, fun i => ?_, Marks.nil (aq _)⟩; rw [nM args 0 i, if_pos (dq _), Nat.sub_zero]
 cases hp : args[i]? with
 | none => exact .u
 | some p =>
  have hi := (List.getElem?_eq_some_iff.1 hp).1; have hx : xs[i]? = some (xs[i]'(by omega)) := aV (by omega)
  have : (xs ++ Array.replicate (n - xs.size) undef).getD i undef = xs[i]'(by omega) := by
   rw [aI, Array.getElem?_append_left (by omega), hx]; rfl
  simp only [this]; exact hr i _ p hx hp
end
theorem iw {P : Program} {b : Frame} {a : Act} {k : List Item} {cs : List Frame} {w : World} {c : Code} : step P (lone (b.atR a (.code (.scope c) :: k)) cs w) = .next (lone (b.atR a (.code c :: .inScope c :: k)) cs w) :=
 step_lone_go (by simp [stepG, stepG.exec, Frame.atR])
theorem si {P : Program} {b : Frame} {a : Act} {k : List Item} {cs : List Frame} {w : World} {c : Code} : step P (lone (b.atR a (.inScope c :: k)) cs w) = .next (lone (b.atR a k) cs w) :=
 step_lone_go (by simp [stepG, stepG.exec, Frame.atR])
theorem w5 {F : Fence} {n : Nat} {P : Program} {Q : Exit → Act → World → Prop} {a : Act} {w : World} {c : Code} (h : c.wpIn F n P (Exit.noGoto Q) a w) : (Code.scope c).wpIn F n P Q a w := by
 intro b k cs hro hb hr; have h0 : (lone (b.atR a (.code (.scope c) :: k)) cs w).fenced P F := fenced_calm hb hr rfl; obtain ⟨e, a₁, w₁, hq, harr⟩ := h b (.inScope c :: k) cs hro hb hr
 cases e with
 | normal => exact ⟨.normal, a₁, w₁, hq, .head h0 iw (StepsIn.trans harr (.one (fenced_calm hb hr rfl) si))⟩
 | exit id => exact ⟨.exit id, a₁, w₁, hq, fun k' hk => .head h0 iw (harr.1 k' (by simp [exitTo, hk])), fun hr' hk => let ⟨k₁, h1, h2⟩ := harr.2 hr' (by simp [exitTo, hk]); ⟨k₁, h1, .head h0 iw h2⟩⟩
 | goto l => exact hq.elim
 | ret => exact ⟨_, a₁, w₁, hq, .of_steps (.one h0 iw) harr⟩
 | panic ch => exact ⟨_, a₁, w₁, hq, .of_steps (.one h0 iw) harr⟩
 | outgrown => exact ⟨_, a₁, w₁, hq, .of_steps (.one h0 iw) harr⟩
def ra : Ex → Exit
 | .normal => .normal
 | .exit i => .exit i
 | .ret => .ret
 | .pan t x => .panic [{ v := .iface t x, recovered := false }]
structure yF (gv : GV) (lo : Nat) (w : World) (C : Ctx) (n : Nat) (a : Act) : Prop where
 gl : mc gv w C
 size : a.tmps.size = n
 defers : Marks w lo a.defers
theorem dU.pan {gv : GV} {g : Nat → PV} {lo n : Nat} {w : World} {C : Ctx} {e : Env} {a : Act} (h : dU gv g lo w C e n a) : yF gv lo w C n a := ⟨h.gl.1, h.size, h.defers⟩
def pg (gv : GV) (g : Nat → PV) (lo : Nat) (w : World) (C : Ctx) (x : Ex) (e : Env) (n : Nat) (a : Act) : Prop := match x with
 | .pan _ _ => yF gv lo w C n a
 | _ => dU gv g lo w C e n a
theorem dU.x {gv : GV} {g : Nat → PV} {lo n : Nat} {w : World} {C : Ctx} {x : Ex} {e : Env} {a : Act} (h : dU gv g lo w C e n a) : pg gv g lo w C x e n a := by
 cases x <;> first | exact h | exact h.pan
theorem pg.live {gv : GV} {g : Nat → PV} {lo n : Nat} {w : World} {C : Ctx} {x : Ex} {e : Env} {a : Act} (h : pg gv g lo w C x e n a) (live : List Nat) : pg gv g lo w C x (fX live (live.map e)) n a := by
 cases x <;> first | exact dU.live h live | exact h
theorem pg.jN {gv : GV} {g : Nat → PV} {lo n : Nat} {w : World} {C : Ctx} {x : Ex} {a : Act} {live : List Nat} {vs : List PV} {m : Nat} (h : pg gv g lo w C x (fX live vs) n a) (hs : vs.all (sf true m 4) = true) : pg gv g lo w (C.jN m) x (fX live vs) n a := by
 cases x <;> first | exact dU.jN h hs | exact ⟨h.gl.of (fun _ _ x => x) rfl, h.size, h.defers⟩
theorem pg.rel {gv : GV} {g : Nat → PV} {lo n : Nat} {w : World} {C : Ctx} {x : Ex} {e : Env} {a : Act} (h : pg gv g lo w C x e n a) (hx : mD x = false) : dU gv g lo w C e n a := by
 cases x <;> first | exact h | cases hx
section
variable {gv : GV} {Cf : Cfg} {rd : Option Nat} {lo : Nat} {bs : List (Nat × Nat × Nat)} {Q : Exit → Act → World → Prop}
theorem fK {R : Type} {c : Prop} {x : Option R} {r : R} (h : bw c x = some r) : c ∧ x = some r := by
 unfold bw at h; split at h
 · rename_i hc; exact ⟨hc, h⟩
 · cases h
theorem fD {R : Type} : ∀ {cs : List Prop} {x : Option R} {r : R}, ig cs x = some r → (∀ c ∈ cs, c) ∧ x = some r
 | [], x, r, h => ⟨by simp, h⟩
 | c :: cs, x, r, h => by
  obtain ⟨h1, h2⟩ := fK h; obtain ⟨h3, h4⟩ := fD h2; refine ⟨fun d hd => ?_, h4⟩
  rcases List.mem_cons.1 hd with rfl | hd
  · exact h1
  · exact h3 d hd
theorem iW {R : Type} (G : Good gv Cf.pn Cf.P Cf.call) (hbase : ∀ m t l, (m, t, l) ∈ bs → m ≤ Cf.base) {ops : Array Oper} {o : Oper} {e : Env} {a : Act} {w : World} {C : Ctx} {st : St} {next : Act → World → Prop}
 {K : PV → St → Option R} {N : TypeId → Value → St → Option R} {r : R} (H : Sim w C st bs) (hE : dU gv Cf.gl lo w C e Cf.n a) (h : guarded Cf ops o e st K N = some r)
 (hK : ∀ p st' v w' C', K p st' = some r → Sim w' C' st' bs → Ext w C w' C' → Rep w' C' v p → next (a.put o.dst v) w')
 (hN : ∀ t x st' w' C', N t x st' = some r → Sim w' C' st' bs → Ext w C w' C' → Q (.panic [{ v := .iface t x, recovered := false }]) a w') :
 if Region.wanted o (yielded ops a.tmps) then o.wpIn (fen rd) 0 Cf.P a w next Q else next (a.put o.dst undef) w := by
 unfold guarded at h; split at h
 · rename_i hg
   have hw : Region.wanted o (yielded ops a.tmps) = true := by simp [Region.wanted, hg]
   rw [if_pos hw]; exact qo G hbase H hE h hK hN
 · rename_i j want hg
   split at h
   · rename_i t ht
     obtain ⟨q, hq, h⟩ := Option.bind_eq_some_iff.1 h
     have hno : ∀ {x : Value}, Rep w C x (.tup []) → x = undef := fun hr => by
      cases hr with
      | tup h1 _ =>
       have := Array.eq_empty_of_size_eq_zero h1
       subst this; rfl
     unfold onG at hq; split at hq
     · rename_i b he
       have hr := hE.rep t; rw [he] at hr; have hv := (eu hr).1
       have hy : yielded ops a.tmps j = some b := by
        unfold yielded; rw [ht, ag]; rw [aI] at hv
        cases hx : a.tmps[t]? with
        | none => rw [hx] at hv; simp [undef] at hv
        | some x => rw [hx] at hv; simp at hv; subst hv; rfl
       have hw : Region.wanted o (yielded ops a.tmps) = (b == want) := by
        simp [Region.wanted, hg, hy]
       rw [hw]
       cases hbw : (b == want) with
       | true =>
        rw [hbw] at hq; simp only [cond_true] at hq; simp only [if_true]
        refine qo G hbase H hE hq (fun p st' v w' C' hk k1 k2 k3 => ?_) fun t x st' w' C' hk => by cases hk
        obtain rfl := Option.some.inj hk; exact hK p st' v w' C' h k1 k2 k3
       | false =>
        rw [hbw] at hq; simp only [cond_false] at hq; obtain rfl := Option.some.inj hq; simp only [ab, if_false]; exact hK _ _ undef w C h H (Ext.refl w C) (.tup rfl (by intro i x p hx; simp at hx))
     · rename_i he
       have hr := hE.rep t; rw [he] at hr; have hv := hno hr
       have hy : yielded ops a.tmps j = none := by
        unfold yielded; rw [ht, ag]; rw [aI] at hv
        cases hx : a.tmps[t]? with
        | none => rfl
        | some x => rw [hx] at hv; simp at hv; subst hv; rfl
       have hw : Region.wanted o (yielded ops a.tmps) = false := by
        simp [Region.wanted, hg, hy]
       rw [hw]; obtain rfl := Option.some.inj hq; simp only [ab, if_false]; exact hK _ _ undef w C h H (Ext.refl w C) (.tup rfl (by intro i x p hx; simp at hx))
     · cases hq
   · cases h
theorem qc {R : Type} (G : Good gv Cf.pn Cf.P Cf.call) (hbase : ∀ m t l, (m, t, l) ∈ bs → m ≤ Cf.base) {ops : Array Oper} {K : Env → St → Option R} {N : TypeId → Value → St → Option R} {r : R} :
 ∀ (os : List Oper) (i : Nat) (e : Env) (a : Act) (w : World) (C : Ctx) (st : St), ops.toList.drop i = os → Sim w C st bs → dU gv Cf.gl lo w C e Cf.n a → jV Cf ops os e st K N = some r →
  (∀ e' st' a' w' C', K e' st' = some r → Sim w' C' st' bs → Ext w C w' C' → dU gv Cf.gl lo w' C' e' Cf.n a' → Q .normal a' w') →
  (∀ t x st' a' w' C', N t x st' = some r → Sim w' C' st' bs → Ext w C w' C' → yF gv lo w' C' Cf.n a' → Q (.panic [{ v := .iface t x, recovered := false }]) a' w') → wpOpsIn (fen rd) 0 Cf.P ops Q (List.range' i os.length) a w
 | [], i, e, a, w, C, st, hd, H, hE, h, hK, hN => hK e st a w C h H (Ext.refl w C) hE
 | o :: os, i, e, a, w, C, st, hd, H, hE, h, hK, hN => by
  have hoi : ops[i]? = some o := by
   have : (ops.toList.drop i)[0]? = some o := by rw [hd]; rfl
   rw [gL] at this; simpa using this
  have hdr : ops.toList.drop (i + 1) = os := by
   rw [show i + 1 = i + 1 from rfl, ← List.drop_drop, hd]; rfl
  simp only [jV] at h; rw [al, List.range'_succ]; simp only [wpOpsIn, hoi]
  have hg := iW (rd := rd) (Q := Q) (next := wpOpsIn (fen rd) 0 Cf.P ops Q (List.range' (i + 1) os.length)) G hbase H hE h (fun p st' v w' C' hk k1 k2 k3 =>
   qc G hbase os (i + 1) _ _ w' C' st' hdr k1 ((hE.mono k2).put o.dst k3) hk (fun e' st'' a' w'' C'' q1 q2 q3 q4 => hK e' st'' a' w'' C'' q1 q2 (k2.trans q3) q4)
    fun t x st'' a' w'' C'' q1 q2 q3 q4 => hN t x st'' a' w'' C'' q1 q2 (k2.trans q3) q4)
   fun t x st' w' C' q1 q2 q3 => hN t x st' a w' C' q1 q2 q3 (hE.mono q3).pan
  split at hg
  · rename_i hw; rw [if_pos hw]; exact hg
  · rename_i hw; rw [if_neg hw]; exact ⟨fun _ _ => trivial, hg⟩
def vP (gv : GV) (Cf : Cfg) (rd : Option Nat) (lo : Nat) (bs : List (Nat × Nat × Nat)) : Prop := ∀ (id : Nat) (ops : Array Oper), ∀ {R : Type} {K : Env → St → Option R} {N : TypeId → Value → St → Option R} {r : R} {e : Env} {a : Act} {w : World} {C : Ctx} {st : St} {Q : Exit → Act → World → Prop}, gJ ops (Region.before ops) ops.toList 0 = true → Sim w C st bs → dU gv Cf.gl lo w C e Cf.n a →
 my Cf ops e st K N = some r →
 (∀ e' st' a' w' C', K e' st' = some r → Sim w' C' st' bs → Ext w C w' C' → dU gv Cf.gl lo w' C' e' Cf.n a' → Q .normal a' w') →
 (∀ t x st' a' w' C', N t x st' = some r → Sim w' C' st' bs → Ext w C w' C' → yF gv lo w' C' Cf.n a' → Q (.panic [{ v := .iface t x, recovered := false }]) a' w') → (Code.region id ops true).wpIn (fen rd) 0 Cf.P Q a w
theorem n9 {R : Type} {x : Ex} {A : Option R} {B : Ex → Option R} {r : R} (h : cc x A B = some r) : (x = .normal ∧ A = some r) ∨ (x ≠ .normal ∧ B x = some r) := by
 cases x with
 | normal => exact cL ⟨rfl, h⟩
 | exit i => exact cG ⟨by simp, h⟩
 | ret => exact cG ⟨by simp, h⟩
 | pan t v => exact cG ⟨by simp, h⟩
theorem ri {body : List PV → St → Option (Ex × List PV × St)} {c : Code} {live : List Nat} {C0 : Ctx} {w0 : World} {r0 : Ex × List PV × St}
 (hb : ∀ vs st w C a rb, body vs st = some rb → Sim w C st bs → Ext w0 C0 w C → dU gv Cf.gl lo w C (fX live vs) Cf.n a → ∀ Q' : Exit → Act → World → Prop,
  (∀ a' w' C', Sim w' C' rb.2.2 bs → Ext w0 C0 w' C' → pg gv Cf.gl lo w' C' rb.1 (fX live rb.2.1) Cf.n a' → Q' (ra rb.1) a' w') → c.wpIn (fen rd) 0 Cf.P Q' a w) :
 ∀ (k : Nat) (vs : List PV) (st : St) (w : World) (C : Ctx) (a : Act), iter body k vs st = some r0 → Sim w C st bs → Ext w0 C0 w C → dU gv Cf.gl lo w C (fX live vs) Cf.n a →
  (∀ a' w' C', r0.1 ≠ .normal → Sim w' C' r0.2.2 bs → Ext w0 C0 w' C' → pg gv Cf.gl lo w' C' r0.1 (fX live r0.2.1) Cf.n a' → Q (ra r0.1) a' w') → Code.roundsIn (fen rd) 0 Cf.P c Q k a w
 | 0, vs, st, w, C, a, h, _, _, _, _ => by simp [iter] at h
 | k + 1, vs, st, w, C, a, h, H, hx, hE, hQ => by
  simp only [iter] at h; obtain ⟨rb, hrb, h⟩ := Option.bind_eq_some_iff.1 h; rw [roundsIn_succ]
  refine hb vs st w C a rb hrb H hx hE _ fun a' w' C' k1 k2 k3 => ?_
  rcases n9 h with ⟨hn, h⟩ | ⟨hn, h⟩
  · rw [hn]
    exact ri hb k _ _ w' C' a' h k1 k2 (k3.rel (by rw [hn]; rfl)) hQ
  · obtain rfl := Option.some.inj h
    have := hQ a' w' C' hn k1 k2 k3
    cases hq : rb.1 with
    | normal => exact absurd hq hn
    | exit i => rw [hq] at this; exact this
    | ret => rw [hq] at this; exact this
    | pan t v => rw [hq] at this; exact this
def th (Cf : Cfg) (C : Ctx) (rd : Option Nat) : Prop := match Cf.rd, rd with
 | none, none => True
 | some i, some B => C.lp i = some B
 | _, _ => False
theorem th.mono {C C' : Ctx} {w w' : World} (h : th Cf C rd) (x : Ext w C w' C') : th Cf C' rd := by
 unfold th at h ⊢; split at h
 · trivial
 · exact x.lp _ _ h
 · exact h.elim
theorem Sim.setObj {w : World} {C : Ctx} {st : St} (H : Sim w C st bs) {B : Nat} {old ob : Obj} (hold : w.heap[B]? = some old) (hN : C.N ≤ B) (hlp : ∀ i, C.lp i ≠ some B) (h1 : ∀ arr elem fr, old ≠ Obj.cells arr elem fr)
 (h2 : ∀ arr elem fr, ob ≠ Obj.cells arr elem fr) {lo : Nat} (h3 : ∀ D, w.heap[D]? = some (Obj.deferred (some [])) → D = B → lo ≤ B) {w0 : World} {C0 : Ctx} (hx0 : Ext w0 C0 w C) (hlo : lo = w0.heap.size) :
 Sim { w with heap := w.heap.setIfInBounds B ob } C st bs ∧ Ext w0 C0 { w with heap := w.heap.setIfInBounds B ob } C ∧ ∀ {C' : Ctx} {x : Value} {p : PV}, Rep w C' x p → Rep { w with heap := w.heap.setIfInBounds B ob } C' x p := by
 have hlt : B < w.heap.size := (Array.getElem?_eq_some_iff.1 hold).1
 have hother : ∀ k ob', w.heap[k]? = some ob' → k ≠ B → ({ w with heap := w.heap.setIfInBounds B ob } : World).heap[k]? = some ob' := by
  intro k ob' h1 h2
  show (w.heap.setIfInBounds B ob)[k]? = _
  rw [dS (Ne.symm h2)]; exact h1
 have hcell : ∀ k arr elem fr, w.heap[k]? = some (Obj.cells arr elem fr) → ({ w with heap := w.heap.setIfInBounds B ob } : World).heap[k]? = some (Obj.cells arr elem fr) := fun k arr elem fr h => hother k _ h fun e => by
  subst e; rw [hold] at h; exact h1 _ _ _ (Option.some.inj h)
 have hc : ∀ B' o, World.cell? { w with heap := w.heap.setIfInBounds B ob } ⟨B', o, none⟩ = w.cell? ⟨B', o, none⟩ := by
  intro B' o
  by_cases hne : B' = B
  · subst hne
    have g1 : World.cell? { w with heap := w.heap.setIfInBounds B' ob } ⟨B', o, none⟩ = none := by
     simp only [World.cell?]; rw [Array.getElem?_setIfInBounds_self_of_lt hlt]
     cases ob <;> first | rfl | exact absurd rfl (h2 _ _ _)
    have g2 : w.cell? ⟨B', o, none⟩ = none := by
     unfold World.cell?; split
     · rename_i c e fr hq; rw [hold] at hq; exact absurd (Option.some.inj hq) (h1 _ _ _)
     · rfl
    exact g1.trans g2.symm
  · simp only [World.cell?]
    rw [dS (Ne.symm hne)]
 have hrep : ∀ {C' : Ctx} {x : Value} {p : PV}, Rep w C' x p → Rep { w with heap := w.heap.setIfInBounds B ob } C' x p := by
  intro C' x p h
  induction h with
  | u => exact .u
  | v h => exact .v h
  | agg h1 h2 _ ih => exact .agg h1 h2 fun i x p hx hp => ih i x p hx hp
  | tup h1 _ ih => exact .tup h1 fun i x p hx hp => ih i x p hx hp
  | ptr h => exact .ptr h
  | fp val h1 h2 h3 _ ih => exact .fp val h1 (fun j p hp => (hc _ _).trans (h2 j p hp)) h3 fun j p hp => ih j p hp
  | slnil h => exact .slnil h
  | sl sz val h1 h2 h3 h4 h5 h6 _ h8 ih => exact .sl sz val h1 h2 h3 h4 (fun i a j p ha hp => (hc _ _).trans (h5 i a j p ha hp)) h6 (fun i a j p ha hp => ih i a j p ha hp) h8
  | rs h1 h2 h3 h4 => exact .rs h1 h2 (hcell _ _ _ _ h3) h4
  | ni => exact .ni
  | ifc => exact .ifc
  | it h => exact .it h
  | yld h => exact .yld h
  | clo h1 _ ih => exact .clo h1 fun i x p hx hp => ih i x p hx hp
 refine ⟨⟨?_, H.dom, H.inj, fun B' o x => by simpa using H.Sok B' o x, ?_, H.iq, H.nR, H.bnd, ⟨by simpa using H.low.1, H.low.2⟩, ?_, H.jY, H.kz⟩, ?_, hrep⟩
 · intro h' b' ds hd
   obtain ⟨B2, arr2, elem2, fr2, c1, c2, c3, c4, c5, c6, c7, c8⟩ := H.blk h' b' ds hd; exact ⟨B2, arr2, elem2, fr2, c1, hcell _ _ _ _ c2, c3, c4, c5, c6, fun o x p hx' hp => hrep (c7 o x p hx' hp), fun m t l hm hbm o x p hx' hp => hrep (c8 m t l hm hbm o x p hx' hp)⟩
 · intro o t B2 f to e s x
   refine ⟨(H.tok o t B2 f to e s x).1, fun i h1 h2 => ?_⟩; obtain ⟨g1, g2, arr, elem, fr, g3, g4, g5⟩ := (H.tok o t B2 f to e s x).2 i h1 h2; exact ⟨g1, g2, arr, elem, fr, hcell _ _ _ _ g3, g4, g5⟩
 · intro i r hr
   obtain ⟨B2, c1, c2⟩ := H.lps i r hr
   have hne : B2 ≠ B := fun e => hlp i (e ▸ c1)
   refine ⟨B2, c1, ?_⟩
   cases r with
   | iter s pos => exact hother _ _ c2 hne
   | loop r =>
    obtain ⟨fn, D, tmps, g1, g2, g3, g4⟩ := c2; exact ⟨fn, D, tmps, hother _ _ g1 hne, g2, fun j => hrep (g3 j), fun m t l hm hl j => hrep (g4 m t l hm hl j)⟩
 · refine ⟨by simpa using hx0.size, hx0.N, hx0.below.trans (hx0.N ▸ oW hN ob), hx0.S, fun B' o x => (hc B' o).trans (hx0.cell B' o x), hx0.σ, hx0.tl, hx0.lp, fun h b B' x arr elem fr y => ?_, fun D h => ?_⟩
   · obtain ⟨arr', elem', fr', y', z'⟩ := hx0.shape h b B' x arr elem fr y
     exact ⟨arr', elem', fr', hcell _ _ _ _ y', z'⟩
   · have hD := hx0.dfr D h
     refine hother D _ hD fun e => ?_
     have := h3 D hD e; have := (Array.getElem?_eq_some_iff.1 h).1; omega
theorem wH (x : Ex) (h : mD x = false) : (x = .normal ∧ lK x = none) ∨ (∃ i, x = .exit i ∧ lK x = some (.exit i)) ∨ (x = .ret ∧ lK x = some .ret) := by
 cases x with
 | normal => exact cL ⟨rfl, rfl⟩
 | exit i => exact cG (cL ⟨i, rfl, rfl⟩)
 | ret => exact cG (cG ⟨rfl, rfl⟩)
 | pan t v => cases h
theorem Av {w : World} {C : Ctx} {st : St} {e : Env} {a : Act} (H : Sim w C st bs) (hE : dU gv Cf.gl lo w C e Cf.n a) (hrd : th Cf C rd) (hin : mC Cf st = true) (fn : Nat) (live : List Nat) (ps : Array Tmp) (x y : Code) (A : Ann) :
 ∃ l mark w₁ C₁, (Instr.enterLoop fn a.tmps ps x y rd).run Cf.P w = .ok (l, mark) w₁ ∧ Sim w₁ C₁ { st with lp := st.lp ++ [.loop ⟨live, live.map e, Cf.n, Cf.md, ps.toList, x, y, A, 0, .normal⟩] } ((st.stk.length, st.tk.length, st.lp.length) :: bs) ∧
  Ext w C w₁ C₁ ∧ C₁.lp st.lp.length = some l ∧ Marks w₁ lo (mark ++ a.defers) := by
 have H' := H.enter
 have aux : ∀ (w' : World) (D B : Nat) (C' : Ctx), w'.heap[B]? = some (.loop { state := .ready, pending := none, fn := fn, tmps := a.tmps, params := ps, assign := x, body := y, defers := D }) → Ext w C w' C' →
  (∀ m t l, (m, t, l) ∈ (st.stk.length, st.tk.length, st.lp.length) :: bs → l ≤ st.lp.length) →
  lS w' C' ((st.stk.length, st.tk.length, st.lp.length) :: bs) st.lp.length B (.loop ⟨live, live.map e, Cf.n, Cf.md, ps.toList, x, y, A, 0, .normal⟩) := by
  intro w' D B C' hB hx hl; refine ⟨fn, D, a.tmps, ?_, hE.size, fun j => ?_, fun m t l hm hlt => ?_⟩
  · rw [hB]; simp [mJ, oZ, lK]
  · exact ((hE.live live).rep j).mono hx
  · have := hl m t l hm; omega
 cases rd with
 | none =>
  obtain ⟨h1, h2⟩ := H'.alloc (.deferred (some [])); have hE1 := hE.mono h2
  obtain ⟨C', k1, k2, k3⟩ := h1.wK (w' := { w with heap := (w.heap.push (.deferred (some []))).push (.loop { state := .ready, pending := none, fn := fn, tmps := a.tmps, params := ps, assign := x, body := y, defers := w.heap.size }) })
   (r := .loop ⟨live, live.map e, Cf.n, Cf.md, ps.toList, x, y, A, 0, .normal⟩) rfl rfl rfl rfl (fun C' hx hl => aux _ w.heap.size _ C' (by
    show ((w.heap.push (Obj.deferred (some []))).push _)[(w.heap.push (Obj.deferred (some []))).size]? = _
    exact Array.getElem?_push_size) (h2.trans hx) hl)
  refine ⟨w.heap.size + 1, [⟨.collected w.heap.size, #[]⟩], _, C', ?_, k1, h2.trans k2, by simpa using k3, ?_⟩
  · simp [Instr.enterLoop]
    rfl
  · have hm := hE.defers.mono (h2.trans k2)
    refine ⟨hm.le, fun d hd => ?_, ?_⟩
    · rcases List.mem_append.1 hd with hd | hd
      · simp at hd
        subst hd; refine ⟨w.heap.size, rfl, hE.defers.le, ?_⟩
        show ((w.heap.push (Obj.deferred (some []))).push _)[w.heap.size]? = _
        rw [Array.getElem?_push, if_neg (by simp)]; simp
      · exact hm.ok d hd
    · refine List.pairwise_append.2 ⟨by simp, hm.nd, fun d1 hd1 d2 hd2 D hD hq => ?_⟩
      simp at hd1; subst hd1; obtain ⟨D', rfl, _, h3⟩ := hE.defers.ok d2 hd2; simp at hD hq; have := (Array.getElem?_eq_some_iff.1 h3).1; omega
 | some B =>
  unfold th at hrd
  cases hcr : Cf.rd with
  | none => rw [hcr] at hrd; exact hrd.elim
  | some i =>
   rw [hcr] at hrd; simp only at hrd; unfold mC at hin; rw [hcr] at hin; simp only [ao] at hin; obtain ⟨q, hq⟩ := Option.isSome_iff_exists.1 hin.2
   have hq' : st.lp[i]? = some (.loop q) := by
    unfold St.loop at hq; split at hq
    · rename_i r hr; rw [hr, Option.some.inj hq]
    · cases hq
   obtain ⟨B', a1, fn', D, tmps, a2, a3, a4, a5⟩ := H.lps i _ hq'; rw [hrd] at a1; obtain rfl := Option.some.inj a1
   obtain ⟨C', k1, k2, k3⟩ := H'.wK (w' := { w with heap := w.heap.push (.loop { state := .ready, pending := none, fn := fn, tmps := a.tmps, params := ps, assign := x, body := y, defers := D }) })
    (r := .loop ⟨live, live.map e, Cf.n, Cf.md, ps.toList, x, y, A, 0, .normal⟩) rfl rfl rfl rfl (fun C' hx hl => aux _ D _ C' (by simp) hx hl)
   refine ⟨w.heap.size, [], _, C', ?_, k1, k2, k3, hE.defers.mono k2⟩; simp [Instr.enterLoop, run_newObj, Instr.getLoop, getObj, Sem.run, a2, mJ]
def yv (l : Nat) : Value := .func (.yield l) #[] #[]
theorem tN {P : Program} {n : Nat} {w : World} {C : Ctx} {st : St} {e : Env} {a : Act} {g : Nat → PV} (H : Sim w C st bs) (hE : dU gv g lo w C e n a) {w₁ w₃ : World} {C₁ C₃ : Ctx} {l : Nat} {mark : List Deferred} {s : St} {lp : Lp}
 (e3 : Ext w C w₁ C₁) (e4 : C₁.lp st.lp.length = some l) (e5 : Marks w₁ lo (mark ++ a.defers)) (k1 : Sim w₃ C₃ s ((st.stk.length, st.tk.length, st.lp.length) :: bs)) (k2 : Ext w₁ C₁ w₃ C₃)
 (hlq : s.loop st.lp.length = some lp) (hat : ai lp.at_ 1 = false) :
 ∃ w₄ C₄, (Instr.endLoop l).run P w₃ = .ok (lK lp.nv) w₄ ∧ Sim w₄ C₄ (s.back st.stk.length st.tk.length st.lp.length) bs ∧ Ext w C w₄ C₄ ∧ dU gv g lo w₄ C₄ e n { a with defers := mark ++ a.defers } := by
 have hlq' : s.lp[st.lp.length]? = some (.loop lp) := by
  unfold St.loop at hlq; split at hlq
  · rename_i r hr; rw [hr, Option.some.inj hlq]
  · cases hlq
 obtain ⟨B', a1, fn', D, tmps, a2, a3, a4, a5⟩ := k1.lps _ _ hlq'; rw [k2.lp _ _ e4] at a1; obtain rfl := Option.some.inj a1; have hxx := e3.trans k2
 have hL := k1.leave (bH ..) (bs' := bs) (fun _ x => bZ _ x) fun m t l hm => H.bnd m t l hm
 have hX := H.mz hxx
 have hlpl : ∀ i, (C₃.cut st.stk.length st.tk.length st.lp.length).lp i ≠ some l := by
  intro i hi; simp only [Ctx.cut] at hi; split at hi
  · have := k1.kz _ _ _ hi (k2.lp _ _ e4)
    omega
  · cases hi
 have hnb : (oZ lp.at_ == .busy) = false := by
  have : lp.at_ ≠ 1 := Nat.ne_of_beq_eq_false hat
  match hh : lp.at_ with
  | 0 => rfl
  | 1 => exact absurd hh this
  | n + 2 => rfl
 obtain ⟨m1, m2, _⟩ := hL.setObj (ob := .loop { mJ lp fn' D tmps with state := .exhausted }) a2 (by have := k1.low.2.2 _ _ (k2.lp _ _ e4); exact this) hlpl (by intro _ _ _ q; cases q) (by intro _ _ _ q; cases q)
  (lo := w.heap.size) (fun D' h1 h2 => by subst h2; rw [a2] at h1; cases h1) hX rfl
 have hend : (Instr.endLoop l).run P w₃ = .ok (lK lp.nv) { w₃ with heap := w₃.heap.setIfInBounds l (.loop { mJ lp fn' D tmps with state := .exhausted }) } := by
  have a2' : w₃.heap[l]? = some (.loop { state := oZ lp.at_, pending := lK lp.nv, fn := fn', tmps := tmps, params := lp.ps.toArray, assign := lp.assign, body := lp.body, defers := D }) := a2; simp only [Instr.endLoop, Instr.getLoop, getObj, setObj, Sem.run_bind, Sem.run, a2', Result.andThen]; simp [hnb, mJ, Sem.run, a2']
 refine ⟨_, _, hend, m1, m2, (hE.mono m2).gl, hE.size, (hE.mono m2).rep, ?_⟩; have hm3 := e5.mono k2; refine ⟨by simpa using hm3.le, fun d hd => ?_, hm3.nd⟩; obtain ⟨D', h1, h2, h3⟩ := hm3.ok d hd; refine ⟨D', h1, h2, ?_⟩
 show (w₃.heap.setIfInBounds l _)[D']? = _
 rw [dS]
 · exact h3
 · rintro rfl; rw [a2] at h3; cases h3
theorem lG (G : Good gv Cf.pn Cf.P Cf.call) {k : Nat} (hk : Cf.it = itK k) (hbase : ∀ m t l, (m, t, l) ∈ bs → m ≤ Cf.base) (tb : Nat) (hmem : (Cf.base, tb, Cf.lb) ∈ bs) (hD : vP gv Cf rd lo bs) :
 ∀ (c : Code) (A : Ann) (e : Env) (st : St) {R : Type} (K : Ex → Env → St → Option R) (r : R) (a : Act) (w : World) (C : Ctx) (Q : Exit → Act → World → Prop), fB Cf c A e st K = some r → Sim w C st bs → dU gv Cf.gl lo w C e Cf.n a → th Cf C rd →
  (∀ x e' st' a' w' C', K x e' st' = some r → Sim w' C' st' bs → Ext w C w' C' → pg gv Cf.gl lo w' C' x e' Cf.n a' → Q (ra x) a' w') → c.wpIn (fen rd) 0 Cf.P Q a w := by
 intro c
 induction c with
 | skip => intro A e st R K r a w C Q h H hE hr hK; exact wpIn_skip (hK .normal e st a w C h H (Ext.refl w C) hE)
 | region id ops d =>
  intro A e st R K r a w C Q h H hE hr hK
  cases d with
  | false =>
   have h : jV Cf ops ops.toList e st (fun e' st' => K .normal e' st') (fun t x st' => K (.pan t x) e st') = some r := h; refine wpIn_region ?_
   have := qc (rd := rd) (Q := Q) G hbase ops.toList 0 e a w C st rfl H hE h (fun e' st' a' w' C' q1 q2 q3 q4 => hK .normal e' st' a' w' C' q1 q2 q3 q4)
    fun t x st' a' w' C' q1 q2 q3 q4 => hK (.pan t x) e st' a' w' C' q1 q2 q3 q4
   rw [List.range_eq_range']; simpa using this
  | true =>
   have h : (bif gJ ops (Region.before ops) ops.toList 0 then my Cf ops e st (fun e' st' => K .normal e' st') (fun t x st' => K (.pan t x) e st') else none) = some r := h
   cases hc : gJ ops (Region.before ops) ops.toList 0 with
   | false => rw [hc] at h; simp at h
   | true =>
    rw [hc] at h
    exact hD id ops hc H hE h (fun e' st' a' w' C' q1 q2 q3 q4 => hK .normal e' st' a' w' C' q1 q2 q3 q4)
     fun t x st' a' w' C' q1 q2 q3 q4 => hK (.pan t x) e st' a' w' C' q1 q2 q3 q4
 | seq x y ihx ihy =>
  intro A e st R K r a w C Q h H hE hr hK; refine wpIn_seq (ihx A.x e st _ r a w C _ h H hE hr fun z e' st' a' w' C' q1 q2 q3 q4 => ?_)
  rcases n9 q1 with ⟨rfl, q1⟩ | ⟨hn, q1⟩
  · exact ihy A.y e' st' K r a' w' C' Q q1 q2 q4 (hr.mono q3) fun z e'' st'' a'' w'' C'' p1 p2 p3 p4 => hK z e'' st'' a'' w'' C'' p1 p2 (q3.trans p3) p4
  · have := hK z e' st' a' w' C' q1 q2 q3 q4
    cases z with
    | normal => exact absurd rfl hn
    | exit i => exact this
    | ret => exact this
    | pan t v => exact this
 | cond b x y ihx ihy =>
  intro A e st R K r a w C Q h H hE hr hK; have h : aD (dK Cf.gl e b) (fun t => (bif t then fB Cf x A.x e st (leave A.live) else fB Cf y A.y e st (leave A.live)).bind fun r => K r.1 (fX A.live r.2.1) r.2.2) = some r := h; unfold aD at h; split at h
  · rename_i t ht
    have hrr := cn hE b; rw [ht] at hrr; have hv := (eu hrr).1; obtain ⟨q, hq, h⟩ := Option.bind_eq_some_iff.1 h; refine wpIn_cond hv ?_
    have hjoin : ∀ z e' st' a' w' C', leave A.live z e' st' = some q → Sim w' C' st' bs → Ext w C w' C' → pg gv Cf.gl lo w' C' z e' Cf.n a' → Q (ra z) a' w' := by
     intro z e' st' a' w' C' p1 p2 p3 p4; obtain rfl := Option.some.inj p1; exact hK z _ st' a' w' C' h p2 p3 (p4.live A.live)
    cases t with
    | true => exact ihx A.x e st _ q a w C Q hq H hE hr hjoin
    | false => exact ihy A.y e st _ q a w C Q hq H hE hr hjoin
  · cases h
 | block id x ih =>
  intro A e st R K r a w C Q h H hE hr hK; refine wpIn_block (ih A.x e st _ r a w C _ h H hE hr fun z e' st' a' w' C' q1 q2 q3 q4 => ?_); have := hK (z.bh id) e' st' a' w' C' q1 q2 q3 (by cases z <;> first | exact q4 | (simp only [Ex.bh]; cases ai _ id <;> exact q4))
  cases z with
  | normal => exact this
  | ret => exact this
  | pan t v => exact this
  | exit i =>
   simp only [ra, Exit.inBlock]
   by_cases hi : i = id
   · subst hi
     rw [if_pos rfl]; have hb : ai i i = true := Nat.beq_refl i; simp only [Ex.bh, hb, cond_true] at this; exact this
   · rw [if_neg hi]
     have hb : ai i id = false := by
      cases hq : ai i id with
      | false => rfl
      | true => exact absurd (au hq) hi
     simp only [Ex.bh, hb, cond_false] at this; exact this
 | loop x ih =>
  intro A e st R K r a w C Q h H hE hr hK; obtain ⟨q, hq, h⟩ := Option.bind_eq_some_iff.1 h; rw [hk] at hq; refine wpIn_loop_rounds k ?_
  refine ri (rd := rd) (live := A.live) (C0 := C) (w0 := w) (fun vs s w1 C1 a1 rb hrb H1 hx1 hE1 Q' hQ' => ?_) k _ st w C a hq H (Ext.refl w C) (hE.live A.live) fun a' w' C' _ p2 p3 p4 => hK q.1 _ _ a' w' C' h p2 p3 p4
  refine ih A.x _ s _ rb a1 w1 C1 Q' hrb H1 hE1 (hr.mono hx1) fun z e' st' a' w' C' p1 p2 p3 p4 => ?_
  cases htr : A.tr with
  | false =>
   rw [htr] at p1; obtain rfl := Option.some.inj p1; exact hQ' a' w' C' p2 (hx1.trans p3) (p4.live A.live)
  | true =>
   rw [htr] at p1; have p1 : il Cf.base Cf.lb s.stk.length z (A.live.map e') st' = some rb := p1; unfold il at p1
   cases hc : (st'.lp.drop Cf.lb).all fm && (A.live.map e').all (sf true s.stk.length 4) && ((st'.stk.drop Cf.base).take (s.stk.length - Cf.base)).all (fun b => b.cs.all (sf true s.stk.length 4)) with
   | false => rw [hc] at p1; simp at p1
   | true =>
    rw [hc] at p1; obtain rfl := Option.some.inj p1; rw [ao, ao] at hc; have hbm : Cf.base ≤ s.stk.length := (H1.bnd _ _ _ hmem).1
    have hm : s.stk.length ≤ st'.stk.length := by
     rcases Nat.lt_or_ge st'.stk.length s.stk.length with hlt | hge
     · exfalso
       obtain ⟨blk, hblk⟩ : ∃ x, s.stk[st'.stk.length]? = some x := ⟨_, dF hlt⟩
       obtain ⟨B, arr, elem, fr, a1, _⟩ := H1.blk false st'.stk.length blk.cs (by simp [St.blk, St.bk, hblk]); have := p2.EP (p3.σ _ _ _ a1); omega
     · exact hge
    refine hQ' a' w' (C'.jN s.stk.length) (p2.EM hmem hbm hbase hm hc.1.1 hc.2) (hx1.trans (Az p3 (fun b B x => H1.EP x) fun b t y x => ?_)) ((p4.live A.live).jN hc.1.2)
    rcases Nat.lt_or_ge b s.stk.length with z' | z'
    · exact z'
    · rw [H1.uc (a := false) z' t] at x; cases x
 | rangeFunc g ps x y _ _ =>
  intro A e st R K r a w C Q h H hE hr hK
  have h : fP (dK Cf.gl e g) (fun f caps => bif mC Cf st && eQ f then
   (Cf.call f (.clo (.yield st.lp.length) [] :: caps) { st with lp := st.lp ++ [.loop ⟨A.live, A.live.map e, Cf.n, Cf.md, ps.toList, x, y, A.x, 0, .normal⟩] }).bind fun r => dP r fun _ s => lV s st.stk.length st.tk.length st.lp.length fun x s => K x e s
    else none) = some r := h
  obtain ⟨f, caps, hf, hin, h⟩ : ∃ f caps, dK Cf.gl e g = .clo (.func f) caps ∧ mC Cf st = true ∧
   ((Cf.call (.func f) (.clo (.yield st.lp.length) [] :: caps) { st with lp := st.lp ++ [.loop ⟨A.live, A.live.map e, Cf.n, Cf.md, ps.toList, x, y, A.x, 0, .normal⟩] }).bind fun r => dP r fun _ s => lV s st.stk.length st.tk.length st.lp.length fun x s => K x e s) = some r := by
   unfold fP at h; split at h
   · rename_i f caps hf
     dsimp only at h
     cases hb : mC Cf st && eQ (.func f) with
     | false => rw [hb] at h; simp at h
     | true =>
      rw [hb] at h; rw [ao] at hb; exact ⟨f, caps, hf, hb.1, h⟩
   · simp [eQ] at h
   · cases h
  obtain ⟨q, hq, h⟩ := Option.bind_eq_some_iff.1 h; obtain ⟨hnp, h⟩ := lI h; have hrf := cn hE g; rw [hf] at hrf
  obtain ⟨cs, hcs, hcl, hcr⟩ : ∃ cs : Array Value, a.eval g = .func (.func f) #[] cs ∧ cs.size = caps.length ∧ ∀ (i : Nat) (x : Value) (p : PV), cs[i]? = some x → caps[i]? = some p → Rep w C x p := by
   cases hv : a.eval g <;> rw [hv] at hrf <;> cases hrf
   rename_i h1 h2; exact ⟨_, rfl, h1, h2⟩
  refine wpIn_rangeFunc fun fn _ => ?_
  obtain ⟨l, mark, w₁, C₁, e1, e2, e3, e4, e5⟩ := Av H hE hr hin fn A.live ps x y A.x; obtain ⟨gp, ⟨fnc, g1, g2, g3⟩, gc⟩ := G _ _ _ q hq
  have hargs : (#[Operand.const (.func (.yield l) #[] #[])] : Array Operand).map a.eval = #[yv l] := by simp [Act.eval, yv]
  have hres : (resolve a.eval (rangeCall g l) 0).run Cf.P w₁ = .ok { target := .fn (.func f) cs, args := #[yv l] } w₁ := by
   simp only [resolve]; rw [hargs, hcs]; simp [Deferred.ofValue]
  have hinv : (invoke (.fn (.func f) cs) #[yv l]).run Cf.P w₁ = .ok (.enter f (#[yv l] ++ cs)) w₁ := lj g1 g2 g3 w₁; refine ⟨l, mark, w₁, { target := .fn (.func f) cs, args := #[yv l] }, w₁, f, #[yv l] ++ cs, w₁, e1, hres, fun _ _ => trivial, hinv, fun z => by simp [fen, Fence.wide] at z, mn ?_⟩; refine (gc w₁ C₁ _ (#[yv l] ++ cs) (hE.gl.1.mono e3) e2 (by simp [hcl]; omega) fun i v p hv hp => ?_).mono ?_
  · cases i with
    | zero =>
     have hp' : p = .clo (.yield st.lp.length) [] := by simpa using hp.symm
     have hv' : v = yv l := by
      rw [Array.getElem?_append_left (by simp)] at hv; simpa using hv.symm
     rw [hp', hv']; exact .yld e4
    | succ i =>
     simp at hp; rw [Array.getElem?_append_right (by simp)] at hv; exact (hcr i v p (by simpa using hv) hp).mono e3
  · rintro e' w₃ ⟨C₃, k1, k2, k3⟩
    obtain ⟨v, rfl, k4⟩ := k3.ret hnp; unfold lV at h
    cases hlq : q.2.loop st.lp.length with
    | none => rw [hlq] at h; cases h
    | some lp =>
     rw [hlq] at h; simp only at h
     cases hat2 : ai lp.at_ 1 || mD lp.nv with
     | true => rw [hat2] at h; simp at h
     | false =>
      rw [hat2] at h; simp only [cond_false] at h; rw [Bool.or_eq_false_iff] at hat2; obtain ⟨hat, hpp⟩ := hat2; obtain ⟨w₄, C₄, hend, m1, m2, hE'⟩ := tN (P := Cf.P) H hE e3 e4 e5 k1 k2 hlq hat; refine ⟨_, _, hend, ?_⟩; have hKK := hK lp.nv e _ _ _ _ h m1 m2 hE'.x
      rcases wH lp.nv hpp with ⟨p1, p2⟩ | ⟨i, p1, p2⟩ | ⟨p1, p2⟩
      · rw [p2]; rw [p1] at hKK; exact hKK
      · rw [p2]; rw [p1] at hKK; exact wpIn_exit hKK
      · rw [p2]; rw [p1] at hKK; exact wpIn_ret hKK
 | exit id => intro A e st R K r a w C Q h H hE hr hK; exact wpIn_exit (hK (.exit id) e st a w C h H (Ext.refl w C) hE)
 | ret => intro A e st R K r a w C Q h H hE hr hK; exact wpIn_ret (hK .ret e st a w C h H (Ext.refl w C) hE)
 | scope x ih =>
  intro A e st R K r a w C Q h H hE hr hK; refine w5 (ih A e st K r a w C _ h H hE hr fun z e' st' a' w' C' q1 q2 q3 q4 => ?_); have := hK z e' st' a' w' C' q1 q2 q3 q4
  cases z <;> exact this
 | label l => intro A e st R K r a w C Q h H hE hr hK; exact wpIn_label (hK .normal e st a w C h H (Ext.refl w C) hE)
 | goto l => intro A e st R K r a w C Q h H hE hr hK; cases h
 | refuse s => intro A e st R K r a w C Q h H hE hr hK; cases h
end
section
variable {Cf : Cfg}
theorem wF {g : Nat → PV} {e e' : Env} {x : Operand} (h : ∀ t, x = .tmp t → e t = e' t) : dK g e x = dK g e' x := by
 cases x with
 | tmp t => exact h t rfl
 | _ => rfl
theorem vz {R : Type} {o : Oper} {e e' : Env} {st : St} {K : PV → St → Option R} {N : TypeId → Value → St → Option R} (h : ∀ t, .tmp t ∈ o.op.operands → e t = e' t) : iv Cf o e st K N = iv Cf o e' st K N := by
 have ho : ∀ x, x ∈ o.op.operands → dK Cf.gl e x = dK Cf.gl e' x := fun x hx => wF fun t ht => h t (ht ▸ hx)
 have hps : ∀ ps : Array (Nat × Operand), (∀ x ∈ ps.toList.map (·.2), x ∈ o.op.operands) → (ps.toList.map fun p => (p.1, dK Cf.gl e p.2)) = (ps.toList.map fun p => (p.1, dK Cf.gl e' p.2)) := by
  intro ps hx
  refine List.map_congr_left fun p hp => ?_
  rw [ho p.2 (hx _ (List.mem_map.2 ⟨p, hp, rfl⟩))]
 have hop : ∀ x : Option Operand, (∀ y, x = some y → y ∈ o.op.operands) → x.map (dK Cf.gl e) = x.map (dK Cf.gl e') := by
  intro x hx
  cases x with
  | none => rfl
  | some y => simp only [aP]; rw [ho y (hx y rfl)]
 unfold iv
 cases hq : o.op <;> (try simp only []) <;> (rw [hq] at ho hps hop; simp only [Op.operands] at ho hps hop)
 case move x => rw [ho x (by simp)]
 case assign x => rw [ho x (by simp)]
 case pick c a b => rw [ho c (by simp), ho a (by simp), ho b (by simp)]
 case range t x => rw [ho x (by simp)]
 case next x b => cases b <;> first | rfl | (simp only []; rw [ho x (by simp)])
 case makeSlice t x y => rw [ho x (by simp), ho y (by simp)]
 case box t x => rw [ho x (by simp)]
 case build t ps => rw [hps ps (fun x hx => by simpa using hx)]
 case buildSlice t n ps => rw [hps ps (fun x hx => by simpa using hx)]
 case load t x => rw [ho x (by simp)]
 case store t x y => rw [ho x (by simp), ho y (by simp)]
 case nilCheck x => rw [ho x (by simp)]
 case binOp op t x y yt => rw [ho x (by simp), ho y (by simp)]
 case unOp op t x => rw [ho x (by simp)]
 case convert s d x => rw [ho x (by simp)]
 case makeFunc f fs cs =>
  have : cs.toList.map (fun x => dK Cf.gl e x) = cs.toList.map (fun x => dK Cf.gl e' x) := List.map_congr_left fun x hx => ho x (by simp; right; simpa using hx)
  rw [this]
 case slice t x lo hi mx =>
  rw [ho x (by simp), hop lo (fun y hy => by subst hy; simp), hop hi (fun y hy => by subst hy; simp), hop mx (fun y hy => by subst hy; simp)]
 case fieldAddr s x f => rw [ho x (by simp)]
 case field s x f => rw [ho x (by simp)]
 case indexAddr t x i => rw [ho x (by simp), ho i (by simp)]
 case index t x i => rw [ho x (by simp), ho i (by simp)]
 case extract x i => rw [ho x (by simp)]
 case panic x => rw [ho x (by simp)]
 case makeInterface t x => rw [ho x (by simp)]
 case call c =>
  have hargs : ∀ x ∈ c.args, dK Cf.gl e x = dK Cf.gl e' x := fun x hx => ho x (by simp [Call.operands, hx])
  have h1 : c.args.toList.map (fun x => dK Cf.gl e x) = c.args.toList.map (fun x => dK Cf.gl e' x) := List.map_congr_left fun x hx => hargs x (by simpa using hx)
  have h2 : nN (dK Cf.gl e) c.args = nN (dK Cf.gl e') c.args := List.map_congr_left fun x hx => by rw [hargs x (by simpa using hx)]
  cases hc : c.callee with
  | builtin b => simp only []; rw [h1]
  | value f =>
   have hf := ho f (by simp [Call.operands, hc])
   cases f <;> simp only [] <;> first | rw [h2, hf] | rw [h2]
  | invoke r m => rfl
theorem sb {R : Type} {ops : Array Oper} {o : Oper} {e e' : Env} {st : St} {K : PV → St → Option R} {N : TypeId → Value → St → Option R} (h : ∀ t ∈ tmpsOf ops o, e t = e' t) : guarded Cf ops o e st K N = guarded Cf ops o e' st K N := by
 have hs : ∀ {R : Type} (K : PV → St → Option R) (N : TypeId → Value → St → Option R), iv Cf o e st K N = iv Cf o e' st K N := fun K N => vz fun t ht => h t (by
  unfold tmpsOf
  refine List.mem_append_left _ (List.mem_append_right _ (List.mem_filterMap.2 ⟨.tmp t, by simpa using ht, rfl⟩)))
 unfold guarded
 cases hg : o.guard with
 | none => exact hs K N
 | some q =>
  obtain ⟨j, want⟩ := q; simp only []
  cases ht : (ops[j]?).bind (·.dst) with
  | none => rfl
  | some t =>
   simp only []
   rw [hs, h t (by
    unfold tmpsOf; refine List.mem_append_right _ ?_; simp only [hg, ht]
    simp)]
theorem du {R : Type} {ops : Array Oper} {o : Oper} {e : Env} {st : St} {K : PV → St → Option R} {N : TypeId → Value → St → Option R} : guarded Cf ops o e st K N = (alone Cf ops o e st).bind fun q => ma q K N := by
 have hb : ∀ (m : Nat) (b : Builtin) (ats : Array TypeId) (xs : List PV) {R : Type} (K : PV → St → Option R) (N : TypeId → Value → St → Option R), nG Cf m b ats xs st K = (nG Cf m b ats xs st (fun p s => some (Rs.ret p, s))).bind fun q => ma q K N := by
  intro m b ats xs R K N; unfold nG; split
  · simp [fO, ma]
  · simp [fO, ma]
  · simp [fO, ma]
  · simp [fO, ma]
  · split
    · rfl
    · simp [fO, ma]
    · rfl
  · split
    · simp [fO, ma]
    · rfl
  · simp [fO, ma]
  · rfl
 have hr : ∀ (r : PV × St) {R : Type} (K : PV → St → Option R) (N : TypeId → Value → St → Option R), aL r K N = (aL r (fun p s => some (Rs.ret p, s)) fun t x s => some (Rs.pan t x, s)).bind fun q => ma q K N := by
  intro r R K N; obtain ⟨p, s⟩ := r
  cases p <;> rfl
 have hn : ∀ (r : PV × St) {R : Type} (K : PV → St → Option R) (N : TypeId → Value → St → Option R), dP r K = (dP r (fun p s => some (Rs.ret p, s))).bind fun q => ma q K N := by
  intro r R K N; obtain ⟨p, s⟩ := r
  cases p <;> rfl
 have hs : ∀ {R : Type} (K : PV → St → Option R) (N : TypeId → Value → St → Option R), iv Cf o e st K N = (iv Cf o e st (fun p s => some (Rs.ret p, s)) fun t x s => some (Rs.pan t x, s)).bind fun q => ma q K N := by
  intro R K N; unfold iv
  cases hq : o.op <;> simp only [fO, ag, bg, ma]
  case load t x =>
   cases Cf.P.underlying t with
   | none => rfl
   | some d => simp [fO, ma]
  case call c =>
   cases hc : c.callee with
   | builtin b => simp only []; exact hb _ b _ _ K N
   | value f =>
    cases f with
    | func g =>
     simp only [fO]
     congr 1
     funext r
     cases uO Cf g with
     | true => exact hr r K N
     | false => rfl
    | _ =>
     simp only [fP]; split
     · simp only [fO]; congr 1; funext r; exact hn r K N
     · simp only [fO]; congr 1; funext r; exact hn r K N
     · rfl
   | invoke r m => rfl
  case next x b =>
   cases b
   · rfl
   · simp [fO, ma]
  case buildSlice t n ps =>
   cases ai (Cf.md.of o.dst) 0 <;> simp [fO, ma]
  case panic x =>
   unfold sN
   split <;> rfl
 unfold alone guarded
 cases hg : o.guard with
 | none => exact hs K N
 | some q =>
  obtain ⟨j, want⟩ := q; simp only []
  cases ht : (ops[j]?).bind (·.dst) with
  | none => rfl
  | some t => simp [fO, ma]
theorem jH {ops : Array Oper} {o : Oper} {e : Env} {st : St} {p : PV} {st' : St} (hk : kindOf Cf.imp Cf.md o = .quiet) (h : alone Cf ops o e st = some (.ret p, st')) : ∀ s, alone Cf ops o e s = some (.ret p, s) := by
 have hs : ∀ {T : Type} (J : PV → T) {N : TypeId → Value → St → Option (T × St)} {v : T} {st' : St}, iv Cf o e st (fun p s => some (J p, s)) N = some (v, st') → ∀ s, iv Cf o e s (fun p s => some (J p, s)) N = some (v, s) := by
  intro T J N v st' h s; unfold iv at h ⊢
  cases hq : o.op <;> rw [hq] at h <;> simp only [] at h ⊢ <;> first
   | (obtain ⟨y, hy, h⟩ := Option.bind_eq_some_iff.1 h; rw [hy]; cases h; rfl)
   | (cases h; rfl)
   | (simp [kindOf, hq] at hk; done)
   | (cases h; done)
   | skip
  case buildSlice t n ps =>
   have hm : ai (Cf.md.of o.dst) 0 = true := by
    cases hb : ai (Cf.md.of o.dst) 0 with
    | true => rfl
    | false => simp only [kindOf, hq, hb, cond_false] at hk; cases hk
   rw [hm] at h ⊢; simp only [cond_true] at h ⊢
   obtain ⟨y, hy, h⟩ := Option.bind_eq_some_iff.1 h; rw [hy]; cases h; rfl
  case call c =>
   cases hc : c.callee with
   | builtin b =>
    rw [hc] at h; simp only [] at h ⊢; unfold nG at h ⊢
    cases b <;> simp only [] at h ⊢ <;> first
     | (exact absurd h (by simp))
     | (simp [kindOf, hq, hc, Ds] at hk; done)
     | skip
    all_goals
     split at h
     all_goals first
      | (obtain ⟨y, hy, h⟩ := Option.bind_eq_some_iff.1 h; rw [hy]; cases h; rfl)
      | (exact absurd h (by simp))
      | (simp_all; done)
   | value f =>
    exfalso
    simp only [kindOf, hq, hc] at hk
    cases f <;> simp at hk
    rename_i g
    cases hi : Cf.imp.any (ai g) <;> rw [hi] at hk <;> simp at hk
   | invoke r m => rw [hc] at h; exact absurd h (by simp)
 intro s; unfold alone guarded at h ⊢
 cases hg : o.guard with
 | none => rw [hg] at h; exact hs Rs.ret h s
 | some q =>
  obtain ⟨j, want⟩ := q; rw [hg] at h; simp only [] at h ⊢
  cases ht : (ops[j]?).bind (·.dst) with
  | none => rw [ht] at h; exact absurd h (by simp)
  | some t =>
   rw [ht] at h; simp only [] at h ⊢; obtain ⟨y, hy, h⟩ := Option.bind_eq_some_iff.1 h; unfold onG at hy ⊢; split at hy
   · rename_i b hb
     cases hw : (b == want) with
     | true =>
      simp only [hw, cond_true] at hy ⊢; obtain ⟨y1, y2⟩ := y; have h2 : iv Cf o e s (fun p s => some (p, s)) (fun _ _ _ => none) = some (y1, s) := hs (fun p => p) hy s; rw [h2]
      cases h; rfl
     | false =>
      simp only [hw, cond_false] at hy ⊢
      cases hy; cases h; rfl
   · rename_i hb
     cases hy; cases h; rfl
   · cases hy
end
section
variable {Cf : Cfg}
def kd (Cf : Cfg) (ops : Array Oper) (i : Nat) : Kind := match ops[i]? with
 | some o => kindOf Cf.imp Cf.md o
 | none => .quiet
def bit (ops : Array Oper) (i j : Nat) : Bool := ((Region.before ops).getD i 0).testBit j
def kdd (Cf : Cfg) (ops : Array Oper) (dd : Nat → Bool) (i : Nat) : Kind := bif dd i then .quiet else kd Cf ops i
structure Trace (Cf : Cfg) (ops : Array Oper) (dd : Nat → Bool) (i0 n : Nat) (e0 : Env) (s0 : St) (seen : List Seen) (aG : List (Nat × St)) (E : Nat → Env) (S : Nat → St) (p : Nat → PV) : Prop where
 E0 : E i0 = e0
 S0 : S i0 = s0
 dead : ∀ i, i0 ≤ i → i < n → dd i = true → E (i + 1) = E i ∧ S (i + 1) = S i
 step : ∀ i o, i0 ≤ i → i < n → ops[i]? = some o → dd i = false → E (i + 1) = put Cf.n (E i) o.dst (p i)
 quiet : ∀ i o, i0 ≤ i → i < n → ops[i]? = some o → dd i = false → kindOf Cf.imp Cf.md o = .quiet → (∀ s, alone Cf ops o (E i) s = some (.ret (p i), s)) ∧ S (i + 1) = S i
 reads : ∀ i o, i0 ≤ i → i < n → ops[i]? = some o → dd i = false → kindOf Cf.imp Cf.md o = .reads → alone Cf ops o (E i) (S i) = some (.ret (p i), S i) ∧ S (i + 1) = S i ∧
  (∀ a ∈ aG, bit ops i a.1 = false → alone Cf ops o (E i) a.2 = some (.ret (p i), a.2)) ∧
  ∀ k, i0 ≤ k → k < i → kdd Cf ops dd k = .aG → bit ops i k = false → alone Cf ops o (E i) (S k) = some (.ret (p i), S k)
 aG : ∀ i o, i0 ≤ i → i < n → ops[i]? = some o → dd i = false → kindOf Cf.imp Cf.md o = .aG → alone Cf ops o (E i) (S i) = some (.ret (p i), S (i + 1)) ∧
  (∀ a ∈ aG, bit ops i a.1 = true) ∧ (∀ k, i0 ≤ k → k < i → kdd Cf ops dd k = .aG → bit ops i k = true) ∧
  (∀ x ∈ seen, bit ops i x.i = false → told Cf ops x (S (i + 1))) ∧
  ∀ k o', i0 ≤ k → k < i → ops[k]? = some o' → dd k = false → kindOf Cf.imp Cf.md o' = .reads → bit ops i k = false → alone Cf ops o' (E k) (S (i + 1)) = some (.ret (p k), S (i + 1))
structure zV (Cf : Cfg) (ops : Array Oper) (dd : Nat → Bool) (i0 n : Nat) (aG : List (Nat × St)) (E : Nat → Env) (S : Nat → St) (k : Nat) (o : Oper) (t : TypeId) (x : Value) (s' : St) : Prop where
 lo : i0 ≤ k
 hi : k < n
 op : ops[k]? = some o
 qp : alone Cf ops o (E k) (S k) = some (.pan t x, s')
 a1 : ∀ a ∈ aG, bit ops k a.1 = true
 a2 : ∀ j, i0 ≤ j → j < k → kdd Cf ops dd j = .aG → bit ops k j = true
 dk : dd k = true
 d1 : ∀ j, i0 ≤ j → dd j = true → j = k ∨ bit ops j k = true
 d2 : ∀ j, k < j → j < n → kdd Cf ops dd j ≠ .aG
theorem tF {ops : Array Oper} {R : Type} {k : Nat} {st : St} {aG : List (Nat × St)} {fin : Option R} {r : R} : ∀ (os : List Oper) (i : Nat) (e : Env), ops.toList.drop i = os →
 jQ Cf ops (Region.before ops) k st aG fin os i e = some r →
 ∃ E p, Trace Cf ops (fun j => bit ops j k) i (i + os.length) e st [] aG E (fun _ => st) p ∧ (∀ j, i ≤ j → j < i + os.length → bit ops j k = false → kd Cf ops j ≠ .aG) ∧ fin = some r
 | [], i, e, hd, h => by
  refine ⟨fun _ => e, fun _ => .u, ⟨rfl, rfl, ?_, ?_, ?_, ?_, ?_⟩, ?_, h⟩
  · intro j h1 h2; simp at h2; omega
  · intro j o h1 h2; simp at h2; omega
  · intro j o h1 h2; simp at h2; omega
  · intro j o h1 h2; simp at h2; omega
  · intro j o h1 h2; simp at h2; omega
  · intro j h1 h2; simp at h2; omega
 | o :: os, i, e, hd, h => by
  have hoi : ops[i]? = some o := by
   have : (ops.toList.drop i)[0]? = some o := by rw [hd]; rfl
   rw [gL] at this; simpa using this
  have hdr : ops.toList.drop (i + 1) = os := by rw [← List.drop_drop, hd]; rfl
  have hlen : i + (o :: os).length = i + 1 + os.length := by simp; omega
  have hkd : kd Cf ops i = kindOf Cf.imp Cf.md o := by simp [kd, hoi]
  rw [hlen]; simp only [jQ] at h
  cases hb : bit ops i k with
  | true =>
   have hb' : ((Region.before ops).getD i 0).testBit k = true := hb; rw [hb', cond_true] at h; obtain ⟨E, p, T, hz, hf⟩ := tF os (i + 1) e hdr h; refine ⟨fun j => if j = i then e else E j, p, ⟨by simp, rfl, ?_, ?_, ?_, ?_, ?_⟩, fun j h1 h2 h3 => ?_, hf⟩
   · intro j h1 h2 h3
     by_cases q : j = i
     · subst q
       simp only [if_true]; rw [if_neg (by omega), T.E0]; exact ⟨rfl, trivial⟩
     · simp only [if_neg q]
       rw [if_neg (by omega)]; exact ⟨(T.dead j (by omega) h2 h3).1, trivial⟩
   · intro j o' h1 h2 h3 h4
     by_cases q : j = i
     · subst q; rw [hb] at h4; cases h4
     · simp only [if_neg q]
       rw [if_neg (by omega)]; exact T.step j o' (by omega) h2 h3 h4
   · intro j o' h1 h2 h3 h4 h5
     by_cases q : j = i
     · subst q; rw [hb] at h4; cases h4
     · simp only [if_neg q]
       exact ⟨(T.quiet j o' (by omega) h2 h3 h4 h5).1, trivial⟩
   · intro j o' h1 h2 h3 h4 h5
     by_cases q : j = i
     · subst q; rw [hb] at h4; cases h4
     · simp only [if_neg q]
       obtain ⟨b1, b2, b3, b4⟩ := T.reads j o' (by omega) h2 h3 h4 h5; refine ⟨b1, trivial, b3, fun k' c1 c2 c3 c4 => ?_⟩
       by_cases z : k' = i
       · subst z; simp only [kdd, hb, cond_true] at c3; cases c3
       · exact b4 k' (by omega) c2 c3 c4
   · intro j o' h1 h2 h3 h4 h5
     by_cases q : j = i
     · subst q; rw [hb] at h4; cases h4
     · exact absurd ((by simp [kd, h3] : kd Cf ops j = kindOf Cf.imp Cf.md o').trans h5) (hz j (by omega) h2 h4)
   · by_cases q : j = i
     · subst q; rw [hb] at h3; cases h3
     · exact hz j (by omega) h2 h3
  | false =>
   have hb' : ((Region.before ops).getD i 0).testBit k = false := hb; rw [hb', cond_false] at h
   have key : ∃ p0, jQ Cf ops (Region.before ops) k st aG fin os (i + 1) (put Cf.n e o.dst p0) = some r ∧
    (kindOf Cf.imp Cf.md o = .quiet → ∀ s, alone Cf ops o e s = some (.ret p0, s)) ∧
    (kindOf Cf.imp Cf.md o = .reads → alone Cf ops o e st = some (.ret p0, st) ∧ ∀ a ∈ aG, bit ops i a.1 = false → alone Cf ops o e a.2 = some (.ret p0, a.2)) ∧ kindOf Cf.imp Cf.md o ≠ .aG := by
    cases hk : kindOf Cf.imp Cf.md o with
    | quiet =>
     rw [hk] at h; simp only [] at h; rw [du] at h; obtain ⟨⟨q, s'⟩, hq, h⟩ := Option.bind_eq_some_iff.1 h
     cases q with
     | pan t x => cases h
     | ret q => exact ⟨q, h, fun _ => jH hk hq, fun z => (by cases z), by simp⟩
    | reads =>
     rw [hk] at h; simp only [] at h; rw [du] at h; obtain ⟨⟨q, s'⟩, hq, h⟩ := Option.bind_eq_some_iff.1 h
     cases q with
     | pan t x => cases h
     | ret q =>
      obtain ⟨h1, h⟩ := fK h; obtain ⟨h2, h⟩ := fD h; refine ⟨q, h, fun z => (by cases z), fun _ => ⟨hq.trans (by subst h1; rfl), fun a ha hb => ?_⟩, by simp⟩; exact h2 _ (List.mem_map.2 ⟨a, List.mem_filter.2 ⟨ha, by simp only [bit] at hb; show (!(((Region.before ops).getD i 0).testBit a.1)) = true; rw [hb]; rfl⟩, rfl⟩)
    | aG => rw [hk] at h; cases h
   obtain ⟨p0, h, kq, kr, ka⟩ := key; obtain ⟨E, p, T, hz, hf⟩ := tF os (i + 1) _ hdr h; refine ⟨fun j => if j = i then e else E j, fun j => if j = i then p0 else p j, ⟨by simp, rfl, ?_, ?_, ?_, ?_, ?_⟩, fun j h1 h2 h3 => ?_, hf⟩
   · intro j h1 h2 h3
     by_cases q : j = i
     · subst q; rw [hb] at h3; cases h3
     · simp only [if_neg q]
       rw [if_neg (by omega)]; exact ⟨(T.dead j (by omega) h2 h3).1, trivial⟩
   · intro j o' h1 h2 h3 h4
     by_cases q : j = i
     · subst q
       rw [hoi] at h3; cases h3
       simp only [if_true]; rw [if_neg (by omega), T.E0]
     · simp only [if_neg q]
       rw [if_neg (by omega)]; exact T.step j o' (by omega) h2 h3 h4
   · intro j o' h1 h2 h3 h4 h5
     by_cases q : j = i
     · subst q
       rw [hoi] at h3; cases h3
       simp only [if_true]; exact ⟨kq h5, trivial⟩
     · simp only [if_neg q]
       exact ⟨(T.quiet j o' (by omega) h2 h3 h4 h5).1, trivial⟩
   · intro j o' h1 h2 h3 h4 h5
     by_cases q : j = i
     · subst q
       rw [hoi] at h3; cases h3
       simp only [if_true]; exact ⟨(kr h5).1, trivial, (kr h5).2, fun k' c1 c2 => by omega⟩
     · simp only [if_neg q]
       obtain ⟨b1, b2, b3, b4⟩ := T.reads j o' (by omega) h2 h3 h4 h5; refine ⟨b1, trivial, b3, fun k' c1 c2 c3 c4 => ?_⟩
       by_cases z : k' = i
       · subst z
         simp only [kdd, hb, cond_false, hkd] at c3; exact absurd c3 ka
       · exact b4 k' (by omega) c2 c3 c4
   · intro j o' h1 h2 h3 h4 h5
     by_cases q : j = i
     · subst q
       rw [hoi] at h3; cases h3
       exact absurd h5 ka
     · exact absurd ((by simp [kd, h3] : kd Cf ops j = kindOf Cf.imp Cf.md o').trans h5) (hz j (by omega) h2 h4)
   · by_cases q : j = i
     · subst q; rw [hkd]; exact ka
     · exact hz j (by omega) h2 h3
theorem o9 {ops : Array Oper} {R : Type} {K : Env → St → Option R} {N : TypeId → Value → St → Option R} {r : R} : ∀ (os : List Oper) (i : Nat) (e : Env) (st : St) (seen : List Seen) (aG : List (Nat × St)), ops.toList.drop i = os →
 jR Cf ops (Region.before ops) os i e st seen aG K N = some r →
 ∃ dd E S p, Trace Cf ops dd i (i + os.length) e st seen aG E S p ∧ (((∀ j, dd j = false) ∧ K (E (i + os.length)) (S (i + os.length)) = some r) ∨
  ∃ k o t x s', zV Cf ops dd i (i + os.length) aG E S k o t x s' ∧ N t x s' = some r)
 | [], i, e, st, seen, aG, hd, h => by
  refine ⟨fun _ => false, fun _ => e, fun _ => st, fun _ => .u, ⟨rfl, rfl, ?_, ?_, ?_, ?_, ?_⟩, cL ⟨fun _ => rfl, h⟩⟩
  · intro j h1 h2; simp at h2; omega
  · intro j o h1 h2; simp at h2; omega
  · intro j o h1 h2; simp at h2; omega
  · intro j o h1 h2; simp at h2; omega
  · intro j o h1 h2; simp at h2; omega
 | o :: os, i, e, st, seen, aG, hd, h => by
  have hoi : ops[i]? = some o := by
   have : (ops.toList.drop i)[0]? = some o := by rw [hd]; rfl
   rw [gL] at this; simpa using this
  have hdr : ops.toList.drop (i + 1) = os := by rw [← List.drop_drop, hd]; rfl
  have hlen : i + (o :: os).length = i + 1 + os.length := by simp; omega
  have hkd : kd Cf ops i = kindOf Cf.imp Cf.md o := by simp [kd, hoi]
  rw [hlen]; simp only [jR] at h
  have key : (∃ p0 s1 seen' acts', jR Cf ops (Region.before ops) os (i + 1) (put Cf.n e o.dst p0) s1 seen' acts' K N = some r ∧
   (kindOf Cf.imp Cf.md o = .quiet → (∀ s, alone Cf ops o e s = some (.ret p0, s)) ∧ s1 = st ∧ seen' = seen ∧ acts' = aG) ∧
   (kindOf Cf.imp Cf.md o = .reads → alone Cf ops o e st = some (.ret p0, st) ∧ s1 = st ∧ seen' = ⟨i, o, e, p0⟩ :: seen ∧ acts' = aG ∧ ∀ a ∈ aG, bit ops i a.1 = false → alone Cf ops o e a.2 = some (.ret p0, a.2)) ∧
   (kindOf Cf.imp Cf.md o = .aG → alone Cf ops o e st = some (.ret p0, s1) ∧ seen' = seen ∧ acts' = (i, st) :: aG ∧ (∀ a ∈ aG, bit ops i a.1 = true) ∧ ∀ x ∈ seen, bit ops i x.i = false → told Cf ops x s1)) ∨
   (∃ t x s', alone Cf ops o e st = some (.pan t x, s') ∧ (∀ a ∈ aG, bit ops i a.1 = true) ∧ jQ Cf ops (Region.before ops) i st aG (N t x s') os (i + 1) e = some r) := by
   cases hk : kindOf Cf.imp Cf.md o with
   | quiet =>
    rw [hk] at h; simp only [] at h; rw [du] at h; obtain ⟨⟨q, s'⟩, hq, h⟩ := Option.bind_eq_some_iff.1 h
    cases q with
    | pan t x => cases h
    | ret q => exact cL ⟨q, st, seen, aG, h, fun _ => ⟨jH hk hq, rfl, rfl, rfl⟩, fun z => (by cases z), fun z => (by cases z)⟩
   | reads =>
    rw [hk] at h; simp only [] at h; rw [du] at h; obtain ⟨⟨q, s'⟩, hq, h⟩ := Option.bind_eq_some_iff.1 h
    cases q with
    | pan t x => cases h
    | ret q =>
     obtain ⟨h1, h⟩ := fK h; obtain ⟨h2, h⟩ := fD h; refine cL ⟨q, st, ⟨i, o, e, q⟩ :: seen, aG, h, fun z => (by cases z), fun _ => ⟨hq.trans (by subst h1; rfl), rfl, rfl, rfl, fun a ha hb => ?_⟩, fun z => (by cases z)⟩; exact h2 _ (List.mem_map.2 ⟨a, List.mem_filter.2 ⟨ha, by simp only [bit] at hb; show (!(((Region.before ops).getD i 0).testBit a.1)) = true; rw [hb]; rfl⟩, rfl⟩)
   | aG =>
    rw [hk] at h; simp only [] at h
    cases ha : aG.all (fun a => ((Region.before ops).getD i 0).testBit a.1) with
    | false => rw [ha] at h; simp at h
    | true =>
     rw [ha] at h; simp only [cond_true] at h; rw [du] at h; obtain ⟨⟨q, s'⟩, hq, h⟩ := Option.bind_eq_some_iff.1 h; rw [dG] at ha
     cases q with
     | pan t x => exact cG ⟨t, x, s', hq, ha, h⟩
     | ret q =>
      obtain ⟨h2, h⟩ := fD h; refine cL ⟨q, s', seen, (i, st) :: aG, h, fun z => (by cases z), fun z => (by cases z), fun _ => ⟨hq, rfl, rfl, ha, fun x hx hb => ?_⟩⟩; exact h2 _ (List.mem_map.2 ⟨x, List.mem_filter.2 ⟨hx, by simp only [bit] at hb; show (!(((Region.before ops).getD i 0).testBit x.i)) = true; rw [hb]; rfl⟩, rfl⟩)
  rcases key with ⟨p0, s1, seen', acts', h, kq, kr, ka⟩ | ⟨t, x, s', h1, h2, h3⟩
  · obtain ⟨dd, E, S, p, T, hr⟩ := o9 os (i + 1) _ s1 seen' acts' hdr h
    have hkk : ∀ k, k ≠ i → kdd Cf ops (fun j => if j = i then false else dd j) k = kdd Cf ops dd k := fun k hk => by simp only [kdd, if_neg hk]
    have hki : kdd Cf ops (fun j => if j = i then false else dd j) i = kindOf Cf.imp Cf.md o := by simp [kdd, hkd]
    refine ⟨fun j => if j = i then false else dd j, fun j => if j = i then e else E j, fun j => if j = i then st else S j, fun j => if j = i then p0 else p j, ⟨by simp, by simp, ?_, ?_, ?_, ?_, ?_⟩, ?_⟩
    · intro j h1 h2 h3
      by_cases q : j = i
      · subst q; simp at h3
      · simp only [if_neg q] at h3 ⊢
        rw [if_neg (by omega), if_neg (by omega)]; exact T.dead j (by omega) h2 h3
    · intro j o' h1 h2 h3 h4
      by_cases q : j = i
      · subst q
        rw [hoi] at h3; cases h3
        simp only [if_true]; rw [if_neg (by omega), T.E0]
      · simp only [if_neg q] at h4 ⊢
        rw [if_neg (by omega)]; exact T.step j o' (by omega) h2 h3 h4
    · intro j o' h1 h2 h3 h5 h4
      by_cases q : j = i
      · subst q
        rw [hoi] at h3; cases h3
        obtain ⟨a1, a2, _, _⟩ := kq h4; simp only [if_true]; rw [if_neg (by omega), T.S0, a2]; exact ⟨a1, rfl⟩
      · simp only [if_neg q] at h5 ⊢
        rw [if_neg (by omega)]; exact T.quiet j o' (by omega) h2 h3 h5 h4
    · intro j o' h1 h2 h3 h5 h4
      by_cases q : j = i
      · subst q
        rw [hoi] at h3; cases h3
        obtain ⟨a1, a2, _, _, a5⟩ := kr h4; simp only [if_true]; rw [if_neg (by omega), T.S0, a2]; exact ⟨a1, rfl, a5, fun k b1 b2 => by omega⟩
      · simp only [if_neg q] at h5 ⊢
        rw [if_neg (by omega)]; obtain ⟨a1, a2, a3, a4⟩ := T.reads j o' (by omega) h2 h3 h5 h4; refine ⟨a1, a2, fun a ha hb => ?_, fun k b1 b2 b3 b4 => ?_⟩
        · refine a3 a ?_ hb
          cases hk : kindOf Cf.imp Cf.md o with
          | quiet => rw [(kq hk).2.2.2]; exact ha
          | reads => rw [(kr hk).2.2.2.1]; exact ha
          | aG => rw [(ka hk).2.2.1]; exact bZ _ ha
        · by_cases z : k = i
          · subst z
            rw [if_pos rfl]; rw [hki] at b3; refine a3 (k, st) ?_ b4; rw [(ka b3).2.2.1]; exact bH ..
          · rw [if_neg z]
            rw [hkk k z] at b3; exact a4 k (by omega) b2 b3 b4
    · intro j o' h1 h2 h3 h5 h4
      by_cases q : j = i
      · subst q
        rw [hoi] at h3; cases h3
        obtain ⟨a1, _, _, a4, a5⟩ := ka h4; simp only [if_true]; rw [if_neg (by omega), T.S0]; exact ⟨a1, a4, fun k b1 b2 => by omega, a5, fun k o' b1 b2 => by omega⟩
      · simp only [if_neg q] at h5 ⊢
        rw [if_neg (by omega)]; obtain ⟨a1, a2, a3, a4, a5⟩ := T.aG j o' (by omega) h2 h3 h5 h4; refine ⟨a1, fun a ha => ?_, fun k b1 b2 b3 => ?_, fun x hx hb => ?_, fun k o2 b1 b2 b3 b6 b4 b5 => ?_⟩
        · refine a2 a ?_
          cases hk : kindOf Cf.imp Cf.md o with
          | quiet => rw [(kq hk).2.2.2]; exact ha
          | reads => rw [(kr hk).2.2.2.1]; exact ha
          | aG => rw [(ka hk).2.2.1]; exact bZ _ ha
        · by_cases z : k = i
          · subst z
            rw [hki] at b3; refine a2 (k, st) ?_; rw [(ka b3).2.2.1]; exact bH ..
          · rw [hkk k z] at b3
            exact a3 k (by omega) b2 b3
        · refine a4 x ?_ hb
          cases hk : kindOf Cf.imp Cf.md o with
          | quiet => rw [(kq hk).2.2.1]; exact hx
          | reads => rw [(kr hk).2.2.1]; exact bZ _ hx
          | aG => rw [(ka hk).2.1]; exact hx
        · by_cases z : k = i
          · subst z
            rw [hoi] at b3; cases b3
            rw [if_pos rfl, if_pos rfl]; have := a4 ⟨k, o, e, p0⟩ (by rw [(kr b4).2.2.1]; exact bH ..) b5; exact this
          · rw [if_neg z, if_neg z]
            rw [if_neg z] at b6; exact a5 k o2 (by omega) b2 b3 b6 b4 b5
    · rcases hr with ⟨hdf, hr⟩ | ⟨k, o2, t, x, s', PA, hr⟩
      · refine cL ⟨fun j => ?_, ?_⟩
        · by_cases q : j = i
          · simp [q]
          · simp [q, hdf]
        · simp only []
          rw [if_neg (by omega), if_neg (by omega)]; exact hr
      · have hlo := PA.lo
        refine cG ⟨k, o2, t, x, s', ⟨by omega, PA.hi, PA.op, ?_, fun a ha => ?_, fun j b1 b2 b3 => ?_, ?_, fun j b1 b2 => ?_, fun j b1 b2 => ?_⟩, hr⟩
        · simp only [if_neg (show k ≠ i by omega)]
          exact PA.qp
        · refine PA.a1 a ?_
          cases hk : kindOf Cf.imp Cf.md o with
          | quiet => rw [(kq hk).2.2.2]; exact ha
          | reads => rw [(kr hk).2.2.2.1]; exact ha
          | aG => rw [(ka hk).2.2.1]; exact bZ _ ha
        · by_cases z : j = i
          · subst z
            rw [hki] at b3; refine PA.a1 (j, st) ?_; rw [(ka b3).2.2.1]; exact bH ..
          · rw [hkk j z] at b3
            exact PA.a2 j (by omega) b2 b3
        · simp only [if_neg (show k ≠ i by omega)]
          exact PA.dk
        · by_cases z : j = i
          · subst z; simp at b2
          · simp only [if_neg z] at b2
            exact PA.d1 j (by omega) b2
        · rw [hkk j (by omega)]
          exact PA.d2 j b1 b2
  · obtain ⟨E, p, T, hz, hf⟩ := tF os (i + 1) e hdr h3
    have hkk : ∀ k, k ≠ i → kdd Cf ops (fun j => if j = i then true else bit ops j i) k = kdd Cf ops (fun j => bit ops j i) k := fun k hk => by simp only [kdd, if_neg hk]
    refine ⟨fun j => if j = i then true else bit ops j i, fun j => if j = i then e else E j, fun _ => st, p, ⟨by simp, rfl, ?_, ?_, ?_, ?_, ?_⟩, cG ⟨i, o, t, x, s', ⟨aq _, by omega, hoi, ?_, h2, fun j b1 b2 => by omega, by simp, fun j b1 b2 => ?_, fun j b1 b2 b3 => ?_⟩, hf⟩⟩
    · intro j b1 b2 b3
      by_cases q : j = i
      · subst q
        simp only [if_true]; rw [if_neg (by omega), T.E0]; exact ⟨rfl, trivial⟩
      · simp only [if_neg q] at b3 ⊢
        rw [if_neg (by omega)]; exact ⟨(T.dead j (by omega) b2 b3).1, trivial⟩
    · intro j o' b1 b2 b3 b4
      by_cases q : j = i
      · subst q; simp at b4
      · simp only [if_neg q] at b4 ⊢
        rw [if_neg (by omega)]; exact T.step j o' (by omega) b2 b3 b4
    · intro j o' b1 b2 b3 b4 b5
      by_cases q : j = i
      · subst q; simp at b4
      · simp only [if_neg q] at b4 ⊢
        exact ⟨(T.quiet j o' (by omega) b2 b3 b4 b5).1, trivial⟩
    · intro j o' b1 b2 b3 b4 b5
      by_cases q : j = i
      · subst q; simp at b4
      · simp only [if_neg q] at b4 ⊢
        obtain ⟨c1, c2, c3, c4⟩ := T.reads j o' (by omega) b2 b3 b4 b5; refine ⟨c1, trivial, c3, fun k d1 d2 d3 d4 => ?_⟩
        by_cases z : k = i
        · subst z; simp [kdd] at d3
        · rw [hkk k z] at d3
          exact c4 k (by omega) d2 d3 d4
    · intro j o' b1 b2 b3 b4 b5
      by_cases q : j = i
      · subst q; simp at b4
      · simp only [if_neg q] at b4
        exact absurd ((by simp [kd, b3] : kd Cf ops j = kindOf Cf.imp Cf.md o').trans b5) (hz j (by omega) b2 b4)
    · simp only [if_true]
      exact h1
    · by_cases z : j = i
      · exact cL z
      · simp only [if_neg z] at b2
        exact cG b2
    · rw [hkk j (by omega)] at b3
      unfold kdd at b3
      cases hb : bit ops j i with
      | true => simp only [hb, cond_true] at b3; cases b3
      | false =>
       simp only [hb, cond_false] at b3; exact hz j (by omega) b2 hb b3
def jr (Cf : Cfg) (ops : Array Oper) (e0 : Env) (p : Nat → PV) (D : Nat → Bool) : Nat → Env
 | 0 => e0
 | i + 1 => match ops[i]? with
  | some o => bif D i then put Cf.n (jr Cf ops e0 p D i) o.dst (p i) else jr Cf ops e0 p D i
  | none => jr Cf ops e0 p D i
theorem jG {n : Nat} {e : Env} {d t : Nat} {p : PV} (h : d ≠ t) : put n e (some d) p t = e t := by
 simp only [put]
 cases fJ d n with
 | false => rfl
 | true =>
  simp only [cond_true, upd]
  have : ai t d = false := by
   cases hq : ai t d with
   | false => rfl
   | true => exact absurd (au hq).symm h
  rw [this]; rfl
theorem CW {n : Nat} {e e' : Env} {dst : Option Nat} {p : PV} {t : Nat} (h : dst ≠ some t → e t = e' t) (hn : dst = some t → e t = e' t ∨ fJ t n = true) : put n e dst p t = put n e' dst p t := by
 cases dst with
 | none => exact h (by simp)
 | some d =>
  by_cases q : d = t
  · subst q
    simp only [put]
    cases hb : fJ d n with
    | false =>
     simp only [cond_false]
     rcases hn rfl with z | z
     · exact z
     · rw [hb] at z; cases z
    | true => simp [upd, Nat.beq_refl]
  · rw [jG q, jG q]
    exact h (by simp [q])
theorem lE {ops : Array Oper} {e0 : Env} {p : Nat → PV} {D D' : Nat → Bool} {t : Nat} : ∀ N, (∀ d o, d < N → ops[d]? = some o → o.dst = some t → D d = D' d) → jr Cf ops e0 p D N t = jr Cf ops e0 p D' N t
 | 0, _ => rfl
 | i + 1, h => by
  have ih := lE (e0 := e0) (p := p) (D := D) (D' := D') i fun d o hd => h d o (by omega)
  simp only [jr]
  cases ho : ops[i]? with
  | none => exact ih
  | some o =>
   simp only []
   by_cases hq : o.dst = some t
   · rw [h i o (by omega) ho hq]
     cases D' i with
     | false => exact ih
     | true => exact CW (fun _ => ih) fun _ => cL ih
   · have hz : ∀ (e : Env), put Cf.n e o.dst (p i) t = e t := by
      intro e
      cases hd : o.dst with
      | none => rfl
      | some d => exact jG fun z => hq (by rw [hd, z])
     cases D i <;> cases D' i <;> simp only [cond_true, cond_false, hz] <;> exact ih
theorem pt {ops : Array Oper} {e0 : Env} {p : Nat → PV} {D : Nat → Bool} {t i : Nat} : ∀ N, i ≤ N → (∀ d o, i ≤ d → d < N → ops[d]? = some o → o.dst = some t → D d = false) → jr Cf ops e0 p D N t = jr Cf ops e0 p D i t
 | 0, h, _ => by
  obtain rfl : i = 0 := by omega
  rfl
 | N + 1, h, hD => by
  by_cases q : i = N + 1
  · subst q; rfl
  · have ih := pt (e0 := e0) (p := p) (D := D) N (by omega) fun d o h1 h2 => hD d o h1 (by omega)
    simp only [jr]
    cases ho : ops[N]? with
    | none => exact ih
    | some o =>
     simp only []
     cases hd : D N with
     | false => exact ih
     | true =>
      simp only [cond_true]
      have hne : o.dst ≠ some t := fun z => by have := hD N o (by omega) (by omega) ho z; rw [hd] at this; cases this
      have : put Cf.n (jr Cf ops e0 p D N) o.dst (p N) t = jr Cf ops e0 p D N t := by
       cases hz : o.dst with
       | none => rfl
       | some d => exact jG fun z => hne (by rw [hz, z])
      rw [this]; exact ih
end
section
variable {Cf : Cfg} {Z : Type}
def kdS (kn : Nat → Kind) (dd : Nat → Bool) (i : Nat) : Kind := bif dd i then .quiet else kn i
structure gb (Cf : Cfg) (ops : Array Oper) (tl : Nat → Env → Z → Rs → Z → Prop) (kn : Nat → Kind) (dd : Nat → Bool) (i0 n : Nat) (e0 : Env) (s0 : Z) (seen : List Seen) (aG : List (Nat × Z)) (E : Nat → Env) (S : Nat → Z) (p : Nat → PV) : Prop where
 E0 : E i0 = e0
 S0 : S i0 = s0
 dead : ∀ i, i0 ≤ i → i < n → dd i = true → E (i + 1) = E i ∧ S (i + 1) = S i
 step : ∀ i o, i0 ≤ i → i < n → ops[i]? = some o → dd i = false → E (i + 1) = put Cf.n (E i) o.dst (p i)
 quiet : ∀ i, i0 ≤ i → i < n → dd i = false → kn i = .quiet → (∀ s, tl i (E i) s (.ret (p i)) s) ∧ S (i + 1) = S i
 reads : ∀ i, i0 ≤ i → i < n → dd i = false → kn i = .reads → tl i (E i) (S i) (.ret (p i)) (S i) ∧ S (i + 1) = S i ∧
  (∀ a ∈ aG, bit ops i a.1 = false → tl i (E i) a.2 (.ret (p i)) a.2) ∧
  ∀ k, i0 ≤ k → k < i → kdS kn dd k = .aG → bit ops i k = false → tl i (E i) (S k) (.ret (p i)) (S k)
 aG : ∀ i, i0 ≤ i → i < n → dd i = false → kn i = .aG → tl i (E i) (S i) (.ret (p i)) (S (i + 1)) ∧
  (∀ a ∈ aG, bit ops i a.1 = true) ∧ (∀ k, i0 ≤ k → k < i → kdS kn dd k = .aG → bit ops i k = true) ∧
  (∀ x ∈ seen, bit ops i x.i = false → tl x.i x.e (S (i + 1)) (.ret x.p) (S (i + 1))) ∧
  ∀ k, i0 ≤ k → k < i → dd k = false → kn k = .reads → bit ops i k = false → tl k (E k) (S (i + 1)) (.ret (p k)) (S (i + 1))
structure vS (ops : Array Oper) (tl : Nat → Env → Z → Rs → Z → Prop) (kn : Nat → Kind) (dd : Nat → Bool) (i0 n : Nat) (aG : List (Nat × Z)) (E : Nat → Env) (S : Nat → Z) (k : Nat) (t : TypeId) (x : Value) (s' : Z) : Prop where
 lo : i0 ≤ k
 hi : k < n
 qp : tl k (E k) (S k) (.pan t x) s'
 a1 : ∀ a ∈ aG, bit ops k a.1 = true
 a2 : ∀ j, i0 ≤ j → j < k → kdS kn dd j = .aG → bit ops k j = true
 dk : dd k = true
 d1 : ∀ j, i0 ≤ j → dd j = true → j = k ∨ bit ops j k = true
 d2 : ∀ j, k < j → j < n → kdS kn dd j ≠ .aG
theorem gb.cons {ops : Array Oper} {tl : Nat → Env → Z → Rs → Z → Prop} {kn : Nat → Kind} {dd dd' : Nat → Bool} {i n : Nat} {e : Env} {st s1 : Z} {seen seen' : List Seen} {aG acts' : List (Nat × Z)} {E : Nat → Env} {S : Nat → Z} {p : Nat → PV} {p0 : PV} {o : Oper}
 (T : gb Cf ops tl kn dd (i + 1) n (put Cf.n e o.dst p0) s1 seen' acts' E S p) (hoi : ops[i]? = some o) (h0 : dd' i = false) (hj : ∀ j, j ≠ i → dd' j = dd j)
 (kq : kn i = .quiet → (∀ s, tl i e s (.ret p0) s) ∧ s1 = st ∧ seen' = seen ∧ acts' = aG)
 (kr : kn i = .reads → tl i e st (.ret p0) st ∧ s1 = st ∧ seen' = ⟨i, o, e, p0⟩ :: seen ∧ acts' = aG ∧ ∀ a ∈ aG, bit ops i a.1 = false → tl i e a.2 (.ret p0) a.2)
 (ka : kn i = .aG → tl i e st (.ret p0) s1 ∧ seen' = seen ∧ acts' = (i, st) :: aG ∧ (∀ a ∈ aG, bit ops i a.1 = true) ∧ ∀ x ∈ seen, bit ops i x.i = false → tl x.i x.e s1 (.ret x.p) s1) :
 gb Cf ops tl kn dd' i n e st seen aG (fun j => if j = i then e else E j) (fun j => if j = i then st else S j) (fun j => if j = i then p0 else p j) := by
 have hkk : ∀ k, k ≠ i → kdS kn dd' k = kdS kn dd k := fun k hk => by simp only [kdS, hj k hk]
 have hki : kdS kn dd' i = kn i := by simp [kdS, h0]
 have hacts : ∀ a ∈ aG, a ∈ acts' := fun a ha => by
  cases hk : kn i with
  | quiet => rw [(kq hk).2.2.2]; exact ha
  | reads => rw [(kr hk).2.2.2.1]; exact ha
  | aG => rw [(ka hk).2.2.1]; exact bZ _ ha
 refine ⟨by simp, by simp, ?_, ?_, ?_, ?_, ?_⟩
 · intro j h1 h2 h3
   by_cases q : j = i
   · subst q; rw [h0] at h3; cases h3
   · rw [hj j q] at h3
     simp only [if_neg q]; rw [if_neg (by omega), if_neg (by omega)]; exact T.dead j (by omega) h2 h3
 · intro j o' h1 h2 h3 h4
   by_cases q : j = i
   · subst q
     rw [hoi] at h3; cases h3
     simp only [if_true]; rw [if_neg (by omega), T.E0]
   · rw [hj j q] at h4
     simp only [if_neg q]; rw [if_neg (by omega)]; exact T.step j o' (by omega) h2 h3 h4
 · intro j h1 h2 h5 h4
   by_cases q : j = i
   · subst q
     obtain ⟨a1, a2, _, _⟩ := kq h4; simp only [if_true]; rw [if_neg (by omega), T.S0, a2]; exact ⟨a1, rfl⟩
   · rw [hj j q] at h5
     simp only [if_neg q]; rw [if_neg (by omega)]; exact T.quiet j (by omega) h2 h5 h4
 · intro j h1 h2 h5 h4
   by_cases q : j = i
   · subst q
     obtain ⟨a1, a2, _, _, a5⟩ := kr h4; simp only [if_true]; rw [if_neg (by omega), T.S0, a2]; exact ⟨a1, rfl, a5, fun k b1 b2 => by omega⟩
   · rw [hj j q] at h5
     simp only [if_neg q]; rw [if_neg (by omega)]; obtain ⟨a1, a2, a3, a4⟩ := T.reads j (by omega) h2 h5 h4; refine ⟨a1, a2, fun a ha hb => a3 a (hacts a ha) hb, fun k b1 b2 b3 b4 => ?_⟩
     by_cases z : k = i
     · subst z
       rw [if_pos rfl]; rw [hki] at b3; refine a3 (k, st) ?_ b4; rw [(ka b3).2.2.1]; exact bH ..
     · rw [if_neg z]
       rw [hkk k z] at b3; exact a4 k (by omega) b2 b3 b4
 · intro j h1 h2 h5 h4
   by_cases q : j = i
   · subst q
     obtain ⟨a1, _, _, a4, a5⟩ := ka h4; simp only [if_true]; rw [if_neg (by omega), T.S0]; exact ⟨a1, a4, fun k b1 b2 => by omega, a5, fun k b1 b2 => by omega⟩
   · rw [hj j q] at h5
     simp only [if_neg q]; rw [if_neg (by omega)]; obtain ⟨a1, a2, a3, a4, a5⟩ := T.aG j (by omega) h2 h5 h4; refine ⟨a1, fun a ha => a2 a (hacts a ha), fun k b1 b2 b3 => ?_, fun x hx hb => ?_, fun k b1 b2 b6 b4 b5 => ?_⟩
     · by_cases z : k = i
       · subst z
         rw [hki] at b3; refine a2 (k, st) ?_; rw [(ka b3).2.2.1]; exact bH ..
       · rw [hkk k z] at b3
         exact a3 k (by omega) b2 b3
     · refine a4 x ?_ hb
       cases hk : kn i with
       | quiet => rw [(kq hk).2.2.1]; exact hx
       | reads => rw [(kr hk).2.2.1]; exact bZ _ hx
       | aG => rw [(ka hk).2.1]; exact hx
     · by_cases z : k = i
       · subst z
         rw [if_pos rfl, if_pos rfl]; have := a4 ⟨k, o, e, p0⟩ (by rw [(kr b4).2.2.1]; exact bH ..) b5; exact this
       · rw [if_neg z, if_neg z]
         rw [hj k z] at b6; exact a5 k (by omega) b2 b6 b4 b5
theorem vS.cons {ops : Array Oper} {tl : Nat → Env → Z → Rs → Z → Prop} {kn : Nat → Kind} {dd dd' : Nat → Bool} {i n : Nat} {e : Env} {st : Z} {aG acts' : List (Nat × Z)} {E : Nat → Env} {S : Nat → Z} {k : Nat} {t : TypeId} {x : Value} {s' : Z}
 (PA : vS ops tl kn dd (i + 1) n acts' E S k t x s') (h0 : dd' i = false) (hj : ∀ j, j ≠ i → dd' j = dd j) (hacts : ∀ a ∈ aG, a ∈ acts') (hi : kn i = .aG → ∃ s, (i, s) ∈ acts') :
 vS ops tl kn dd' i n aG (fun j => if j = i then e else E j) (fun j => if j = i then st else S j) k t x s' := by
 have hkk : ∀ k, k ≠ i → kdS kn dd' k = kdS kn dd k := fun k hk => by simp only [kdS, hj k hk]
 have hlo := PA.lo
 have hk : k ≠ i := by omega
 refine ⟨by omega, PA.hi, ?_, fun a ha => PA.a1 a (hacts a ha), fun j b1 b2 b3 => ?_, ?_, fun j b1 b2 => ?_, fun j b1 b2 => ?_⟩
 · simp only [if_neg hk]
   exact PA.qp
 · by_cases z : j = i
   · subst z
     have hki : kdS kn dd' j = kn j := by simp [kdS, h0]
     rw [hki] at b3; obtain ⟨s, hs⟩ := hi b3; exact PA.a1 _ hs
   · rw [hkk j z] at b3
     exact PA.a2 j (by omega) b2 b3
 · rw [hj k hk]; exact PA.dk
 · by_cases z : j = i
   · subst z; rw [h0] at b2; cases b2
   · rw [hj j z] at b2
     exact PA.d1 j (by omega) b2
 · rw [hkk j (by omega)]
   exact PA.d2 j b1 b2
theorem gb.skip {ops : Array Oper} {tl : Nat → Env → Z → Rs → Z → Prop} {kn : Nat → Kind} {dd : Nat → Bool} {i n : Nat} {e : Env} {st : Z} {aG : List (Nat × Z)} {E : Nat → Env} {p : Nat → PV}
 (T : gb Cf ops tl kn dd (i + 1) n e st [] aG E (fun _ => st) p) (h0 : dd i = true) : gb Cf ops tl kn dd i n e st [] aG (fun j => if j = i then e else E j) (fun _ => st) p := by
 have hki : kdS kn dd i = .quiet := by simp [kdS, h0]
 refine ⟨by simp, rfl, ?_, ?_, ?_, ?_, ?_⟩
 · intro j h1 h2 h3
   by_cases q : j = i
   · subst q
     simp only [if_true]; rw [if_neg (by omega), T.E0]; exact ⟨rfl, trivial⟩
   · simp only [if_neg q]
     rw [if_neg (by omega)]; exact ⟨(T.dead j (by omega) h2 h3).1, trivial⟩
 · intro j o' h1 h2 h3 h4
   by_cases q : j = i
   · subst q; rw [h0] at h4; cases h4
   · simp only [if_neg q]
     rw [if_neg (by omega)]; exact T.step j o' (by omega) h2 h3 h4
 · intro j h1 h2 h4 h5
   by_cases q : j = i
   · subst q; rw [h0] at h4; cases h4
   · simp only [if_neg q]
     exact ⟨(T.quiet j (by omega) h2 h4 h5).1, trivial⟩
 · intro j h1 h2 h4 h5
   by_cases q : j = i
   · subst q; rw [h0] at h4; cases h4
   · simp only [if_neg q]
     obtain ⟨b1, b2, b3, b4⟩ := T.reads j (by omega) h2 h4 h5; refine ⟨b1, trivial, b3, fun k' c1 c2 c3 c4 => ?_⟩
     by_cases z : k' = i
     · subst z; rw [hki] at c3; cases c3
     · exact b4 k' (by omega) c2 c3 c4
 · intro j h1 h2 h4 h5
   by_cases q : j = i
   · subst q; rw [h0] at h4; cases h4
   · obtain ⟨a1, a2, a3, a4, a5⟩ := T.aG j (by omega) h2 h4 h5
     simp only [if_neg q]; refine ⟨a1, a2, fun k b1 b2 b3 => ?_, a4, fun k b1 b2 b6 b4 b5 => ?_⟩
     · by_cases z : k = i
       · subst z; rw [hki] at b3; cases b3
       · exact a3 k (by omega) b2 b3
     · by_cases z : k = i
       · subst z; rw [h0] at b6; cases b6
       · rw [if_neg z]
         exact a5 k (by omega) b2 b6 b4 b5
theorem gb.dd {ops : Array Oper} {tl : Nat → Env → Z → Rs → Z → Prop} {kn : Nat → Kind} {dd dd' : Nat → Bool} {i0 n : Nat} {e0 : Env} {s0 : Z} {seen : List Seen} {aG : List (Nat × Z)} {E : Nat → Env} {S : Nat → Z} {p : Nat → PV}
 (T : gb Cf ops tl kn dd i0 n e0 s0 seen aG E S p) (h : ∀ j, i0 ≤ j → dd' j = dd j) : gb Cf ops tl kn dd' i0 n e0 s0 seen aG E S p := by
 have hk : ∀ k, i0 ≤ k → kdS kn dd' k = kdS kn dd k := fun k hk => by simp only [kdS, h k hk]
 refine ⟨T.E0, T.S0, fun i h1 h2 h3 => T.dead i h1 h2 (h i h1 ▸ h3), fun i o h1 h2 h3 h4 => T.step i o h1 h2 h3 (h i h1 ▸ h4), fun i h1 h2 h3 h4 => T.quiet i h1 h2 (h i h1 ▸ h3) h4, fun i h1 h2 h3 h4 => ?_, fun i h1 h2 h3 h4 => ?_⟩
 · obtain ⟨a1, a2, a3, a4⟩ := T.reads i h1 h2 (h i h1 ▸ h3) h4
   exact ⟨a1, a2, a3, fun k b1 b2 b3 b4 => a4 k b1 b2 (hk k b1 ▸ b3) b4⟩
 · obtain ⟨a1, a2, a3, a4, a5⟩ := T.aG i h1 h2 (h i h1 ▸ h3) h4
   exact ⟨a1, a2, fun k b1 b2 b3 => a3 k b1 b2 (hk k b1 ▸ b3), a4, fun k b1 b2 b3 b4 b5 => a5 k b1 b2 (h k b1 ▸ b3) b4 b5⟩
def tlN (Cf : Cfg) (ops : Array Oper) (i : Nat) (e : Env) (s : St) (r : Rs) (s' : St) : Prop := ∃ o, ops[i]? = some o ∧ alone Cf ops o e s = some (r, s')
theorem Trace.lift {ops : Array Oper} {dd : Nat → Bool} {e0 : Env} {s0 : St} {E : Nat → Env} {S : Nat → St} {p : Nat → PV} (T : Trace Cf ops dd 0 ops.size e0 s0 [] [] E S p) : gb Cf ops (tlN Cf ops) (kd Cf ops) dd 0 ops.size e0 s0 [] [] E S p := by
 have at_ : ∀ i, i < ops.size → ∃ o, ops[i]? = some o ∧ kd Cf ops i = kindOf Cf.imp Cf.md o := fun i h => ⟨ops[i], aV h, by simp [kd, aV h]⟩
 refine ⟨T.E0, T.S0, T.dead, T.step, fun i h1 h2 h3 h4 => ?_, fun i h1 h2 h3 h4 => ?_, fun i h1 h2 h3 h4 => ?_⟩
 · obtain ⟨o, ho, hk⟩ := at_ i h2
   have := T.quiet i o h1 h2 ho h3 (hk ▸ h4); exact ⟨fun s => ⟨o, ho, this.1 s⟩, this.2⟩
 · obtain ⟨o, ho, hk⟩ := at_ i h2
   obtain ⟨a1, a2, _, a4⟩ := T.reads i o h1 h2 ho h3 (hk ▸ h4); exact ⟨⟨o, ho, a1⟩, a2, fun a ha => (by cases ha), fun k b1 b2 b3 b4 => ⟨o, ho, a4 k b1 b2 b3 b4⟩⟩
 · obtain ⟨o, ho, hk⟩ := at_ i h2
   obtain ⟨a1, _, a3, _, a5⟩ := T.aG i o h1 h2 ho h3 (hk ▸ h4); refine ⟨⟨o, ho, a1⟩, fun a ha => (by cases ha), a3, fun x hx => (by cases hx), fun k b1 b2 b3 b4 b5 => ?_⟩
   obtain ⟨o', ho', hk'⟩ := at_ k (by omega)
   exact ⟨o', ho', a5 k o' b1 b2 ho' b3 (hk' ▸ b4) b5⟩
theorem zV.lift {ops : Array Oper} {dd : Nat → Bool} {E : Nat → Env} {S : Nat → St} {k : Nat} {o : Oper} {t : TypeId} {x : Value} {s' : St} (PA : zV Cf ops dd 0 ops.size [] E S k o t x s') : vS ops (tlN Cf ops) (kd Cf ops) dd 0 ops.size [] E S k t x s' :=
 ⟨PA.lo, PA.hi, ⟨o, PA.op, PA.qp⟩, PA.a1, PA.a2, PA.dk, PA.d1, PA.d2⟩
def knL (Cf : Cfg) (ops : Array Oper) (k : Nat) (i : Nat) : Kind := if i = k then .quiet else kd Cf ops i
def tlL (Cf : Cfg) (ops : Array Oper) (k m : Nat) (i : Nat) (e : Env) (s : St × St) (r : Rs) (s' : St × St) : Prop :=
 if i = k then r = .ret (.ptr false m 0) ∧ s' = s else ∃ o, ops[i]? = some o ∧ (bit ops i k = false → alone Cf ops o e s.1 = some (r, s'.1)) ∧ alone Cf ops o e s.2 = some (r, s'.2)
abbrev prS (z : List PV) (s : St) : St × St := (s, s.push z)
def jw (aG : List (Nat × St)) (z : List PV) : List (Nat × (St × St)) := aG.map fun a => (a.1, prS z a.2)
theorem fN {ops : Array Oper} {k m i : Nat} {o : Oper} {e : Env} {s s' : St × St} {r : Rs} (hi : i ≠ k) (ho : ops[i]? = some o) (h1 : bit ops i k = false → alone Cf ops o e s.1 = some (r, s'.1)) (h2 : alone Cf ops o e s.2 = some (r, s'.2)) : tlL Cf ops k m i e s r s' := by
 unfold tlL; rw [if_neg hi]; exact ⟨o, ho, h1, h2⟩
theorem nh {aG : List (Nat × St)} {z : List PV} {a : Nat × (St × St)} (h : a ∈ jw aG z) : ∃ b ∈ aG, a = (b.1, prS z b.2) := by
 obtain ⟨b, hb, rfl⟩ := List.mem_map.1 h; exact ⟨b, hb, rfl⟩
theorem nK {aG : List (Nat × St)} {z : List PV} {b : Nat × St} (h : b ∈ aG) : b ∈ mi aG z ∧ (b.1, b.2.push z) ∈ mi aG z :=
 ⟨List.mem_append_left _ h, List.mem_append_right _ (List.mem_map.2 ⟨b, h, rfl⟩)⟩
def EF (q : Kind) (x : Seen) : List Seen := match q with
 | .reads => [x]
 | _ => []
theorem qX {ops : Array Oper} {R : Type} {k m k0 : Nat} {z : List PV} {st : St} {aG : List (Nat × St)} {fin : Option R} {r : R} : ∀ (os : List Oper) (i : Nat) (e : Env), ops.toList.drop i = os →
 gx Cf ops (Region.before ops) k z m k0 st aG fin os i e = some r →
 ∃ E p, gb Cf ops (tlL Cf ops k m) (knL Cf ops k) (fun j => bit ops j k0) i (i + os.length) e (prS z st) [] (jw aG z) E (fun _ => prS z st) p ∧ (∀ j, i ≤ j → j < i + os.length → bit ops j k0 = false → knL Cf ops k j ≠ .aG) ∧ fin = some r
 | [], i, e, hd, h => by
  refine ⟨fun _ => e, fun _ => .u, ⟨rfl, rfl, ?_, ?_, ?_, ?_, ?_⟩, ?_, h⟩
  · intro j h1 h2; simp at h2; omega
  · intro j o h1 h2; simp at h2; omega
  · intro j h1 h2; simp at h2; omega
  · intro j h1 h2; simp at h2; omega
  · intro j h1 h2; simp at h2; omega
  · intro j h1 h2; simp at h2; omega
 | o :: os, i, e, hd, h => by
  have hoi : ops[i]? = some o := by
   have : (ops.toList.drop i)[0]? = some o := by rw [hd]; rfl
   rw [gL] at this; simpa using this
  have hdr : ops.toList.drop (i + 1) = os := by rw [← List.drop_drop, hd]; rfl
  have hlen : i + (o :: os).length = i + 1 + os.length := by simp; omega
  have hkd : kd Cf ops i = kindOf Cf.imp Cf.md o := by simp [kd, hoi]
  rw [hlen]; simp only [gx] at h
  cases hb : bit ops i k0 with
  | true =>
   have hb' : ((Region.before ops).getD i 0).testBit k0 = true := hb; rw [hb', cond_true] at h; obtain ⟨E, p, T, hz, hf⟩ := qX os (i + 1) e hdr h; refine ⟨_, p, T.skip hb, fun j h1 h2 h3 => ?_, hf⟩
   by_cases q : j = i
   · subst q; rw [hb] at h3; cases h3
   · exact hz j (by omega) h2 h3
  | false =>
   have hb' : ((Region.before ops).getD i 0).testBit k0 = false := hb; rw [hb', cond_false] at h
   have go : ∀ p0, gx Cf ops (Region.before ops) k z m k0 st aG fin os (i + 1) (put Cf.n e o.dst p0) = some r →
    (knL Cf ops k i = .quiet → ∀ s, tlL Cf ops k m i e s (.ret p0) s) →
    (knL Cf ops k i = .reads → tlL Cf ops k m i e (prS z st) (.ret p0) (prS z st) ∧ ∀ a ∈ jw aG z, bit ops i a.1 = false → tlL Cf ops k m i e a.2 (.ret p0) a.2) → knL Cf ops k i ≠ .aG →
    ∃ E p, gb Cf ops (tlL Cf ops k m) (knL Cf ops k) (fun j => bit ops j k0) i (i + 1 + os.length) e (prS z st) [] (jw aG z) E (fun _ => prS z st) p ∧ (∀ j, i ≤ j → j < i + 1 + os.length → bit ops j k0 = false → knL Cf ops k j ≠ .aG) ∧ fin = some r := by
    intro p0 h kq kr ka; obtain ⟨E, p, T, hz, hf⟩ := qX os (i + 1) _ hdr h
    have T' : gb Cf ops (tlL Cf ops k m) (knL Cf ops k) (fun j => bit ops j k0) (i + 1) (i + 1 + os.length) (put Cf.n e o.dst p0) (prS z st) (EF (knL Cf ops k i) ⟨i, o, e, p0⟩) (jw aG z) E (fun _ => prS z st) p :=
     ⟨T.E0, T.S0, T.dead, T.step, T.quiet, T.reads, fun j h1 h2 h3 h4 => absurd h4 (hz j h1 h2 h3)⟩
    have := T'.cons (dd' := fun j => bit ops j k0) (st := prS z st) (seen := []) hoi hb (fun j _ => rfl) (fun hk => ⟨kq hk, rfl, by rw [hk]; rfl, rfl⟩)
     (fun hk => ⟨(kr hk).1, rfl, by rw [hk]; rfl, rfl, (kr hk).2⟩) (fun hk => absurd hk ka)
    have hS : (fun j => if j = i then prS z st else prS z st) = (fun _ : Nat => prS z st) := by funext j; simp
    rw [hS] at this; refine ⟨_, _, this, fun j h1 h2 h3 => ?_, hf⟩
    by_cases q : j = i
    · subst q; exact ka
    · exact hz j (by omega) h2 h3
   cases hik : ai i k with
   | true =>
    rw [hik, cond_true] at h; have hik := au hik
    have hkn : knL Cf ops k i = .quiet := by simp [knL, hik]
    exact go _ h (fun _ s => by unfold tlL; rw [if_pos hik]; exact ⟨rfl, rfl⟩) (fun q => by rw [hkn] at q; cases q) (by rw [hkn]; simp)
   | false =>
    rw [hik, cond_false] at h
    have hik : i ≠ k := fun q => by rw [q, Nat.beq_refl] at hik; cases hik
    have hkn : knL Cf ops k i = kindOf Cf.imp Cf.md o := by simp [knL, hik, hkd]
    cases hk : kindOf Cf.imp Cf.md o with
    | quiet =>
     rw [hk] at h; simp only [] at h; rw [du] at h; obtain ⟨⟨q, s'⟩, hq, h⟩ := Option.bind_eq_some_iff.1 h
     cases q with
     | pan t x => cases h
     | ret q => exact go q h (fun _ s => fN hik hoi (fun _ => jH hk hq _) (jH hk hq _)) (fun z => by rw [hkn, hk] at z; cases z) (by rw [hkn, hk]; simp)
    | reads =>
     rw [hk] at h; simp only [] at h; rw [du] at h; obtain ⟨⟨q, s'⟩, hq, h⟩ := Option.bind_eq_some_iff.1 h
     cases q with
     | pan t x => cases h
     | ret q =>
      obtain ⟨h1, h⟩ := fK h; obtain ⟨h1', h⟩ := fK h; obtain ⟨h2, h⟩ := fD h; refine go q h (fun z => by rw [hkn, hk] at z; cases z) (fun _ => ⟨fN hik hoi (fun _ => hq.trans (by subst h1; rfl)) h1', fun a ha hb => ?_⟩) (by rw [hkn, hk]; simp); obtain ⟨b, hbm, rfl⟩ := nh ha; obtain ⟨c1, c2⟩ := nK (z := z) hbm
      have hf : ∀ c : Nat × St, c.1 = b.1 → c ∈ mi aG z → told Cf ops ⟨i, o, e, q⟩ c.2 := fun c hc hcm =>
       h2 _ (List.mem_map.2 ⟨c, List.mem_filter.2 ⟨hcm, by rw [hc]; simp only [bit] at hb; rw [hb]; rfl⟩, rfl⟩)
      exact fN hik hoi (fun _ => hf b rfl c1) (hf (b.1, b.2.push z) rfl c2)
    | aG => rw [hk] at h; cases h
def Dg (Cf : Cfg) (ops : Array Oper) (k m : Nat) (z : List PV) (dd : Nat → Bool) (i n : Nat) (S : Nat → St × St) : Prop :=
 ∃ sw, i ≤ sw ∧ (∀ j, i ≤ j → j ≤ sw → ∃ a, S j = prS z a ∧ a.stk.length = m) ∧ ∀ j, sw ≤ j → j < n → kdS (knL Cf ops k) dd j = .aG → bit ops j k = true
theorem pU {ops : Array Oper} {R : Type} {K : Env → St → Option R} {N : TypeId → Value → St → Option R} {r : R} {k m : Nat} {z : List PV} (hk0 : ∀ j, bit ops k j = false) (hka : kd Cf ops k = .aG) (hfw : ∀ i j, i < ops.size → bit ops i j = true → j < i) : ∀ (os : List Oper) (i : Nat) (e : Env) (st : St) (seen : List Seen) (aG : List (Nat × St)), ops.toList.drop i = os → st.stk.length = m →
 (∀ x ∈ seen, ops[x.i]? = some x.o ∧ x.i ≠ k ∧ bit ops x.i k = false) →
 jT Cf ops (Region.before ops) k z m os i e st seen aG K N = some r →
 ∃ dd E S p, gb Cf ops (tlL Cf ops k m) (knL Cf ops k) dd i (i + os.length) e (prS z st) seen (jw aG z) E S p ∧ Dg Cf ops k m z dd i (i + os.length) S ∧ (((∀ j, dd j = false) ∧ K (E (i + os.length)) (S (i + os.length)).2 = some r) ∨
  ∃ kp t x s', vS ops (tlL Cf ops k m) (knL Cf ops k) dd i (i + os.length) (jw aG z) E S kp t x s' ∧ N t x s'.2 = some r ∧ (bit ops kp k = false → N t x s'.1 = some r))
 | [], i, e, st, seen, aG, hd, hm, hs, h => by
  refine ⟨fun _ => false, fun _ => e, fun _ => prS z st, fun _ => .u, ⟨rfl, rfl, ?_, ?_, ?_, ?_, ?_⟩, ⟨i, aq _, fun j _ _ => ⟨st, rfl, hm⟩, fun j h1 h2 => by simp at h2; omega⟩, cL ⟨fun _ => rfl, h⟩⟩
  · intro j h1 h2; simp at h2; omega
  · intro j o h1 h2; simp at h2; omega
  · intro j h1 h2; simp at h2; omega
  · intro j h1 h2; simp at h2; omega
  · intro j h1 h2; simp at h2; omega
 | o :: os, i, e, st, seen, aG, hd, hm, hs, h => by
  have hoi : ops[i]? = some o := by
   have : (ops.toList.drop i)[0]? = some o := by rw [hd]; rfl
   rw [gL] at this; simpa using this
  have hdr : ops.toList.drop (i + 1) = os := by rw [← List.drop_drop, hd]; rfl
  have hlen : i + (o :: os).length = i + 1 + os.length := by simp; omega
  have hkd : kd Cf ops i = kindOf Cf.imp Cf.md o := by simp [kd, hoi]
  have go : ∀ p0 s1 seen' acts', jT Cf ops (Region.before ops) k z m os (i + 1) (put Cf.n e o.dst p0) s1 seen' acts' K N = some r → s1.stk.length = m →
   (∀ x ∈ seen', ops[x.i]? = some x.o ∧ x.i ≠ k ∧ bit ops x.i k = false) →
   (knL Cf ops k i = .quiet → (∀ s, tlL Cf ops k m i e s (.ret p0) s) ∧ s1 = st ∧ seen' = seen ∧ acts' = aG) →
   (knL Cf ops k i = .reads → tlL Cf ops k m i e (prS z st) (.ret p0) (prS z st) ∧ s1 = st ∧ seen' = ⟨i, o, e, p0⟩ :: seen ∧ acts' = aG ∧ ∀ a ∈ jw aG z, bit ops i a.1 = false → tlL Cf ops k m i e a.2 (.ret p0) a.2) →
   (knL Cf ops k i = .aG → tlL Cf ops k m i e (prS z st) (.ret p0) (prS z s1) ∧ seen' = seen ∧ acts' = (i, st) :: aG ∧ (∀ a ∈ jw aG z, bit ops i a.1 = true) ∧ ∀ x ∈ seen, bit ops i x.i = false → tlL Cf ops k m x.i x.e (prS z s1) (.ret x.p) (prS z s1)) →
   ∃ dd E S p, gb Cf ops (tlL Cf ops k m) (knL Cf ops k) dd i (i + 1 + os.length) e (prS z st) seen (jw aG z) E S p ∧ Dg Cf ops k m z dd i (i + 1 + os.length) S ∧ (((∀ j, dd j = false) ∧ K (E (i + 1 + os.length)) (S (i + 1 + os.length)).2 = some r) ∨
    ∃ kp t x s', vS ops (tlL Cf ops k m) (knL Cf ops k) dd i (i + 1 + os.length) (jw aG z) E S kp t x s' ∧ N t x s'.2 = some r ∧ (bit ops kp k = false → N t x s'.1 = some r)) := by
   intro p0 s1 seen' acts' h hm1 hs1 kq kr ka; obtain ⟨dd, E, S, p, T, ⟨sw, w1, w2, w3⟩, hr⟩ := pU hk0 hka hfw os (i + 1) _ s1 seen' acts' hdr hm1 hs1 h
   have hki : ∀ j, j ≠ i → (if j = i then false else dd j) = dd j := fun j hj => by rw [if_neg hj]
   have hacts : ∀ a ∈ jw aG z, a ∈ jw acts' z := fun a ha => by
    cases hk : knL Cf ops k i with
    | quiet => rw [(kq hk).2.2.2]; exact ha
    | reads => rw [(kr hk).2.2.2.1]; exact ha
    | aG => rw [(ka hk).2.2.1]; exact bZ _ ha
   refine ⟨fun j => if j = i then false else dd j, _, _, _, T.cons (dd' := fun j => if j = i then false else dd j) (st := prS z st) (seen := seen) (aG := jw aG z) hoi (by simp) hki (fun hk => ?_) (fun hk => ?_) (fun hk => ?_), ⟨sw, by omega, fun j h1 h2 => ?_, fun j h1 h2 h3 => ?_⟩, ?_⟩
   · obtain ⟨a, b, c, d⟩ := kq hk; exact ⟨a, by rw [b], c, by rw [d]⟩
   · obtain ⟨a, b, c, d, f⟩ := kr hk; exact ⟨a, by rw [b], c, by rw [d], f⟩
   · obtain ⟨a, b, c, d, f⟩ := ka hk; exact ⟨a, b, by rw [c]; rfl, d, f⟩
   · by_cases q : j = i
     · exact ⟨st, by simp only [q, if_true], hm⟩
     · simp only [if_neg q]; exact w2 j (by omega) h2
   · refine w3 j h1 h2 ?_
     have : kdS (knL Cf ops k) (fun j => if j = i then false else dd j) j = kdS (knL Cf ops k) dd j := by simp only [kdS]; rw [if_neg (by omega)]
     rw [← this]; exact h3
   · rcases hr with ⟨hdf, hr⟩ | ⟨kp, t, x, s', PA, hr⟩
     · refine cL ⟨fun j => ?_, ?_⟩
       · by_cases q : j = i
         · simp [q]
         · simp [q, hdf]
       · rw [if_neg (by omega), if_neg (by omega)]
         exact hr
     · refine cG ⟨kp, t, x, s', PA.cons (dd' := fun j => if j = i then false else dd j) (st := prS z st) (by simp) hki hacts (fun hk => ⟨prS z st, ?_⟩), hr⟩
       rw [(ka hk).2.2.1]; exact bH ..
  rw [hlen]; simp only [jT] at h
  cases hik : ai i k with
  | true =>
   rw [hik, cond_true] at h; have hik := au hik
   have hkn : knL Cf ops k i = .quiet := by simp [knL, hik]
   exact go _ st seen aG h hm hs (fun _ => ⟨fun s => by unfold tlL; rw [if_pos hik]; exact ⟨rfl, rfl⟩, rfl, rfl, rfl⟩) (fun q => by rw [hkn] at q; cases q) (fun q => by rw [hkn] at q; cases q)
  | false =>
   rw [hik, cond_false] at h
   have hik : i ≠ k := fun q => by rw [q, Nat.beq_refl] at hik; cases hik
   have hkn : knL Cf ops k i = kindOf Cf.imp Cf.md o := by simp [knL, hik, hkd]
   cases hk : kindOf Cf.imp Cf.md o with
   | quiet =>
    rw [hk] at h; simp only [] at h; rw [du] at h; obtain ⟨⟨q, s'⟩, hq, h⟩ := Option.bind_eq_some_iff.1 h
    cases q with
    | pan t x => cases h
    | ret q => exact go q st seen aG h hm hs (fun _ => ⟨fun s => fN hik hoi (fun _ => jH hk hq _) (jH hk hq _), rfl, rfl, rfl⟩) (fun z => by rw [hkn, hk] at z; cases z) (fun z => by rw [hkn, hk] at z; cases z)
   | reads =>
    rw [hk] at h; simp only [] at h
    cases hbk : ((Region.before ops).getD i 0).testBit k with
    | true => rw [hbk] at h; cases h
    | false =>
     rw [hbk, cond_false] at h; rw [du] at h; obtain ⟨⟨q, s'⟩, hq, h⟩ := Option.bind_eq_some_iff.1 h
     cases q with
     | pan t x => cases h
     | ret q =>
      obtain ⟨h1, h⟩ := fK h; obtain ⟨h1', h⟩ := fK h; obtain ⟨h2, h⟩ := fD h; refine go q st (⟨i, o, e, q⟩ :: seen) aG h hm (fun x hx => ?_) (fun z => by rw [hkn, hk] at z; cases z) (fun _ => ⟨fN hik hoi (fun _ => hq.trans (by subst h1; rfl)) h1', rfl, rfl, rfl, fun a ha hb => ?_⟩) (fun z => by rw [hkn, hk] at z; cases z)
      · rcases List.mem_cons.1 hx with rfl | hx
        · exact ⟨hoi, hik, hbk⟩
        · exact hs x hx
      · obtain ⟨b, hbm, rfl⟩ := nh ha
        obtain ⟨c1, c2⟩ := nK (z := z) hbm
        have hf : ∀ c : Nat × St, c.1 = b.1 → c ∈ mi aG z → told Cf ops ⟨i, o, e, q⟩ c.2 := fun c hc hcm =>
         h2 _ (List.mem_map.2 ⟨c, List.mem_filter.2 ⟨hcm, by rw [hc]; simp only [bit] at hb; rw [hb]; rfl⟩, rfl⟩)
        exact fN hik hoi (fun _ => hf b rfl c1) (hf (b.1, b.2.push z) rfl c2)
   | aG =>
    rw [hk] at h; simp only [] at h
    cases hbk : ((Region.before ops).getD i 0).testBit k with
    | true =>
     rw [hbk, cond_true] at h; obtain ⟨dd, E, S, p, T, hr⟩ := o9 (o :: os) i e (st.push z) seen ((k, st) :: mi aG z) hd h; rw [hlen] at T hr
     have at_ : ∀ j, i ≤ j → j < i + 1 + os.length → ∃ o, ops[j]? = some o ∧ kd Cf ops j = kindOf Cf.imp Cf.md o := by
      intro j h1 h2
      have : j < ops.size := by
       have := congrArg List.length hd; simp only [fY, Array.length_toList, al] at this; omega
      exact ⟨ops[j], aV this, by simp [kd, aV this]⟩
     have hne : ∀ j, i ≤ j → j < i + 1 + os.length → dd j = false → kd Cf ops j = .aG → j ≠ k := by
      intro j h1 h2 h3 h4 q
      obtain ⟨o', ho', hk'⟩ := at_ j h1 h2
      have := (T.aG j o' h1 h2 ho' h3 (hk' ▸ h4)).2.1 (k, st) (bH ..)
      rw [q, hk0] at this; cases this
     have hin : ∀ {j}, j < i + 1 + os.length → j < ops.size := by
      intro j h2; have := congrArg List.length hd; simp only [fY, Array.length_toList, al] at this; omega
     have hnk : ∀ {j}, i ≤ j → j < i + 1 + os.length → dd j = false → j ≠ k := fun {j} h1 h2 h3 q => hne j h1 h2 h3 (by rw [q]; exact hka) q
     have hkk : ∀ {j}, i ≤ j → j < i + 1 + os.length → kdS (knL Cf ops k) dd j = kdd Cf ops dd j := by
      intro j h1 h2
      cases hdj : dd j with
      | true => simp [kdS, kdd, hdj]
      | false => simp [kdS, kdd, hdj, knL, hnk h1 h2 hdj]
     have hkn2 : ∀ {j} {o' : Oper}, i ≤ j → j < i + 1 + os.length → dd j = false → ops[j]? = some o' → knL Cf ops k j = kindOf Cf.imp Cf.md o' := by
      intro j o' h1 h2 h3 h4; simp [knL, hnk h1 h2 h3, kd, h4]
     have hent : (k, st) ∈ (k, st) :: mi aG z := bH ..
     have hboth : ∀ {a}, a ∈ jw aG z → ∃ b : Nat × St, a = (b.1, prS z b.2) ∧ b ∈ (k, st) :: mi aG z ∧ (b.1, b.2.push z) ∈ (k, st) :: mi aG z := by
      intro a ha; obtain ⟨b, hb, rfl⟩ := nh ha; obtain ⟨c1, c2⟩ := nK (z := z) hb; exact ⟨b, rfl, bZ _ c1, bZ _ c2⟩
     cases hdi : dd i with
     | false =>
      have hS : ∀ {j}, j ≠ i → (if j = i then prS z st else (S j, S j)) = (S j, S j) := fun {j} q => by rw [if_neg q]
      refine ⟨dd, E, fun j => if j = i then prS z st else (S j, S j), p, ⟨T.E0, by simp, fun j h1 h2 h3 => ?_, T.step, fun j h1 h2 h3 h4 => ?_, fun j h1 h2 h3 h4 => ?_, fun j h1 h2 h3 h4 => ?_⟩, ⟨i, aq _, fun j h1 h2 => ?_, fun j h1 h2 h3 => ?_⟩, ?_⟩
      · have q : j ≠ i := fun q => by rw [q, hdi] at h3; cases h3
        rw [hS q, hS (by omega), (T.dead j h1 h2 h3).2]; exact ⟨(T.dead j h1 h2 h3).1, rfl⟩
      · obtain ⟨o', ho', _⟩ := at_ j h1 h2
        rw [hkn2 h1 h2 h3 ho'] at h4
        have q : j ≠ i := fun q => by rw [q, hoi] at ho'; cases ho'; rw [hk] at h4; cases h4
        obtain ⟨a1, a2⟩ := T.quiet j o' h1 h2 ho' h3 h4; rw [hS q, hS (by omega), a2]; exact ⟨fun s => fN (hnk h1 h2 h3) ho' (fun _ => a1 _) (a1 _), rfl⟩
      · obtain ⟨o', ho', _⟩ := at_ j h1 h2
        rw [hkn2 h1 h2 h3 ho'] at h4
        have q : j ≠ i := fun q => by rw [q, hoi] at ho'; cases ho'; rw [hk] at h4; cases h4
        obtain ⟨a1, a2, a3, a4⟩ := T.reads j o' h1 h2 ho' h3 h4; rw [hS q, hS (by omega), a2]; refine ⟨fN (hnk h1 h2 h3) ho' (fun _ => a1) a1, rfl, fun a ha hb => ?_, fun k' b1 b2 b3 b4 => ?_⟩
        · obtain ⟨b, rfl, c1, c2⟩ := hboth ha
          exact fN (hnk h1 h2 h3) ho' (fun _ => a3 _ c1 hb) (a3 _ c2 hb)
        · rw [hkk b1 (by omega)] at b3
          by_cases z' : k' = i
          · subst z'
            simp only [if_true]; have := a4 k' b1 b2 b3 b4; rw [T.S0] at this; exact fN (hnk h1 h2 h3) ho' (fun hb => a3 (k, st) hent hb) this
          · rw [hS z']
            exact fN (hnk h1 h2 h3) ho' (fun _ => a4 k' b1 b2 b3 b4) (a4 k' b1 b2 b3 b4)
      · obtain ⟨o', ho', _⟩ := at_ j h1 h2
        rw [hkn2 h1 h2 h3 ho'] at h4; obtain ⟨a1, a2, a3, a4, a5⟩ := T.aG j o' h1 h2 ho' h3 h4; refine ⟨?_, fun a ha => ?_, fun k' b1 b2 b3 => ?_, fun x hx hb => ?_, fun k' b1 b2 b6 b4 b5 => ?_⟩
        · by_cases q : j = i
          · subst q
            rw [hS (show j + 1 ≠ j by omega)]; simp only [if_true]; rw [T.S0] at a1; exact fN hik ho' (fun hb => by simp only [bit] at hb; rw [hbk] at hb; cases hb) a1
          · rw [hS q, hS (by omega)]
            exact fN (hnk h1 h2 h3) ho' (fun _ => a1) a1
        · obtain ⟨b, rfl, c1, _⟩ := hboth ha
          exact a2 _ c1
        · rw [hkk b1 (by omega)] at b3
          exact a3 k' b1 b2 b3
        · obtain ⟨x1, x2, x3⟩ := hs x hx
          rw [hS (by omega)]; exact fN x2 x1 (fun _ => a4 x hx hb) (a4 x hx hb)
        · obtain ⟨o2, ho2, _⟩ := at_ k' b1 (by omega)
          rw [hkn2 b1 (by omega) b6 ho2] at b4; rw [hS (show j + 1 ≠ i by omega)]; exact fN (hnk b1 (by omega) b6) ho2 (fun _ => a5 k' o2 b1 b2 ho2 b6 b4 b5) (a5 k' o2 b1 b2 ho2 b6 b4 b5)
      · obtain rfl : j = i := by omega
        exact ⟨st, by simp, hm⟩
      · have hdj : dd j = false := by
         cases hq : dd j with
         | false => rfl
         | true => simp [kdS, hq] at h3
        obtain ⟨o', ho', hko⟩ := at_ j h1 h2
        rw [hkk h1 h2] at h3
        have : kindOf Cf.imp Cf.md o' = .aG := by rw [← hko]; simpa [kdd, hdj] using h3
        exact (T.aG j o' h1 h2 ho' hdj this).2.1 _ hent
      · rcases hr with ⟨hdf, hr⟩ | ⟨kp, o2, t, x, s', PA, hr⟩
        · refine cL ⟨hdf, ?_⟩
          simp only []; rw [hS (show i + 1 + os.length ≠ i by omega)]; exact hr
        · have q : kp ≠ i := fun q => by have := PA.dk; rw [q, hdi] at this; cases this
          have qk : kp ≠ k := fun q => by have := PA.a1 _ hent; rw [q, hk0] at this; cases this
          refine cG ⟨kp, t, x, (s', s'), ⟨PA.lo, PA.hi, ?_, fun a ha => ?_, fun j b1 b2 b3 => ?_, PA.dk, PA.d1, fun j b1 b2 => ?_⟩, hr, fun _ => hr⟩
          · rw [hS q]
            exact fN qk PA.op (fun _ => PA.qp) PA.qp
          · obtain ⟨b, rfl, c1, _⟩ := hboth ha
            exact PA.a1 _ c1
          · have := PA.hi
            rw [hkk b1 (by omega)] at b3; exact PA.a2 j b1 b2 b3
          · have := PA.lo
            rw [hkk (by omega) b2]; exact PA.d2 j b1 b2
     | true =>
      rcases hr with ⟨hdf, _⟩ | ⟨kp, o2, t, x, s', PA, hr⟩
      · rw [hdf] at hdi; cases hdi
      obtain rfl : kp = i := by
       rcases PA.d1 i (aq _) hdi with q | q
       · exact q.symm
       · have := hfw i kp (hin (by omega)) q
         have := PA.lo; omega
      have hna : ∀ {j}, kp ≤ j → j < kp + 1 + os.length → kdd Cf ops dd j ≠ .aG := by
       intro j h1 h2
       by_cases q : j = kp
       · subst q; simp [kdd, hdi]
       · exact PA.d2 j (by omega) h2
      have hconst : ∀ n, kp + n ≤ kp + 1 + os.length → S (kp + n) = st.push z := by
       intro n
       induction n with
       | zero => intro _; exact T.S0
       | succ n ih =>
        intro hn
        have hlt : kp + n < kp + 1 + os.length := by omega
        have ih := ih (by omega); rw [← ih, show kp + (n + 1) = kp + n + 1 by omega]
        cases hdj : dd (kp + n) with
        | true => exact (T.dead _ (by omega) hlt hdj).2
        | false =>
         obtain ⟨o', ho', hko⟩ := at_ (kp + n) (by omega) hlt
         cases hk' : kindOf Cf.imp Cf.md o' with
         | quiet => exact (T.quiet _ o' (by omega) hlt ho' hdj hk').2
         | reads => exact (T.reads _ o' (by omega) hlt ho' hdj hk').2.1
         | aG => exact absurd (show kdd Cf ops dd (kp + n) = .aG by simp [kdd, hdj, hko, hk']) (hna (by omega) hlt)
      refine ⟨dd, E, fun _ => prS z st, p, ⟨T.E0, rfl, fun j h1 h2 h3 => ⟨(T.dead j h1 h2 h3).1, rfl⟩, T.step, fun j h1 h2 h3 h4 => ?_, fun j h1 h2 h3 h4 => ?_, fun j h1 h2 h3 h4 => ?_⟩, ⟨kp + 1 + os.length, by omega, fun j h1 h2 => ⟨st, rfl, hm⟩, fun j h1 h2 => by omega⟩, cG ⟨kp, t, x, (s', s'), ⟨aq _, PA.hi, ?_, fun a ha => ?_, fun j b1 b2 => by omega, PA.dk, PA.d1, fun j b1 b2 => ?_⟩, hr, fun _ => hr⟩⟩
      · obtain ⟨o', ho', _⟩ := at_ j h1 h2
        rw [hkn2 h1 h2 h3 ho'] at h4; obtain ⟨a1, a2⟩ := T.quiet j o' h1 h2 ho' h3 h4; exact ⟨fun s => fN (hnk h1 h2 h3) ho' (fun _ => a1 _) (a1 _), rfl⟩
      · obtain ⟨o', ho', _⟩ := at_ j h1 h2
        rw [hkn2 h1 h2 h3 ho'] at h4; obtain ⟨a1, a2, a3, a4⟩ := T.reads j o' h1 h2 ho' h3 h4; have hSj := hconst (j - kp) (by omega); rw [show kp + (j - kp) = j by omega] at hSj; rw [hSj] at a1; refine ⟨fN (hnk h1 h2 h3) ho' (fun hb => a3 (k, st) hent hb) a1, rfl, fun a ha hb => ?_, fun k' b1 b2 b3 b4 => ?_⟩
        · obtain ⟨b, rfl, c1, c2⟩ := hboth ha
          exact fN (hnk h1 h2 h3) ho' (fun _ => a3 _ c1 hb) (a3 _ c2 hb)
        · rw [hkk b1 (by omega)] at b3
          exact absurd b3 (hna b1 (by omega))
      · have : kdS (knL Cf ops k) dd j = .aG := by simp [kdS, h3, h4]
        rw [hkk h1 h2] at this; exact absurd this (hna h1 h2)
      · have ht := PA.qp
        rw [T.S0] at ht; have ho2 := PA.op; exact fN hik ho2 (fun hb => by simp only [bit] at hb; rw [hbk] at hb; cases hb) ht
      · obtain ⟨b, rfl, c1, _⟩ := hboth ha
        exact PA.a1 _ c1
      · rw [hkk (by omega) b2]
        exact PA.d2 j b1 b2
    | false =>
     rw [hbk, cond_false] at h
     cases ha : aG.all (fun a => ((Region.before ops).getD i 0).testBit a.1) with
     | false => rw [ha] at h; simp at h
     | true =>
      rw [ha] at h; simp only [cond_true] at h; rw [du] at h; obtain ⟨⟨q, s'⟩, hq, h⟩ := Option.bind_eq_some_iff.1 h; rw [dG] at ha
      have ha' : ∀ a ∈ jw aG z, bit ops i a.1 = true := fun a hx => by obtain ⟨b, hb, rfl⟩ := nh hx; exact ha b hb
      cases q with
      | pan t x =>
       obtain ⟨h1, h⟩ := fK h; obtain ⟨r', hr', h⟩ := Option.bind_eq_some_iff.1 h; obtain ⟨h2, h⟩ := fK h; obtain ⟨E, p, T, hz, hf⟩ := qX os (i + 1) e hdr h; obtain rfl := Option.some.inj hf; have T1 := (T.dd (dd' := fun j => if j = i then true else bit ops j i) fun j hj => by rw [if_neg (by omega)]).skip (by simp)
       have hna : ∀ j, i ≤ j → j < i + 1 + os.length → kdS (knL Cf ops k) (fun j => if j = i then true else bit ops j i) j ≠ .aG := by
        intro j h1 h2
        by_cases q : j = i
        · simp [kdS, q]
        · cases hb : bit ops j i with
          | true => simp [kdS, q, hb]
          | false =>
           have := hz j (by omega) h2 hb; simpa [kdS, q, hb] using this
       refine ⟨_, _, _, p, ⟨T1.E0, T1.S0, T1.dead, T1.step, T1.quiet, T1.reads, fun j h1 h2 h3 h4 => absurd (show kdS (knL Cf ops k) (fun j => if j = i then true else bit ops j i) j = .aG by show (bif (if j = i then true else bit ops j i) then Kind.quiet else knL Cf ops k j) = _; rw [show (if j = i then true else bit ops j i) = false from h3]; exact h4) (hna j h1 h2)⟩,
        ⟨i + 1 + os.length, by omega, fun j h1 h2 => ⟨st, rfl, hm⟩, fun j h1 h2 => by omega⟩, cG ⟨i, t, x, prS z s', ⟨aq _, by omega, ?_, ha', fun j b1 b2 => by omega, by simp, fun j b1 b2 => ?_, fun j b1 b2 => hna j (by omega) b2⟩, h2, fun _ => hr'⟩⟩
       · simp only [if_true]
         exact fN hik hoi (fun _ => hq) h1
       · by_cases q : j = i
         · exact cL q
         · simp only [if_neg q] at b2; exact cG b2
      | ret q =>
       obtain ⟨h1, h⟩ := fK h; obtain ⟨h2, h⟩ := fK h; obtain ⟨h3, h⟩ := fD h; obtain ⟨h4, h⟩ := fD h; refine go q s' seen ((i, st) :: aG) h h2 hs (fun z => by rw [hkn, hk] at z; cases z) (fun z => by rw [hkn, hk] at z; cases z) (fun _ => ⟨fN hik hoi (fun _ => hq) h1, rfl, rfl, ha', fun x hx hb => ?_⟩); obtain ⟨x1, x2, x3⟩ := hs x hx
       have hmem : x ∈ seen.filter fun x => !((Region.before ops).getD i 0).testBit x.i := List.mem_filter.2 ⟨hx, by simp only [bit] at hb; rw [hb]; rfl⟩
       exact fN x2 x1 (fun _ => h3 _ (List.mem_map.2 ⟨x, hmem, rfl⟩)) (h4 _ (List.mem_map.2 ⟨x, hmem, rfl⟩))
end
section
variable {Cf : Cfg}
def uz (acc : Array Nat) (o : Oper) : Nat := o.after.foldl (fun s e => if Region.binds .any e then s ||| 2 ^ e.on ||| acc.getD e.on 0 else s) 0
theorem pY : ∀ (l : List Oper) (acc : Array Nat), (l.foldl (fun acc o => acc.push (uz acc o)) acc).size = acc.size + l.length ∧
 (∀ k, k < acc.size → (l.foldl (fun acc o => acc.push (uz acc o)) acc).getD k 0 = acc.getD k 0) ∧
 ∀ m o, l[m]? = some o → ∃ acc' : Array Nat, acc'.size = acc.size + m ∧ (∀ k, k < acc.size + m → acc'.getD k 0 = (l.foldl (fun acc o => acc.push (uz acc o)) acc).getD k 0) ∧
  (l.foldl (fun acc o => acc.push (uz acc o)) acc).getD (acc.size + m) 0 = uz acc' o
 | [], acc => ⟨by simp, by simp, by simp⟩
 | x :: l, acc => by
  obtain ⟨h1, h2, h3⟩ := pY l (acc.push (uz acc x)); simp only [List.foldl_cons]; refine ⟨by rw [h1]; simp; omega, fun k hk => ?_, fun m o hm => ?_⟩
  · rw [h2 k (by simp; omega)]
    simp [aI, Array.getElem?_push, Nat.ne_of_lt hk]
  · cases m with
    | zero =>
     simp at hm; subst hm; refine ⟨acc, rfl, fun k hk => ?_, ?_⟩
     · rw [h2 k (by simp; omega)]
       simp at hk; simp [aI, Array.getElem?_push, Nat.ne_of_lt hk]
     · rw [bz, h2 acc.size (by simp)]
       simp [aI]
    | succ m =>
     simp at hm; obtain ⟨acc', a1, a2, a3⟩ := h3 m o hm; simp only [Array.size_push] at a1 a2 a3; refine ⟨acc', by omega, fun k hk => a2 k (by omega), ?_⟩; rw [show acc.size + (m + 1) = acc.size + 1 + m by omega]; exact a3
theorem sq (ops : Array Oper) : Region.before ops = ops.toList.foldl (fun acc o => acc.push (uz acc o)) #[] := by
 unfold Region.before; rw [← Array.foldl_toList]
 rfl
theorem o6 (b : Edge → Bool) (f : Nat → Nat) (j : Nat) : ∀ (l : List Edge) (s : Nat), (l.foldl (fun s e => if b e then s ||| 2 ^ e.on ||| f e.on else s) s).testBit j = true →
 s.testBit j = true ∨ ∃ e ∈ l, b e = true ∧ (e.on = j ∨ (f e.on).testBit j = true)
 | [], s, h => cL h
 | e :: l, s, h => by
  simp only [List.foldl_cons] at h
  rcases o6 b f j l _ h with h | ⟨e', h1, h2⟩
  · split at h
    · rename_i hb
      rw [Nat.testBit_or, Nat.testBit_or] at h; simp only [Bool.or_eq_true] at h
      rcases h with (h | h) | h
      · exact cL h
      · rw [Nat.testBit_two_pow] at h
        exact cG ⟨e, bH .., hb, cL (by simpa using h)⟩
      · exact cG ⟨e, bH .., hb, cG h⟩
    · exact cL h
  · exact cG ⟨e', bZ _ h1, h2⟩
theorem Ai {ops : Array Oper} {i j : Nat} {o : Oper} (ho : ops[i]? = some o) (h : bit ops i j = true) : ∃ e ∈ o.after.toList, Region.binds .any e = true ∧ (e.on = j ∨ bit ops e.on j = true) := by
 have hl : ops.toList[i]? = some o := by simpa using ho
 obtain ⟨acc', a1, a2, a3⟩ := (pY ops.toList #[]).2.2 i o hl; simp only [List.size_toArray, aF, bf] at a1 a2 a3; unfold bit at h; rw [sq, a3] at h; unfold uz at h; rw [← Array.foldl_toList] at h
 rcases o6 (Region.binds .any) (fun k => acc'.getD k 0) j _ _ h with h | ⟨e, h1, h2, h3⟩
 · simp at h
 · refine ⟨e, h1, h2, ?_⟩
   rcases h3 with h3 | h3
   · exact cL h3
   · by_cases q : e.on < i
     · right
       unfold bit; rw [sq, ← a2 e.on q]; exact h3
     · simp [aI, Array.getElem?_eq_none (show acc'.size ≤ e.on by omega)] at h3
theorem pX {bs : Array Nat} {i : Nat} {ts : List Nat} : ∀ {os : List Oper} {j : Nat}, oj bs i ts os j = true → ∀ m o t, os[m]? = some o → o.dst = some t → t ∈ ts → i = j + m ∨ (if i < j + m then (bs.getD (j + m) 0).testBit i = true else (bs.getD i 0).testBit (j + m) = true)
 | [], j, h, m, o, t, hm, _, _ => by simp at hm
 | x :: os, j, h, m, o, t, hm, hd, ht => by
  simp only [oj, ao] at h
  cases m with
  | zero =>
   simp at hm; subst hm; have h1 := h.1; rw [hd] at h1; simp only [Bool.or_eq_true] at h1
   rcases h1 with (h1 | h1) | h1
   · have : ts.any (ai t) = true := List.any_eq_true.2 ⟨t, ht, Nat.beq_refl t⟩
     rw [this] at h1; cases h1
   · exact cL (au h1)
   · right
     rw [bz]
     cases hb : fJ i j with
     | true => rw [hb] at h1; rw [Nat.blt_eq] at hb; rw [if_pos hb]; exact h1
     | false =>
      rw [hb] at h1
      have : ¬ i < j := fun z => by rw [← Nat.blt_eq] at z; rw [hb] at z; cases z
      rw [if_neg this]; exact h1
  | succ m =>
   simp at hm; have := pX h.2 m o t hm hd ht; rw [show j + 1 + m = j + (m + 1) by omega] at this; exact this
theorem mr {ops : Array Oper} {bs : Array Nat} : ∀ {os : List Oper} {i : Nat}, gJ ops bs os i = true → ∀ m o, os[m]? = some o →
 (∀ e ∈ o.after.toList, Region.binds .any e = true → e.on < i + m) ∧ oj bs (i + m) (tmpsOf ops o) ops.toList 0 = true
 | [], i, h, m, o, hm => by simp at hm
 | x :: os, i, h, m, o, hm => by
  simp only [gJ, ao] at h
  cases m with
  | zero =>
   simp at hm; subst hm; refine ⟨fun e he hb => ?_, h.1.2⟩; have := h.1.1; rw [dG] at this; have := this e he; rw [hb] at this; simp only [bA, Bool.false_or, Nat.blt_eq] at this; simpa using this
  | succ m =>
   simp at hm; have := mr h.2 m o hm; rw [show i + 1 + m = i + (m + 1) by omega] at this; exact this
variable {Z : Type} {ops : Array Oper} {tl : Nat → Env → Z → Rs → Z → Prop} {kn : Nat → Kind} {dd : Nat → Bool} {e0 : Env} {s0 : Z} {E : Nat → Env} {S : Nat → Z} {p : Nat → PV}
theorem rj {i : Nat} (hd : dd i = false) : kdS kn dd i = kn i := by simp [kdS, hd]
def stS (kn : Nat → Kind) (dd : Nat → Bool) (s0 : Z) (S : Nat → Z) (D : Nat → Bool) : Nat → Z
 | 0 => s0
 | i + 1 => match kdS kn dd i with
  | .aG => bif D i then S (i + 1) else stS kn dd s0 S D i
  | _ => stS kn dd s0 S D i
theorem tq (T : gb Cf ops tl kn dd 0 ops.size e0 s0 [] [] E S p) {i : Nat} (hi : i < ops.size) (hk : kdS kn dd i ≠ .aG) : S (i + 1) = S i := by
 cases hd : dd i with
 | true => exact (T.dead i (dq _) hi hd).2
 | false =>
 rw [rj hd] at hk
 cases h : kn i with
 | quiet => exact (T.quiet i (dq _) hi hd h).2
 | reads => exact (T.reads i (dq _) hi hd h).2.1
 | aG => exact absurd h hk
theorem qB (T : gb Cf ops tl kn dd 0 ops.size e0 s0 [] [] E S p) : ∀ (n a : Nat), a + n ≤ ops.size → (∀ k, a ≤ k → k < a + n → kdS kn dd k ≠ .aG) → S (a + n) = S a
 | 0, a, _, _ => rfl
 | n + 1, a, h, hk => by
  rw [show a + (n + 1) = (a + n) + 1 by omega, tq T (by omega) (hk _ (by omega) (by omega))]
  exact qB T n a (by omega) fun k h1 h2 => hk k h1 (by omega)
theorem mN (T : gb Cf ops tl kn dd 0 ops.size e0 s0 [] [] E S p) {D : Nat → Bool} : ∀ N, N ≤ ops.size → (∀ k1 k2, k1 < k2 → k2 < N → kdS kn dd k1 = .aG → kdS kn dd k2 = .aG → D k2 = true → D k1 = true) →
 ∃ m, m ≤ N ∧ stS kn dd s0 S D N = S m ∧ (∀ k, k < m → kdS kn dd k = .aG → D k = true) ∧ (∀ k, m ≤ k → k < N → kdS kn dd k = .aG → D k = false) ∧ (m = N ∨ kdS kn dd m = .aG)
 | 0, _, _ => ⟨0, aq _, T.S0.symm, fun k h => by omega, fun k _ h => by omega, cL rfl⟩
 | N + 1, hN, hD => by
  obtain ⟨m, h1, h2, h3, h4, h5⟩ := mN T N (by omega) fun k1 k2 a b => hD k1 k2 a (by omega)
  cases hk : kdS kn dd N with
  | aG =>
   simp only [stS, hk]
   cases hd : D N with
   | true =>
    have hm : m = N := by
     rcases h5 with h5 | h5
     · exact h5
     · by_cases q : m = N
       · exact q
       · have := hD m N (by omega) (by omega) h5 hk hd
         rw [h4 m (aq _) (by omega) h5] at this; cases this
    subst hm; refine ⟨m + 1, aq _, rfl, fun k a b => ?_, fun k a b => by omega, cL rfl⟩
    by_cases q : k = m
    · subst q; exact hd
    · exact h3 k (by omega) b
   | false =>
    refine ⟨m, by omega, h2, h3, fun k a b c => ?_, ?_⟩
    · by_cases q : k = N
      · subst q; exact hd
      · exact h4 k a (by omega) c
    · rcases h5 with h5 | h5
      · exact cG (h5 ▸ hk)
      · exact cG h5
  | quiet =>
   simp only [stS, hk]
   rcases h5 with h5 | h5
   · subst h5
     refine ⟨m + 1, aq _, by rw [h2, tq T (by omega) (by rw [hk]; simp)], fun k a b => ?_, fun k a b => by omega, cL rfl⟩
     by_cases q : k = m
     · subst q; rw [hk] at b; cases b
     · exact h3 k (by omega) b
   · refine ⟨m, by omega, h2, h3, fun k a b c => ?_, cG h5⟩
     by_cases q : k = N
     · subst q; rw [hk] at c; cases c
     · exact h4 k a (by omega) c
  | reads =>
   simp only [stS, hk]
   rcases h5 with h5 | h5
   · subst h5
     refine ⟨m + 1, aq _, by rw [h2, tq T (by omega) (by rw [hk]; simp)], fun k a b => ?_, fun k a b => by omega, cL rfl⟩
     by_cases q : k = m
     · subst q; rw [hk] at b; cases b
     · exact h3 k (by omega) b
   · refine ⟨m, by omega, h2, h3, fun k a b c => ?_, cG h5⟩
     by_cases q : k = N
     · subst q; rw [hk] at c; cases c
     · exact h4 k a (by omega) c
theorem sX {D D' : Nat → Bool} : ∀ N, (∀ k, k < N → kdS kn dd k = .aG → D k = D' k) → stS kn dd s0 S D N = stS kn dd s0 S D' N
 | 0, _ => rfl
 | N + 1, h => by
  have ih := sX (D := D) (D' := D') N fun k a => h k (by omega)
  cases hk : kdS kn dd N with
  | aG =>
   simp only [stS, hk]; rw [h N (by omega) hk, ih]
  | quiet => simp only [stS, hk]; exact ih
  | reads => simp only [stS, hk]; exact ih
theorem w9 (T : gb Cf ops tl kn dd 0 ops.size e0 s0 [] [] E S p) : ∀ i, i ≤ ops.size → E i = jr Cf ops e0 p (fun j => !dd j) i
 | 0, _ => T.E0
 | i + 1, h => by
  have ho : ops[i]? = some ops[i] := aV (by omega)
  cases hd : dd i with
  | true =>
   rw [(T.dead i (dq _) (by omega) hd).1, w9 T i (by omega)]; simp only [jr, ho, hd, bA, cond_false]
  | false =>
   rw [T.step i _ (dq _) (by omega) ho hd, w9 T i (by omega)]; simp only [jr, ho, hd, ba, cond_true]
theorem qZ {D : Nat → Bool} {t : Nat} (ht : fJ t Cf.n = false) : ∀ N, jr Cf ops e0 p D N t = e0 t
 | 0 => rfl
 | i + 1 => by
  have ih := qZ (D := D) ht i; simp only [jr]
  cases ho : ops[i]? with
  | none => exact ih
  | some o =>
   simp only []
   cases D i with
   | false => exact ih
   | true =>
    simp only [cond_true]
    cases hd : o.dst with
    | none => exact ih
    | some d =>
     by_cases q : d = t
     · subst q
       simp only [put, ht, cond_false]; exact ih
     · rw [jG q]; exact ih
end
section
variable {gv : GV} {Cf : Cfg} {rd : Option Nat} {lo : Nat} {bs : List (Nat × Nat × Nat)} {Q : Exit → Act → World → Prop}
theorem sv {α : Type} (f g : α → Bool) : ∀ (l : List α), (∀ x ∈ l, g x = true → f x = true) → (∃ x ∈ l, f x = true ∧ g x = false) → l.countP g < l.countP f
 | [], _, h => by obtain ⟨x, hx, _⟩ := h; cases hx
 | a :: l, h1, h2 => by
  have hle : l.countP g ≤ l.countP f := List.countP_mono_left fun x hx => h1 x (bZ _ hx)
  simp only [List.countP_cons]
  by_cases q : f a = true ∧ g a = false
  · rw [q.1, q.2]; simp; omega
  · have hex : ∃ x ∈ l, f x = true ∧ g x = false := by
     obtain ⟨x, hx, hf⟩ := h2
     rcases List.mem_cons.1 hx with rfl | hx
     · exact absurd hf q
     · exact ⟨x, hx, hf⟩
    have := sv f g l (fun x hx => h1 x (bZ _ hx)) hex; have ha := h1 a (bH ..)
    cases hg : g a with
    | false => cases hf : f a <;> simp <;> omega
    | true => rw [ha hg]; simp; omega
def unl (n : Nat) (L : Array Bool) : Nat := (List.range n).countP fun i => !L.getD i true
theorem Df {n i : Nat} {L : Array Bool} (hi : i < n) (hL : L.getD i true = false) : unl n (L.setIfInBounds i true) < unl n L := by
 have hlt : i < L.size := by
  rcases Nat.lt_or_ge i L.size with h | h
  · exact h
  · rw [aI, Array.getElem?_eq_none h] at hL; cases hL
 refine sv _ _ _ (fun x _ hx => ?_) ⟨i, List.mem_range.2 hi, by rw [hL]; rfl, ?_⟩
 · by_cases q : i = x
   · subst q; rw [hL]; rfl
   · rw [aI, dS q, ← aI] at hx; exact hx
 · rw [aI, Array.getElem?_setIfInBounds_self_of_lt hlt]; rfl
structure w8 {Z : Type} (gv : GV) (lo : Nat) (Cf : Cfg) (ops : Array Oper) (kn : Nat → Kind) (dd : Nat → Bool) (SimR : Array Bool → World → Ctx → Z → Prop) (e0 : Env) (s0 : Z) (S : Nat → Z) (p : Nat → PV) (w0 : World) (C0 : Ctx) (L : Array Bool) (a : Act) (w : World) : Prop where
 size : L.size = ops.size
 closed : ∀ i j, L.getD i false = true → bit ops i j = true → L.getD j false = true
 live : ∀ i, L.getD i false = true → dd i = false
 sim : ∃ C, SimR L w C (stS kn dd s0 S (fun i => L.getD i false) ops.size) ∧ Ext w0 C0 w C ∧ dU gv Cf.gl lo w C (jr Cf ops e0 p (fun i => L.getD i false) ops.size) Cf.n a
theorem xG {L : Array Bool} {i : Nat} (h : i < L.size) : L.getD i true = L.getD i false := by
 rw [aI, aI, aV h]; rfl
theorem uH {Z : Type} {tl : Nat → Env → Z → Rs → Z → Prop} {kn : Nat → Kind} (SimR PanSim : Array Bool → World → Ctx → Z → Prop) {ops : Array Oper} (hc : gJ ops (Region.before ops) ops.toList 0 = true) {dd : Nat → Bool} {e0 : Env} {s0 : Z} {E : Nat → Env} {S : Nat → Z} {p : Nat → PV} {w0 : World} {C0 : Ctx}
 (T : gb Cf ops tl kn dd 0 ops.size e0 s0 [] [] E S p)
 (hop : ∀ (i : Nat) (o : Oper) (L : Array Bool) (a : Act) (w : World) (C : Ctx) (e : Env) (r : Rs) (s' : Z) (next : Act → World → Prop), ops[i]? = some o → i < ops.size → L.size = ops.size → (∀ i j, L.getD i false = true → bit ops i j = true → L.getD j false = true) → (∀ i, L.getD i false = true → dd i = false) → L.getD i false = false → (∀ j, bit ops i j = true → L.getD j false = true) →
  SimR L w C (stS kn dd s0 S (fun i => L.getD i false) ops.size) → dU gv Cf.gl lo w C e Cf.n a → (∀ t ∈ tmpsOf ops o, E i t = e t) → tl i (E i) (stS kn dd s0 S (fun i => L.getD i false) ops.size) r s' →
  (∀ q v w' C', r = .ret q → SimR (L.setIfInBounds i true) w' C' s' → Ext w C w' C' → Rep w' C' v q → next (a.put o.dst v) w') →
  (∀ t x w' C', r = .pan t x → PanSim L w' C' s' → Ext w C w' C' → Q (.panic [{ v := .iface t x, recovered := false }]) a w') → wpOpIn (fen rd) 0 Cf.P ops Q i next a w)
 (hdd : ∀ i, dd i = true → ∃ k t x s', vS ops tl kn dd 0 ops.size [] E S k t x s' ∧ ∀ L a w C, (∀ j, bit ops k j = true → L.getD j false = true) → PanSim L w C s' → Ext w0 C0 w C → yF gv lo w C Cf.n a → Q (.panic [{ v := .iface t x, recovered := false }]) a w)
 (hQ : (∀ i, i < ops.size → dd i = false) → ∀ L a w C, (∀ i, i < ops.size → L.getD i false = true) → SimR L w C (S ops.size) → Ext w0 C0 w C → dU gv Cf.gl lo w C (E ops.size) Cf.n a → Q .normal a w) :
 ∀ (fuel : Nat) (L : Array Bool) (a : Act) (w : World), unl ops.size L ≤ fuel → w8 gv lo Cf ops kn dd SimR e0 s0 S p w0 C0 L a w → wpAnyIn (fen rd) 0 Cf.P .any ops Q fuel L a w := by
 have chk : ∀ i o, ops[i]? = some o → (∀ e ∈ o.after.toList, Region.binds .any e = true → e.on < i) ∧
  ∀ d o' t, ops[d]? = some o' → o'.dst = some t → t ∈ tmpsOf ops o → i = d ∨ (if i < d then bit ops d i = true else bit ops i d = true) := by
  intro i o ho; obtain ⟨h1, h2⟩ := mr hc i o (by simpa using ho); rw [bf] at h1 h2; refine ⟨h1, fun d o' t hd hdst ht => ?_⟩; have := pX h2 d o' t (by simpa using hd) hdst ht; rw [bf] at this; exact this
 have aG : ∀ k1 k2, k1 < k2 → k2 < ops.size → kdS kn dd k1 = .aG → kdS kn dd k2 = .aG → bit ops k2 k1 = true := by
  intro k1 k2 h1 h2 h3 h4
  have hd2 : dd k2 = false := by
   cases hd : dd k2 with
   | false => rfl
   | true => simp [kdS, hd] at h4
  rw [rj hd2] at h4; exact (T.aG k2 (dq _) h2 hd2 h4).2.2.1 k1 (dq _) h1 h3
 have done : ∀ (L : Array Bool), L.size = ops.size → Region.ready .any ops L = [] → ∀ i, i < ops.size → L.getD i false = true := by
  intro L hs hr i
  induction i using Nat.strongRecOn with
  | _ i ih =>
   intro hi
   cases hL : L.getD i false with
   | true => rfl
   | false =>
    exfalso
    have ho : ops[i]? = some ops[i] := aV hi
    have hmem : i ∈ Region.ready .any ops L := by
     unfold Region.ready; refine List.mem_filter.2 ⟨List.mem_range.2 hi, ?_⟩; rw [xG (by omega), hL, ho]; simp only [ba, bB, aP, Option.getD_some]; rw [Array.all_eq_true']; intro e he
     cases hb : Region.binds .any e with
     | false => rfl
     | true =>
      have := (chk i _ ho).1 e (by simpa using he) hb; simp only [bA, Bool.false_or]; exact ih e.on this (by omega)
    rw [hr] at hmem; cases hmem
 have fin : ∀ (L : Array Bool) (a : Act) (w : World), w8 gv lo Cf ops kn dd SimR e0 s0 S p w0 C0 L a w → (∀ i, i < ops.size → L.getD i false = true) → Q .normal a w := by
  intro L a w I hall; obtain ⟨C, k1, k2, k3⟩ := I.sim; refine hQ (fun i hi => I.live i (hall i hi)) L a w C hall ?_ k2 ⟨k3.gl, k3.size, fun t => ?_, k3.defers⟩
  · obtain ⟨m, m1, m2, m3, m4, m5⟩ := mN T (D := fun i => L.getD i false) ops.size (aq _) fun k1 k2 _ h _ _ _ => hall k1 (by omega)
    have hm : m = ops.size := by
     rcases m5 with m5 | m5
     · exact m5
     · by_cases q : m = ops.size
       · exact q
       · have h1 := m4 m (aq _) (by omega) m5
         have h2 := hall m (by omega); simp only [h2] at h1; cases h1
    rw [m2, hm] at k1; exact k1
  · have := k3.rep t
    rw [w9 T ops.size (aq _), ← lE (D := fun i => L.getD i false) ops.size fun d o hd _ _ => by
     have h1 := hall d hd
     simp only [h1, I.live d h1, ba]]
    exact this
 intro fuel
 induction fuel with
 | zero =>
  intro L a w hu I
  have hr : Region.ready .any ops L = [] := by
   cases hq : Region.ready .any ops L with
   | nil => rfl
   | cons x xs =>
    exfalso
    have hx : x ∈ Region.ready .any ops L := by rw [hq]; exact bH ..
    unfold Region.ready at hx; obtain ⟨h1, h2⟩ := List.mem_filter.1 hx; rw [ao] at h2
    have : 0 < unl ops.size L := by
     unfold unl; exact List.countP_pos_iff.2 ⟨x, h1, h2.1⟩
    omega
  exact ⟨hr, fin L a w I (done L I.size hr)⟩
 | succ fuel ih =>
  intro L a w hu I; refine ⟨fun hr => fin L a w I (done L I.size hr), fun i hi => ?_⟩; unfold Region.ready at hi; obtain ⟨hi1, hi2⟩ := List.mem_filter.1 hi; have hin := List.mem_range.1 hi1; have ho : ops[i]? = some ops[i] := aV hin; generalize ops[i] = o at ho; rw [ho, ao] at hi2
  have hLi : L.getD i true = false := by simpa using hi2.1
  have hLf : L.getD i false = false := by rw [← xG (by have := I.size; omega)]; exact hLi
  have hafter : ∀ e ∈ o.after.toList, Region.binds .any e = true → L.getD e.on false = true := by
   intro e he hb; have := hi2.2; simp only [aP, Option.getD_some] at this; rw [Array.all_eq_true'] at this; have := this e (by simpa using he); rw [hb] at this; simpa using this
  have hdep : ∀ j, bit ops i j = true → L.getD j false = true := by
   intro j hj; obtain ⟨e, h1, h2, h3⟩ := Ai ho hj; have := hafter e h1 h2
   rcases h3 with rfl | h3
   · exact this
   · exact I.closed _ _ this h3
  have hnot : ∀ d, bit ops d i = true → L.getD d false = false := by
   intro d hd
   cases q : L.getD d false with
   | false => rfl
   | true => have := I.closed d i q hd; rw [hLf] at this; cases this
  obtain ⟨hon, hap⟩ := chk i o ho
  have hL' : ∀ d, (L.setIfInBounds i true).getD d false = if d = i then true else L.getD d false := by
   intro d
   by_cases q : d = i
   · subst q
     rw [if_pos rfl, aI, Array.getElem?_setIfInBounds_self_of_lt (by have := I.size; omega)]; rfl
   · rw [if_neg q, aI, dS (Ne.symm q), ← aI]
  have hclosed' : ∀ i' j, (L.setIfInBounds i true).getD i' false = true → bit ops i' j = true → (L.setIfInBounds i true).getD j false = true := by
   intro i' j h1 h2; rw [hL'] at h1 ⊢
   by_cases q : j = i
   · rw [if_pos q]
   · rw [if_neg q]
     by_cases q' : i' = i
     · subst q'; exact hdep j h2
     · rw [if_neg q'] at h1; exact I.closed i' j h1 h2
  obtain ⟨C, k1, k2, k3⟩ := I.sim
  have hlv : ∀ {j : Nat}, L.getD j false = true → dd j = false := fun h => I.live _ h
  have henv : ∀ t ∈ tmpsOf ops o, E i t = jr Cf ops e0 p (fun i => L.getD i false) ops.size t := by
   intro t ht; rw [w9 T i (by omega)]; rw [pt (Cf := Cf) (i := i) (D := fun i => L.getD i false) ops.size (by omega) fun d o' h1 h2 h3 h4 => ?_]
   · refine (lE i fun d o' h1 h2 h3 => ?_)
     rcases hap d o' t h2 h3 ht with z | z
     · omega
     · rw [if_neg (by omega)] at z
       have h1 := hdep d z; simp only [h1, hlv h1, ba]
   · rcases hap d o' t h3 h4 ht with z | z
     · subst z; exact hLf
     · by_cases q : i < d
       · rw [if_pos q] at z; exact hnot d z
       · obtain rfl : i = d := by omega
         exact hLf
  obtain ⟨m, m1, m2, m3, m4, m5⟩ := mN T (D := fun i => L.getD i false) ops.size (aq _) fun k1 k2 h1 h2 h3 h4 h5 => I.closed k2 k1 h5 (aG k1 k2 h1 h2 h3 h4)
  obtain ⟨m', m1', m2', m3', m4', m5'⟩ := mN T (D := fun d => (L.setIfInBounds i true).getD d false) ops.size (aq _) fun k1 k2 h1 h2 h3 h4 h5 => hclosed' k2 k1 h5 (aG k1 k2 h1 h2 h3 h4)
  cases hdi : dd i with
  | true =>
   obtain ⟨k, ty, x, s', PA, hN⟩ := hdd i hdi
   have hik : i = k := by
    rcases PA.d1 i (dq _) hdi with z | z
    · exact z
    · have := hlv (hdep k z)
      rw [PA.dk] at this; cases this
   subst hik
   have hms : S m = S i := by
    have hge : i ≤ m := by
     rcases Nat.lt_or_ge m i with hlt | hge
     · exfalso
       have hma : kdS kn dd m = .aG := by
        rcases m5 with m5 | m5
        · omega
        · exact m5
       have h1 := hdep m (PA.a2 m (dq _) hlt hma); have h2 := m4 m (aq _) (by omega) hma; simp only [h1] at h2; cases h2
     · exact hge
    have := qB T (m - i) i (by omega) fun j h1 h2 h3 => by
     rcases Nat.lt_or_ge i j with hlt | hle
     · exact PA.d2 j hlt (by omega) h3
     · obtain rfl : j = i := by omega
       simp [kdS, hdi] at h3
    rw [show i + (m - i) = m by omega] at this; exact this
   have htold : tl i (E i) (stS kn dd s0 S (fun i => L.getD i false) ops.size) (.pan ty x) s' := by
    rw [m2, hms]; exact PA.qp
   exact hop i o L a w C _ _ _ _ ho hin I.size I.closed I.live hLf hdep k1 k3 henv htold (fun q v w' C' hq => by cases hq) fun t2 x2 w' C' hq q1 q2 => by
    cases hq; exact hN L a w' C' hdep q1 (k2.trans q2) (k3.mono q2).pan
  | false =>
  have hkd := rj (kn := kn) hdi
  have htold : tl i (E i) (stS kn dd s0 S (fun i => L.getD i false) ops.size) (.ret (p i)) (stS kn dd s0 S (fun d => (L.setIfInBounds i true).getD d false) ops.size) := by
   have same : kn i ≠ .aG → stS kn dd s0 S (fun d => (L.setIfInBounds i true).getD d false) ops.size = stS kn dd s0 S (fun i => L.getD i false) ops.size := by
    intro hk
    refine sX ops.size fun k h1 h2 => ?_
    simp only [hL']; rw [if_neg]
    rintro rfl
    rw [hkd] at h2; exact hk h2
   cases hk : kn i with
   | quiet =>
    rw [same (by rw [hk]; simp)]; exact (T.quiet i (dq _) hin hdi hk).1 _
   | reads =>
    rw [same (by rw [hk]; simp), m2]; obtain ⟨t1, t2, _, t4⟩ := T.reads i (dq _) hin hdi hk
    by_cases q : m ≤ i
    · have hne : m ≠ i := by
       rintro rfl
       rcases m5 with m5 | m5
       · omega
       · rw [hkd, hk] at m5; cases m5
      have hma : kdS kn dd m = .aG := by
       rcases m5 with m5 | m5
       · omega
       · exact m5
      refine t4 m (dq _) (by omega) hma ?_
      cases hb : bit ops i m with
      | false => rfl
      | true =>
       have h1 := hdep m hb; have h2 := m4 m (aq _) (by omega) hma; simp only [h1] at h2; cases h2
    · -- the aG from i up to m
      have key : ∀ n, i + 1 + n ≤ m → tl i (E i) (S (i + 1 + n)) (.ret (p i)) (S (i + 1 + n)) := by
       intro n
       induction n with
       | zero => intro _; rw [bz, t2]; exact t1
       | succ n ihn =>
        intro hn
        have hlt : i + 1 + n < ops.size := by omega
        have ho' : ops[i + 1 + n]? = some ops[i + 1 + n] := aV hlt
        by_cases hka : kdS kn dd (i + 1 + n) = .aG
        · have hd' : dd (i + 1 + n) = false := by
           cases hd : dd (i + 1 + n) with
           | false => rfl
           | true => simp [kdS, hd] at hka
          have hka' := hka; rw [rj hd'] at hka'; have hD := m3 (i + 1 + n) (by omega) hka; refine (T.aG (i + 1 + n) (dq _) hlt hd' hka').2.2.2.2 i (dq _) (by omega) hdi hk ?_
          cases hb : bit ops (i + 1 + n) i with
          | false => rfl
          | true =>
           have := hnot _ hb; simp only [this] at hD; cases hD
        · rw [show i + 1 + (n + 1) = i + 1 + n + 1 by omega, tq T hlt hka]
          exact ihn (by omega)
      have := key (m - (i + 1)) (by omega); rw [show i + 1 + (m - (i + 1)) = m by omega] at this; exact this
   | aG =>
    rw [hk] at hkd; obtain ⟨t1, _, t3, _, _⟩ := T.aG i (dq _) hin hdi hk
    have hmi : m = i := by
     have h1 : ¬ m < i := by
      intro hlt
      have hma : kdS kn dd m = .aG := by
       rcases m5 with m5 | m5
       · omega
       · exact m5
      have h1 := hdep m (t3 m (dq _) hlt hma); have h2 := m4 m (aq _) (by omega) hma; simp only [h1] at h2; cases h2
     have h2 : ¬ i < m := by
      intro hlt; have := m3 i hlt hkd; simp only [hLf] at this; cases this
     omega
    rw [m2, hmi, m2']
    have hm' : i + 1 ≤ m' := by
     rcases Nat.lt_or_ge i m' with h | h
     · exact h
     · exfalso
       rcases m5' with z | z
       · omega
       · by_cases q : m' = i
         · subst q
           have := m4' m' (aq _) (by omega) z; simp only [hL', if_true] at this; cases this
         · have h1 := hdep m' (t3 m' (dq _) (by omega) z)
           have h2 := m4' m' (aq _) (by omega) z; simp only [hL', if_neg q, h1] at h2; cases h2
    have hc := qB T (m' - (i + 1)) (i + 1) (by omega) fun k h1 h2 h3 => by
     have h4 := m3' k (by omega) h3; simp only [hL'] at h4; rw [if_neg (by omega)] at h4; have h5 := hnot k (aG i k (by omega) (by omega) hkd h3); rw [h5] at h4; cases h4
    rw [show i + 1 + (m' - (i + 1)) = m' by omega] at hc
    rw [hc]; exact t1
  have henv' : ∀ t, jr Cf ops e0 p (fun d => (L.setIfInBounds i true).getD d false) ops.size t = put Cf.n (jr Cf ops e0 p (fun i => L.getD i false) ops.size) o.dst (p i) t := by
   intro t
   by_cases hd : o.dst = some t
   · have htm : t ∈ tmpsOf ops o := by
      unfold tmpsOf; refine List.mem_append_left _ (List.mem_append_left _ ?_)
      rw [hd]; simp
     rw [pt (Cf := Cf) (i := i + 1) (D := fun d => (L.setIfInBounds i true).getD d false) ops.size (by omega) fun d o' h1 h2 h3 h4 => ?_]
     · simp only [jr, ho, hL', if_true, cond_true]
       cases hb : fJ t Cf.n with
       | true =>
        rw [hd]; simp only [put, hb, cond_true, upd, Nat.beq_refl]
       | false =>
        rw [hd]; simp only [put, hb, cond_false]; rw [qZ hb, qZ hb]
     · simp only [hL']
       rw [if_neg (by omega)]
       rcases hap d o' t h3 h4 htm with z | z
       · omega
       · rw [if_pos (by omega)] at z; exact hnot d z
   · have hput : put Cf.n (jr Cf ops e0 p (fun i => L.getD i false) ops.size) o.dst (p i) t = jr Cf ops e0 p (fun i => L.getD i false) ops.size t := by
      cases hz : o.dst with
      | none => rfl
      | some d => exact jG fun z => hd (by rw [hz, z])
     rw [hput]
     refine lE ops.size fun d o' h1 h2 h3 => ?_
     simp only [hL']; rw [if_neg]
     rintro rfl
     rw [ho] at h2; cases h2; exact hd h3
  refine hop i o L a w C _ _ _ _ ho hin I.size I.closed I.live hLf hdep k1 k3 henv htold (fun q v w' C' hq q1 q2 q3 => ?_) fun t2 x2 w' C' hq => by cases hq
  obtain rfl := Rs.ret.inj hq; refine ih _ _ _ (by have := Df hin hLi; omega) ⟨by simp [I.size], hclosed', fun j hj => ?_, C', q1, k2.trans q2, ?_⟩
  · rw [hL'] at hj
    by_cases q : j = i
    · subst q; exact hdi
    · rw [if_neg q] at hj; exact hlv hj
  · have hr := (k3.mono q2).put o.dst q3
    exact ⟨hr.gl, hr.size, fun t => by rw [henv' t]; exact hr.rep t, hr.defers⟩
theorem oQ (G : Good gv Cf.pn Cf.P Cf.call) (hbase : ∀ m t l, (m, t, l) ∈ bs → m ≤ Cf.base) {ops : Array Oper} {i : Nat} {o : Oper} {a : Act} {w : World} {C : Ctx} {e ei : Env} {st st' : St} {r : Rs} {next : Act → World → Prop} (ho : ops[i]? = some o)
 (k1 : Sim w C st bs) (k3 : dU gv Cf.gl lo w C e Cf.n a) (henv : ∀ t ∈ tmpsOf ops o, ei t = e t) (htold : alone Cf ops o ei st = some (r, st'))
 (hK : ∀ q v w' C', r = .ret q → Sim w' C' st' bs → Ext w C w' C' → Rep w' C' v q → next (a.put o.dst v) w')
 (hN : ∀ t x w' C', r = .pan t x → Sim w' C' st' bs → Ext w C w' C' → Q (.panic [{ v := .iface t x, recovered := false }]) a w') : wpOpIn (fen rd) 0 Cf.P ops Q i next a w := by
 have hg : guarded Cf ops o e st (fun q s => some (Rs.ret q, s)) (fun t x s => some (Rs.pan t x, s)) = some (r, st') := by
  rw [← htold]; exact (sb henv).symm
 have hw := iW (rd := rd) (Q := Q) (next := next) G hbase k1 k3 hg (fun q s v w' C' hq q1 q2 q3 => by
  obtain ⟨hq1, rfl⟩ := Prod.mk.inj (Option.some.inj hq)
  exact hK q v w' C' hq1.symm q1 q2 q3) fun t2 x2 s w' C' hq q1 q2 => by
  obtain ⟨hq1, rfl⟩ := Prod.mk.inj (Option.some.inj hq); exact hN t2 x2 w' C' hq1.symm q1 q2
 unfold wpOpIn; rw [ho]; simp only []; split at hw
 · rename_i hh; rw [if_pos hh]; exact hw
 · rename_i hh; rw [if_neg hh]; exact ⟨fun _ _ => trivial, hw⟩
theorem nU {imp : List FuncId} {md : Md} {bs : Array Nat} {all : List Oper} {k : Nat} {t : TypeId} : ∀ (os : List Oper) (i : Nat), py imp md bs all os i = some (k, t) → ∃ m o, k = i + m ∧ os[m]? = some o ∧ rk md o = some t ∧ bs.getD k 0 = 0
 | [], i, h => by cases h
 | o :: os, i, h => by
  have go : py imp md bs all os (i + 1) = some (k, t) → ∃ m o', k = i + m ∧ (o :: os)[m]? = some o' ∧ rk md o' = some t ∧ bs.getD k 0 = 0 := fun h => by
   obtain ⟨m, o', h1, h2, h3, h4⟩ := nU os (i + 1) h; exact ⟨m + 1, o', by omega, by simpa using h2, h3, h4⟩
  unfold py at h; split at h
  · rename_i t' ht'
    cases hb : ai (bs.getD i 0) 0 && rA imp md bs i all 0 with
    | true =>
     rw [hb, cond_true] at h; obtain ⟨rfl, rfl⟩ := Prod.mk.inj (Option.some.inj h); rw [ao] at hb; exact ⟨0, o, rfl, rfl, ht', au hb.1⟩
    | false =>
     rw [hb, cond_false] at h; exact go h
  · exact go h
theorem rl {md : Md} {o : Oper} {t : TypeId} (h : rk md o = some t) : o.op = .alloc t ∧ o.guard = none ∧ hB (md.of o.dst) = false := by
 unfold rk at h; split at h
 · rename_i t' ht
   cases hb : o.guard.isNone && !hB (md.of o.dst) with
   | false => rw [hb] at h; cases h
   | true =>
    rw [hb, cond_true] at h; obtain rfl := Option.some.inj h; rw [ao] at hb; exact ⟨ht, by simpa using hb.1, by simpa using hb.2⟩
 · cases h
theorem Ah {ops : Array Oper} (hc : gJ ops (Region.before ops) ops.toList 0 = true) : ∀ i j, i < ops.size → bit ops i j = true → j < i := by
 intro i
 induction i using Nat.strongRecOn with
 | _ i ih =>
  intro j hi hb; have ho : ops[i]? = some ops[i] := aV hi; have h1 := (mr hc i ops[i] (by simpa using ho)).1; rw [bf] at h1; obtain ⟨e, he, h2, h3⟩ := Ai ho hb; have hlt := h1 e he h2
  rcases h3 with rfl | h3
  · exact hlt
  · have := ih e.on hlt j (by omega) h3
    omega
theorem tH (G : Good gv Cf.pn Cf.P Cf.call) (hbase : ∀ m t l, (m, t, l) ∈ bs → m ≤ Cf.base) (hm : Cf.P.follows .mixedOrders = true) : vP gv Cf rd lo bs := by
 intro id ops R K N r e a w C st Q hc H hE h hK hN
 have hl : 0 + ops.toList.length = ops.size := by simp
 obtain ⟨H', hx⟩ := H.heap (w' := { w with drawn := w.drawn + 1 }) rfl rfl rfl rfl
 have none0 : ∀ i, (Array.replicate ops.size false).getD i false = false := fun i => by
  rw [aI, Array.getElem?_replicate]; split <;> rfl
 have hst : ∀ {Z : Type} (kn : Nat → Kind) (dd : Nat → Bool) (s : Z) (S : Nat → Z) (N : Nat), stS kn dd s S (fun i => (Array.replicate ops.size false).getD i false) N = s := by
  intro Z kn dd s S N; rw [show (fun i => (Array.replicate ops.size false).getD i false) = fun _ => false from funext none0]
  induction N with
  | zero => rfl
  | succ N ih => cases hk : kdS kn dd N <;> simp only [stS, hk, cond_false, ih]
 have hen : ∀ (p : Nat → PV) (N : Nat), jr Cf ops e p (fun i => (Array.replicate ops.size false).getD i false) N = e := by
  intro p N; rw [show (fun i => (Array.replicate ops.size false).getD i false) = fun _ => false from funext none0]
  induction N with
  | zero => rfl
  | succ N ih => cases ho : ops[N]? <;> simp only [jr, ho, cond_false, ih]
 have hun : unl ops.size (Array.replicate ops.size false) ≤ ops.size := by
  unfold unl; refine Nat.le_trans (List.countP_le_length ..) ?_; simp
 have hno : ∀ {i : Nat} {q : Prop}, (Array.replicate ops.size false).getD i false = true → q := fun {i q} hq => by rw [none0] at hq; cases hq
 unfold my at h; split at h
 · obtain ⟨dd, E, S, p, T, hr⟩ := o9 ops.toList 0 e st [] [] rfl h
   rw [hl] at T hr; refine wpIn_region_any hm (uH (gv := gv) (lo := lo) (w0 := w) (C0 := C) (fun _ w C s => Sim w C s bs) (fun _ w C s => Sim w C s bs) hc T.lift ?_ ?_ ?_ ops.size _ a _ hun ⟨by simp, fun i j h => hno h, fun i h => hno h, C, ?_, hx, ?_⟩)
   · intro i o L a w C e' r' s' next ho _ _ _ _ _ _ k1 k3 henv ht hK hN
     obtain ⟨o', ho', ht⟩ := ht; rw [ho] at ho'; obtain rfl := Option.some.inj ho'; exact oQ G hbase ho k1 k3 henv ht hK hN
   · intro i hi
     rcases hr with ⟨hz, _⟩ | ⟨k, o, t, x, s', PA, hr⟩
     · rw [hz] at hi; cases hi
     · exact ⟨k, t, x, s', PA.lift, fun L a' w' C' _ q1 q2 q3 => hN t x s' a' w' C' hr q1 q2 q3⟩
   · intro hdead L a' w' C' _ q1 q2 q3
     rcases hr with ⟨hz, hr⟩ | ⟨k, o, t, x, s', PA, hr⟩
     · exact hK _ _ a' w' C' hr q1 q2 q3
     · have := hdead k PA.hi
       rw [PA.dk] at this; cases this
   · rw [hst]; exact H'
   · rw [hen]; exact hE.mono hx
 · rename_i k t hla
   obtain ⟨z, hz, h⟩ := Option.bind_eq_some_iff.1 h; obtain ⟨k', o, hk', hok, hlo, hb0⟩ := nU _ _ hla
   obtain rfl : k' = k := by omega
   have hok : ops[k']? = some o := by simpa using hok
   obtain ⟨l1, l2, l3⟩ := rl hlo; have hks : k' < ops.size := (Array.getElem?_eq_some_iff.1 hok).1
   have hk0 : ∀ j, bit ops k' j = false := fun j => by unfold bit; rw [hb0]; exact Nat.zero_testBit j
   have hka : kd Cf ops k' = .aG := by simp [kd, hok, kindOf, l1]
   obtain ⟨dd, E, S, p, T, ⟨sw, w1, w2, w3⟩, hr⟩ := pU hk0 hka (Ah hc) ops.toList 0 e st [] [] rfl rfl (fun x hx => by cases hx) h; rw [hl] at T w3 hr; refine wpIn_region_any hm (uH (gv := gv) (lo := lo) (w0 := w) (C0 := C) (fun L w C s => Sim w C (if L.getD k' false = true then s.2 else s.1) bs) (fun L w C s => Sim w C (if L.getD k' false = true then s.2 else s.1) bs) hc T ?_ ?_ ?_ ops.size _ a _ hun ⟨by simp, fun i j h => hno h, fun i h => hno h, C, ?_, hx, ?_⟩)
   · intro i o' L a w C e' r' s' next ho hin hsz hcl hlv hLi hdep k1 k3 henv ht hK hN
     have hset : ∀ j, (L.setIfInBounds i true).getD j false = if j = i then true else L.getD j false := by
      intro d
      by_cases q : d = i
      · subst q
        rw [if_pos rfl, aI, Array.getElem?_setIfInBounds_self_of_lt (by omega)]; rfl
      · rw [if_neg q, aI, dS (Ne.symm q), ← aI]
     unfold tlL at ht; split at ht
     · -- the alloc
       rename_i hik; subst hik; obtain ⟨rfl, rfl⟩ := ht; rw [hok] at ho; obtain rfl := Option.some.inj ho
       obtain ⟨b, hb1, hb2⟩ : ∃ b, stS (knL Cf ops i) dd (prS z st) S (fun i => L.getD i false) ops.size = prS z b ∧ b.stk.length = st.stk.length := by
        have aG : ∀ k1 k2, k1 < k2 → k2 < ops.size → kdS (knL Cf ops i) dd k1 = .aG → kdS (knL Cf ops i) dd k2 = .aG → bit ops k2 k1 = true := by
         intro k1 k2 h1 h2 h3 h4
         have hd2 : dd k2 = false := by
          cases hd : dd k2 with
          | false => rfl
          | true => simp [kdS, hd] at h4
         rw [rj hd2] at h4; exact (T.aG k2 (dq _) h2 hd2 h4).2.2.1 k1 (dq _) h1 h3
        obtain ⟨m, m1, m2, m3, m4, m5⟩ := mN T (D := fun i => L.getD i false) ops.size (aq _) fun k1 k2 h1 h2 h3 h4 h5 => hcl k2 k1 h5 (aG k1 k2 h1 h2 h3 h4)
        rw [m2]
        rcases Nat.le_total m sw with hle | hle
        · exact w2 m (dq _) hle
        · have hc2 := qB T (m - sw) sw (by omega) fun j h1 h2 h3 => by
           have hD := m3 j (by omega) h3; have hbk := w3 j h1 (by omega) h3; have := hcl j i hD hbk
           rw [hLi] at this; cases this
          rw [show sw + (m - sw) = m by omega] at hc2; rw [hc2]; exact w2 sw w1 (aq _)
       rw [hb1] at k1 hK; simp only [hLi, ab, if_false] at k1
       have hg : alone Cf ops o (E i) b = some (.ret (.ptr false st.stk.length 0), b.push z) := by
        simp only [alone, guarded, l2, iv, l1, l3, hz, ag, St.len, St.lay, hb2]
       refine oQ G hbase hok k1 k3 henv hg (fun q v w' C' hq q1 q2 q3 => hK q v w' C' hq ?_ q2 q3) fun t x w' C' hq => by cases hq
       rw [hset i]; simpa using q1
     · rename_i hik
       obtain ⟨o2, ho2, h1, h2⟩ := ht; rw [ho] at ho2; obtain rfl := Option.some.inj ho2
       have hsk : (L.setIfInBounds i true).getD k' false = L.getD k' false := by rw [hset, if_neg (Ne.symm hik)]
       cases hLk : L.getD k' false with
       | true =>
        simp only [hLk, if_true] at k1
        refine oQ G hbase ho k1 k3 henv h2 (fun q v w' C' hq q1 q2 q3 => hK q v w' C' hq ?_ q2 q3) fun t x w' C' hq q1 q2 => hN t x w' C' hq ?_ q2
        · rw [hsk, hLk]; simpa using q1
        · rw [hLk]; simpa using q1
       | false =>
        simp only [hLk, ab, if_false] at k1
        have hbk : bit ops i k' = false := by
         cases hq : bit ops i k' with
         | false => rfl
         | true => have := hdep k' hq; rw [hLk] at this; cases this
        refine oQ G hbase ho k1 k3 henv (h1 hbk) (fun q v w' C' hq q1 q2 q3 => hK q v w' C' hq ?_ q2 q3) fun t x w' C' hq q1 q2 => hN t x w' C' hq ?_ q2
        · rw [hsk, hLk]; simpa using q1
        · rw [hLk]; simpa using q1
   · intro i hi
     rcases hr with ⟨hz, _⟩ | ⟨kp, t, x, s', PA, hr1, hr2⟩
     · rw [hz] at hi; cases hi
     · refine ⟨kp, t, x, s', PA, fun L a' w' C' hdep q1 q2 q3 => ?_⟩
       cases hLk : L.getD k' false with
       | true =>
        simp only [hLk, if_true] at q1; exact hN t x s'.2 a' w' C' hr1 q1 q2 q3
       | false =>
        simp only [hLk, ab, if_false] at q1
        have hbk : bit ops kp k' = false := by
         cases hq : bit ops kp k' with
         | false => rfl
         | true => have := hdep k' hq; rw [hLk] at this; cases this
        exact hN t x s'.1 a' w' C' (hr2 hbk) q1 q2 q3
   · intro hdead L a' w' C' hall q1 q2 q3
     rw [hall k' hks] at q1; simp only [if_true] at q1
     rcases hr with ⟨hz, hr⟩ | ⟨k, t, x, s', PA, hr⟩
     · exact hK _ _ a' w' C' hr q1 q2 q3
     · have := hdead k PA.hi
       rw [PA.dk] at this; cases this
   · rw [hst, none0]; simpa using H'
   · rw [hen]; exact hE.mono hx
end
end Go.AM
