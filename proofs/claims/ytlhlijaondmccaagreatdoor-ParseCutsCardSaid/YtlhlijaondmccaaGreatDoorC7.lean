/- Part 7 of the proof of a law of the parser, its names made short by a program. No condition. -/
import Derived.Test.YtlhlijaondmccaaGreatDoorC6
import Derived.Test.YtlhlijaondmccaaGreatDoorRows
import Derived.Test.YtlhlijaondmccaaGreatDoorCards
import Derived.Test.YtlhlijaondmccaaGreatDoorTie
import Derived.SevenTiedAt
set_option linter.all false
set_option maxRecDepth 100000
set_option maxHeartbeats 4000000
open _root_.Bool renaming and_eq_true → an, and_self → bn, and_true → bC, false_eq_true → ae, not_false → bf, not_true → bA, or_eq_true → iQ, true_and → bm
open _root_.Int renaming natCast_zero → eB
open _root_.List renaming all_cons → bq, all_eq_true → dH, all_nil → bT, cons_append → aA, drop_nil → bY, drop_succ_cons → aK, drop_zero → aO, getD_cons_succ → aL, getD_cons_zero → aM, getElem?_cons_succ → az, getElem?_cons_zero → aB, length_append → bH, length_cons → ai, length_nil → aD, length_singleton → bz, map_cons → aZ, map_nil → bc, mem_cons_of_mem → bS, mem_cons_self → bI, modify_succ_cons → aI, modify_zero_cons → aJ, nil_append → bg, take_left → bB, take_nil → bM, take_succ_cons → aw, take_zero → bj, toList_toArray → aR
open _root_.Nat renaming add_zero → bu, reduceAdd → bP, zero_add → bh
open _root_.Option renaming bind_none → aY, bind_some → ag, map_some → aN
namespace Go.Proofs.YtlhlijaondmccaaGreatDoor.S
open Go Go.AM Go.Proofs
abbrev brT (t : Tok) : Prop := t.text = [123] ∨ t.text = [125]
abbrev Tf (t : Tok) : Prop := t.kind = 1 ∨ t.kind = 3 ∨ t.kind = 4 → ¬ brT t ∧ t.text ≠ [59]
def Pln (C : List Tok) : Prop := ∀ t ∈ C, ¬ brT t ∧ t.text ≠ [59]
inductive Bal : List Tok → Prop
 | nil : Bal []
 | one {t : Tok} (h : ¬ brT t) : Bal [t]
 | app {a b : List Tok} (h : Bal a) (h' : Bal b) : Bal (a ++ b)
 | blk {o c : Tok} {b : List Tok} (h : o.text = [123]) (hb : Bal b) (h' : c.text = [125]) : Bal (o :: (b ++ [c]))
def Clo (C : List Tok) : Prop := ∃ b c, C = b ++ [c] ∧ Bal b ∧ c.text = [125]
def Blk (C : List Tok) : Prop := ∃ o b c, C = o :: (b ++ [c]) ∧ o.text = [123] ∧ Bal b ∧ c.text = [125]
theorem Pln.nil : Pln [] := fun t h => by cases h
theorem Pln.one {t : Tok} (h : ¬ brT t ∧ t.text ≠ [59]) : Pln [t] := fun u hu => by rw [List.mem_singleton.1 hu]; exact h
theorem Pln.app {a b : List Tok} (h : Pln a) (h' : Pln b) : Pln (a ++ b) := fun t ht => (List.mem_append.1 ht).elim (h t) (h' t)
theorem Pln.bal : ∀ {C : List Tok}, Pln C → Bal C
 | [], _ => .nil
 | t :: C, h => Bal.app (a := [t]) (.one (h t bI).1) (Pln.bal (C := C) fun u hu => h u (bS _ hu))
theorem Blk.bal {C : List Tok} : Blk C → Bal C := fun ⟨o, b, c, e, h, hb, h'⟩ => e ▸ .blk h hb h'
def Itm (C : List Tok) : Prop := (∃ P D, C = P ++ D ∧ Pln P ∧ Blk D) ∨ ∃ P c, C = P ++ [c] ∧ Pln P ∧ c.text = [59]
section
variable {E : Tok} {α β : Type}
def We (E : Tok) (s w : Bool) (y : Option (PR α)) : Prop := y = none ∨ (s = true ∧ y = some (.bad 4 E.p)) ∨ (w = true ∧ ∃ a, y = some (.ok a [E]))
def Ck (E : Tok) (Φ : List Tok → Prop) (s w : Bool) (A B : List Tok) (x y : Option (PR α)) : Prop := (∀ t ∈ A ++ B, Tf t) → ∀ a l', x = some (.ok a l') →
 ∃ C, A ++ B = C ++ l' ∧ Φ C ∧ (s = true → C ≠ []) ∧ ((∃ A', A = C ++ A' ∧ l' = A' ++ B ∧ y = some (.ok a (A' ++ [E]))) ∨ (∃ B1, C = A ++ B1 ∧ B = B1 ++ l' ∧ (y = none ∨ (B1 ≠ [] ∧ y = some (.bad 4 E.p)) ∨ (w = true ∧ ∃ a', y = some (.ok a' [E])))))
structure Cf (E : Tok) (Φ : List Tok → Prop) (s w : Bool) (f : List Tok → Option (PR α)) : Prop where
 c : ∀ A B, Ck E Φ s w A B (f (A ++ B)) (f (A ++ [E]))
variable {Φ Ψ Ξ : List Tok → Prop} {s w s' w' : Bool} {A B : List Tok}
theorem Ck.mono {x y : Option (PR α)} (h : Ck E Φ s w A B x y) (hp : ∀ C, Φ C → Ψ C) (hs : s' = true → s = true) (hw : w = true → w' = true) : Ck E Ψ s' w' A B x y := fun hT a l' e =>
 let ⟨C, h1, h2, h3, h4⟩ := h hT a l' e
 ⟨C, h1, hp C h2, fun q => h3 (hs q), h4.elim .inl fun ⟨B1, e1, e2, h⟩ => .inr ⟨B1, e1, e2, h.elim .inl fun h => .inr (h.elim .inl fun h => .inr ⟨hw h.1, h.2⟩)⟩⟩
theorem Ck.bal {x y : Option (PR α)} (h : Ck E Pln s w A B x y) : Ck E Bal s w A B x y := h.mono (fun _ h => h.bal) id id
theorem Ck.wk {x y : Option (PR α)} (h : Ck E Φ s false A B x y) : Ck E Φ s w A B x y := h.mono (fun _ h => h) id fun h => nomatch h
theorem Ck.bad {e : Nat} {q : Nat × Nat} {y : Option (PR α)} : Ck E Φ s w A B (some (.bad e q)) y := fun _ a l' h => by cases h
theorem Ck.non {y : Option (PR α)} : Ck E Φ s w A B none y := fun _ a l' h => by cases h
theorem Ck.oP {a : α} (h : Φ []) : Ck E Φ false w A B (some (.ok a (A ++ B))) (some (.ok a (A ++ [E]))) := fun _ a' l' e => by
 cases e; exact ⟨[], rfl, h, fun q => (nomatch q), .inl ⟨A, rfl, rfl, rfl⟩⟩
theorem Ck.kp {a : α} : Ck E Pln false w A B (some (.ok a (A ++ B))) (some (.ok a (A ++ [E]))) := .oP .nil
theorem Ck.cons {x y : Option (PR α)} {t : Tok} (h : Ck E Φ s w A B x y) (hp : Tf t → ∀ C, Φ C → Ψ (t :: C)) : Ck E Ψ s' w (t :: A) B x y := fun hT a l' e =>
 let ⟨C, h1, h2, h3, h4⟩ := h (fun u hu => hT u (bS _ hu)) a l' e
 ⟨t :: C, by rw [aA, h1]; rfl, hp (hT t bI) C h2, fun _ => by simp, h4.elim (fun ⟨A', e1, e2, e3⟩ => .inl ⟨A', by rw [e1]; rfl, e2, e3⟩) fun ⟨B1, e1, e2, h⟩ => .inr ⟨B1, by rw [e1]; rfl, e2, h⟩⟩
theorem Pln.cons {t : Tok} {C : List Tok} (h : ¬ brT t ∧ t.text ≠ [59]) (hC : Pln C) : Pln (t :: C) := (Pln.one h).app hC
theorem Ck.cp {x y : Option (PR α)} {t : Tok} (h : Ck E Pln s w A B x y) (ht : Tf t → ¬ brT t ∧ t.text ≠ [59]) : Ck E Pln s' w (t :: A) B x y := h.cons fun q C hC => .cons (ht q) hC
theorem Ck.cb {x y : Option (PR α)} {t : Tok} (h : Ck E Bal s w A B x y) (ht : Tf t → ¬ brT t) : Ck E Bal s' w (t :: A) B x y := h.cons fun q C hC => Bal.app (a := [t]) (.one (ht q)) hC
theorem Ck.pb {x y : Option (PR α)} {K : α → List Tok → Option (PR β)} (h : Ck E Φ true w A B x y) (hk : ∀ a, Cf E Ψ s' w' (K a))
 (hp : ∀ C D, Φ C → Ψ D → Ξ (C ++ D)) (he : w = true → ∀ a, We E s' w' (K a [E])) : Ck E Ξ true w' A B (S.pb x K) (S.pb y K) := by
 intro hT b l' e
 match x, h, e with
 | none, h, e => cases e
 | some (.bad _ _), h, e => cases e
 | some (.ok a0 l0), h, e =>
  obtain ⟨C, h1, h2, h3, h4⟩ := h hT a0 l0 rfl; have e : K a0 l0 = some (.ok b l') := e
  have hne : ∀ D : List Tok, C ++ D ≠ [] := fun D => by simp [h3 rfl]
  rcases h4 with ⟨A', rfl, rfl, rfl⟩ | ⟨B1, rfl, rfl, h5⟩
  · obtain ⟨D, g1, g2, g3, g4⟩ := (hk a0).c A' B (fun u hu => hT u (by rw [h1]; exact List.mem_append_right _ hu)) b l' e
    refine ⟨C ++ D, by rw [List.append_assoc, List.append_assoc, g1], hp C D h2 g2, fun _ => hne D, ?_⟩
    rcases g4 with ⟨A2, rfl, rfl, g⟩ | ⟨B2, rfl, rfl, g⟩
    · exact .inl ⟨A2, by rw [List.append_assoc], rfl, g⟩
    · exact .inr ⟨B2, by rw [List.append_assoc], rfl, g⟩
  · obtain ⟨D, g1, g2, g3, -⟩ := (hk a0).c [] l0 (fun u hu => hT u (by rw [h1]; exact List.mem_append_right _ hu)) b l' e
    have g1 : l0 = D ++ l' := g1; subst g1; refine ⟨A ++ B1 ++ D, by simp, hp _ D h2 g2, fun _ => hne D, .inr ⟨B1 ++ D, by simp, by simp, ?_⟩⟩
    rcases h5 with rfl | ⟨h5, rfl⟩ | ⟨h5, a', rfl⟩
    · exact .inl rfl
    · exact .inr (.inl ⟨by simp [h5], rfl⟩)
    · rcases he h5 a' with q | q | q
      · exact .inl q
      · exact .inr (.inl ⟨by simp [g3 q.1], q.2⟩)
      · exact .inr (.inr q)
section
variable {x y : Option (PR α)} {K : α → List Tok → Option (PR β)}
theorem Ck.pp (h : Ck E Pln true w A B x y) (hk : ∀ a, Cf E Pln s' w' (K a)) (he : w = true → ∀ a, We E s' w' (K a [E])) : Ck E Pln true w' A B (S.pb x K) (S.pb y K) := h.pb hk (fun _ _ => .app) he
theorem Ck.pB (h : Ck E Pln true w A B x y) (hk : ∀ a, Cf E Bal s' w' (K a)) (he : w = true → ∀ a, We E s' w' (K a [E])) : Ck E Bal true w' A B (S.pb x K) (S.pb y K) := h.pb hk (fun _ _ h h' => .app h.bal h') he
theorem Ck.BB (h : Ck E Bal true w A B x y) (hk : ∀ a, Cf E Bal s' w' (K a)) (he : w = true → ∀ a, We E s' w' (K a [E])) : Ck E Bal true w' A B (S.pb x K) (S.pb y K) := h.pb hk (fun _ _ => .app) he
end
theorem Ck.ite {p p' : Prop} [Decidable p] [Decidable p'] {x y x' y' : Option (PR α)} (hp : p ↔ p') (h : p → Ck E Φ s w A B x y) (h' : ¬ p → Ck E Φ s w A B x' y') : Ck E Φ s w A B (if p then x else x') (if p' then y else y') := by
 by_cases h0 : p
 · rw [if_pos h0, if_pos (hp.1 h0)]; exact h h0
 · rw [if_neg h0, if_neg fun e => h0 (hp.2 e)]; exact h' h0
theorem Ck.down {x y : Option (PR α)} {d : Nat} {t : Tok} (h : Ck E Φ s w A B x y) : Ck E Φ s w A B (mP d t x) (mP d t y) := .ite Iff.rfl (fun _ => .bad) fun _ => h
theorem Ck.map {x y : PR α} {f : α → β} (h : Ck E Φ s w A B (some x) (some y)) : Ck E Φ s w A B (some (x.map f)) (some (y.map f)) := by
 intro hT b l' e
 match x, h, e with
 | .bad _ _, h, e => cases e
 | .ok a0 l0, h, e =>
  obtain ⟨C, h1, h2, h3, h4⟩ := h hT a0 l0 rfl; cases e; refine ⟨C, h1, h2, h3, ?_⟩
  rcases h4 with ⟨A', g1, g2, g⟩ | ⟨B1, g1, g2, g | ⟨g3, g⟩ | ⟨g3, a', g⟩⟩
  · cases g; exact .inl ⟨A', g1, g2, rfl⟩
  · cases g
  · cases g; exact .inr ⟨B1, g1, g2, .inr (.inl ⟨g3, rfl⟩)⟩
  · cases g; exact .inr ⟨B1, g1, g2, .inr (.inr ⟨g3, _, rfl⟩)⟩
theorem We.ok {a : α} : We E s true (some (.ok a [E])) := .inr (.inr ⟨rfl, a, rfl⟩)
theorem We.b : We E true w (some (.bad 4 E.p) : Option (PR α)) := .inr (.inl ⟨rfl, rfl⟩)
theorem We.n : We E s w (none : Option (PR α)) := .inl rfl
theorem We.pb {x : Option (PR α)} {K : α → List Tok → Option (PR β)} (h : We E true false x) : We E true w (S.pb x K) := by
 rcases h with rfl | ⟨_, rfl⟩ | ⟨h, _⟩
 · exact .n
 · exact .b
 · cases h
theorem We.map {x : PR α} {f : α → β} (h : We E s w (some x)) : We E s w (some (x.map f)) := by
 rcases h with h | ⟨h, e⟩ | ⟨h, a, e⟩
 · cases h
 · cases e; exact .inr (.inl ⟨h, rfl⟩)
 · cases e; exact .inr (.inr ⟨h, _, rfl⟩)
theorem nw {p : Prop} : false = true → p := fun h => nomatch h
theorem Cf.split {f : List Tok → Option (PR α)} (hc : ∀ t A B, Ck E Φ s w (t :: A) B (f (t :: (A ++ B))) (f (t :: (A ++ [E])))) (hz : ∃ z, Ck E Φ s w [] [] (f []) z) (he : We E s w (f [E])) : Cf E Φ s w f := by
 refine ⟨fun A B => ?_⟩
 cases A with
 | cons t A => exact hc t A B
 | nil =>
  have key : ∀ C : List Tok, (s = true → C ≠ []) → f [E] = none ∨ (C ≠ [] ∧ f [E] = some (.bad 4 E.p)) ∨ (w = true ∧ ∃ a', f [E] = some (.ok a' [E])) := fun C h => by
   rcases he with q | q | q
   · exact .inl q
   · exact .inr (.inl ⟨h q.1, q.2⟩)
   · exact .inr (.inr q)
  intro hT a l' e
  cases B with
  | nil =>
   obtain ⟨z, hz⟩ := hz; obtain ⟨C, h1, h2, h3, _⟩ := hz hT a l' e; exact ⟨C, h1, h2, h3, .inr ⟨C, rfl, h1, key C h3⟩⟩
  | cons t B =>
   obtain ⟨C, h1, h2, h3, _⟩ := hc t B [] (fun u hu => hT u (by simpa using hu)) a l' (by rw [List.append_nil]; exact e)
   have h1 : t :: B = C ++ l' := by simpa using h1
   exact ⟨C, h1, h2, h3, .inr ⟨C, rfl, h1, key C h3⟩⟩
theorem gn {t : Tok} {l : List Tok} {u : List UInt8} (h : isT (t :: l) u = true) : t.text = u := by
 simp only [isT, an, decide_eq_true_eq] at h; exact h.2
theorem CE {t : Tok} {l : List Tok} {u : List UInt8} (h : isT (t :: l) u = true) : t.kind = 2 ∨ t.kind = 5 := by
 simp only [isT, an, iQ, decide_eq_true_eq] at h; exact h.1
variable (hE : E.kind = 0)
include hE
theorem Cf.it {u : List UInt8} {X Y : List Tok → Option (PR α)} (hf : ∀ t A B, t.text = u → Ck E Φ s w (t :: A) B (X (t :: (A ++ B))) (X (t :: (A ++ [E])))) (hg : Cf E Φ s w Y) (he : We E s w (Y [E])) : Cf E Φ s w (fun l => if isT l u then X l else Y l) := by
 have e0 : isT [] u = false := by simp [isT, hd, tC]
 refine .split (fun t A B => .ite (by rw [show isT (t :: (A ++ [E])) u = isT (t :: (A ++ B)) u from rfl]) (fun c => hf t A B (gn c)) fun _ => hg.c (t :: A) B) ⟨Y [E], ?_⟩ ?_
 · simp only [e0, ae, if_false]; exact hg.c [] []
 · simp only [tU hE, ae, if_false]; exact he
theorem lC (u : List UInt8) : We E true w (some (cL u [E])) := by rw [cL, tU hE, if_neg (by simp)]; exact .b
theorem u7 {k : Nat} (hk : k ≠ 0) : We E true w (some (ec k [E])) := by rw [ec, if_neg (by show ¬ E.kind = k; omega)]; exact .b
theorem qE {u : List UInt8} (hp : ∀ t : Tok, t.text = u → Φ [t]) : Cf E Φ true false (fun l => some (cL u l)) := by
 refine .split (fun t A B => ?_) ⟨none, ?_⟩ (lC hE u)
 · unfold cL
   rw [show isT (t :: (A ++ [E])) u = isT (t :: (A ++ B)) u from rfl]
   cases c : isT (t :: (A ++ B)) u with
   | false => exact .bad
   | true => exact (Ck.oP (Φ := fun C => C = []) rfl).cons fun _ C hC => hC ▸ hp t (gn c)
 · rw [cL, show isT [] u = false by simp [isT, hd, tC], if_neg (by simp)]; exact .bad
theorem kO {u : List UInt8} (h1 : u ≠ [123] := by decide) (h2 : u ≠ [125] := by decide) (h3 : u ≠ [59] := by decide) : Cf E Pln true false (fun l => some (cL u l)) := qE hE fun t e => .one (by simp only [brT, e]; exact ⟨by simp [h1, h2], h3⟩)
theorem jl {k : Nat} (hk : k = 1 ∨ k = 3 ∨ k = 4) : Cf E Pln true false (fun l => some (ec k l)) := by
 refine .split (fun t A B => ?_) ⟨none, ?_⟩ (u7 hE (by omega))
 · show Ck E Pln true false (t :: A) B (some (if t.kind = k then .ok t (dq (t :: (A ++ B))) else .bad 4 t.p)) (some (if t.kind = k then .ok t (dq (t :: (A ++ [E]))) else .bad 4 t.p))
   by_cases h : t.kind = k
   · rw [if_pos h, if_pos h, ff (by omega), ff (by omega)]; exact Ck.kp.cp fun q => q (by omega)
   · rw [if_neg h]; exact .bad
 · rw [ec, if_neg (by show ¬ 0 = k; omega)]; exact .bad
theorem Ij : We E true w (some (qj [E])) := by
 unfold qj; simp only [tU hE, ae, if_false, ec, hd, List.headD_cons, hE]; exact .b
theorem Ii : Cf E Pln true false (fun l => some (qj l)) := by
 have h1 : ∀ {t : Tok} {u : List UInt8}, t.text = u → u ≠ [123] → u ≠ [125] → u ≠ [59] → (¬ brT t ∧ t.text ≠ [59]) := fun e a b c => by simp only [brT, e]; exact ⟨by simp [a, b], c⟩
 refine .split (fun t A B => ?_) ⟨none, ?_⟩ (Ij hE)
 · have := ((jl hE (k := 1) (by decide)).c (t :: A) B).map (f := fun t => (⟨4, bs t.text⟩ : Ty2))
   unfold qj; simp only [show ∀ s, isT (t :: (A ++ [E])) s = isT (t :: (A ++ B)) s from fun _ => rfl]; split
   · rename_i c; exact Ck.kp.cp fun _ => h1 (gn c) (by decide) (by decide) (by decide)
   split
   · rename_i c; exact Ck.kp.cp fun _ => h1 (gn c) (by decide) (by decide) (by decide)
   split
   · rename_i c; exact Ck.kp.cp fun _ => h1 (gn c) (by decide) (by decide) (by decide)
   exact this
 · have e0 : ∀ u, isT [] u = false := fun u => by simp [isT, hd, tC]
   simp only [qj, e0, ae, if_false, ec, hd, tC, List.headD_nil, show ¬ (0 = 1) by decide, PR.map]; exact .bad
omit hE in
theorem tx3 {t : Tok} {u : List UInt8} (e : t.text = u) (h1 : u ≠ [123] := by decide) (h2 : u ≠ [125] := by decide) (h3 : u ≠ [59] := by decide) : ¬ brT t ∧ t.text ≠ [59] := by
 simp only [brT, e]; exact ⟨by simp [h1, h2], h3⟩
theorem We.it {u : List UInt8} {x y : Option (PR α)} (h : We E s w y) : We E s w (if isT [E] u then x else y) := by rw [tU hE, if_neg (by simp)]; exact h
theorem zO : We E true w (jf [E]) := .pb (u7 hE (by decide))
theorem vh : Cf E Pln true false jf :=
 ⟨fun A B => ((jl hE (.inl rfl)).c A B).pp (fun t => ⟨fun A B => ((kO hE).c A B).pp (fun _ => ⟨fun A B => ((Ii hE).c A B).pp (fun ty => ⟨fun A B => .kp⟩) nw⟩) nw⟩) nw⟩
theorem sd : ∀ n : Nat, (∀ d, We E true false (il n d [E])) ∧ (∀ d, We E true false (fv n d [E])) ∧ (∀ lv d, We E true false (dG n lv d [E]))
 | 0 => by refine ⟨fun d => ?_, fun d => ?_, fun lv d => ?_⟩ <;> first | rw [il]; exact .n | rw [fv]; exact .n | rw [dG]; exact .n
 | n + 1 => by
  obtain ⟨hA, hP, hC⟩ := sd n; refine ⟨fun d => ?_, fun d => ?_, fun lv d => ?_⟩
  · rw [il]
    have h0 : (hd [E]).kind = 0 := hE; simp only [h0]; exact .b
  · rw [fv]
    have h0 : fR (hd [E]) = 0 := by show fR E = 0; simp [fR, hE]
    simp only [h0, if_true]; exact hA d
  · rw [dG]
    split
    · exact hP d
    · exact (hC _ d).pb
theorem yk (n lv d : Nat) (e : X) : We E false true (ig n lv d e [E]) := by
 cases n with
 | zero => rw [ig]; exact .n
 | succ n =>
  rw [ig]
  have h0 : gx lv (hd [E]) = none := by show gx lv E = none; simp [gx, hE]
  simp only [h0]; exact .ok
omit hE in
theorem tf {t : Tok} (h : fR t ≠ 0) : t.kind ≠ 0 ∧ ¬ brT t ∧ t.text ≠ [59] := by
 unfold fR at h; split at h
 · rename_i k
   refine ⟨by omega, ?_⟩
   by_cases a : t.text = [45]
   · exact tx3 a
   by_cases b : t.text = [114, 101, 97, 108]
   · exact tx3 b
   by_cases c : t.text = [116, 114, 117, 110, 99]
   · exact tx3 c
   rw [if_neg a, if_neg b, if_neg c] at h; exact absurd rfl h
 · exact absurd rfl h
omit hE in
theorem FA {lv : Nat} {t : Tok} {b : Int} (h : gx lv t = some b) : t.kind ≠ 0 ∧ ¬ brT t ∧ t.text ≠ [59] := by
 unfold gx at h; split at h
 · rename_i c
   refine ⟨by omega, ?_⟩; have c := c.2
   match lv, c with
   | 0, c =>
    simp only [gy, List.contains_cons, iQ, beq_iff_eq, List.contains_nil, ae, or_false] at c
    rcases c with c | c | c | c <;> exact tx3 c
   | 1, c =>
    simp only [gy, List.contains_cons, iQ, beq_iff_eq, List.contains_nil, ae, or_false] at c
    rcases c with c | c <;> exact tx3 c
   | n + 2, c =>
    simp only [gy, List.contains_cons, iQ, beq_iff_eq, List.contains_nil, ae, or_false] at c
    rcases c with c | c | c <;> exact tx3 c
 · cases h
theorem Cp : ∀ n : Nat, (∀ d, Cf E Pln true false (il n d)) ∧ (∀ d, Cf E Pln true false (fv n d)) ∧ (∀ lv d, Cf E Pln true true (dG n lv d)) ∧ (∀ lv d e, Cf E Pln false true (ig n lv d e))
 | 0 => by
  refine ⟨fun d => ⟨fun A B => ?_⟩, fun d => ⟨fun A B => ?_⟩, fun lv d => ⟨fun A B => ?_⟩, fun lv d e => ⟨fun A B => ?_⟩⟩
  · rw [il]; exact .non
  · rw [fv]; exact .non
  · rw [dG]; exact .non
  · rw [ig]; exact .non
 | n + 1 => by
  obtain ⟨hA, hP, hC, hR⟩ := Cp n; refine ⟨fun d => ?_, fun d => ?_, fun lv d => ⟨fun A B => ?_⟩, fun lv d e => ?_⟩
  · refine .split (fun t A B => ?_) ⟨none, ?_⟩ ((sd hE (n + 1)).1 d)
    · rw [il, il]
      refine .ite Iff.rfl (fun h => ?_) fun _ => .ite Iff.rfl (fun h => ?_) fun _ => .ite Iff.rfl (fun h => ?_) fun _ => .ite Iff.rfl (fun h => ?_) fun _ => .ite Iff.rfl (fun h => ?_) fun _ => .ite Iff.rfl (fun h => ?_) fun _ => .bad
      · have h : t.kind = 3 := h
        rw [ff (by omega), ff (by omega)]; exact Ck.kp.cp fun q => q (by omega)
      · have h : t.kind = 4 := h
        rw [ff (by omega), ff (by omega)]; exact Ck.kp.cp fun q => q (by omega)
      · have h : t.kind = 1 := h
        rw [ff (by omega), ff (by omega)]; exact Ck.kp.cp fun q => q (by omega)
      · have h1 : t.kind = 2 := h.1
        rw [ff (by omega), ff (by omega)]
        exact (((jl hE (.inr (.inl rfl))).c A B).map).cp fun _ => tx3 (u := [105, 110, 112, 117, 116]) h.2
      · have h1 : t.kind = 2 := h.1
        rw [ff (by omega), ff (by omega)]
        exact ((Cf.it hE (u := [105, 110, 116, 115]) (X := fun l => some (.ok (atX t 3 0 3 [] []) l.tail)) (Y := fun l => some ((ec 1 l).map fun u => atX t 3 0 4 u.text [])) (fun t A B e => Ck.kp.cp fun _ => tx3 e)
         ⟨fun A B => ((jl hE (.inl rfl)).c A B).map⟩ (u7 hE (by decide)).map).c A B).cp fun _ => tx3 (u := [110, 105, 108]) h.2
      · have h1 : t.kind = 5 := h.1
        rw [ff (by omega), ff (by omega)]; exact .down (((((hC 0 (d + 1)).c A B).pp (fun e => ⟨fun A B => ((kO hE (u := [41])).c A B).pp (fun _ => ⟨fun A B => .kp⟩) nw⟩) fun _ e => .pb (lC hE _)) : Ck E Pln true false A B _ _).cp fun _ => tx3 (u := [40]) h.2)
    · rw [il]; exact .bad
  · have h0 : ∀ l : List Tok, fv (n + 1) d l = if fR (hd l) = 0 then il n d l else mP d (hd l) (pb (fv n (d + 1) (dq l)) fun k l1 => some (.ok ⟨fR (hd l), 0, 0, 0, bs [], bs [], [k], (hd l).p.1, (hd l).p.2⟩ l1)) := fun l => by rw [fv]
    refine .split (fun t A B => ?_) ⟨il n d [E], ?_⟩ ((sd hE (n + 1)).2.1 d)
    · rw [h0, h0]
      refine .ite Iff.rfl (fun _ => (hA d).c (t :: A) B) fun h => ?_
      have h : fR t ≠ 0 := h; rw [ff (tf h).1, ff (tf h).1]; exact .down (((((hP (d + 1)).c A B).pp (fun k => ⟨fun A B => .kp⟩) nw) : Ck E Pln true false A B _ _).cp fun _ => (tf h).2)
    · rw [h0, show hd [] = tC from rfl, if_pos (by decide)]; exact (hA d).c [] []
  · rw [dG, dG]
    exact .ite Iff.rfl (fun _ => ((hP d).c A B).wk) fun _ => ((hC (lv + 1) d).c A B).pp (fun e => hR lv d e) fun _ e => yk hE n lv d e
  · have h0 : ∀ l : List Tok, ig (n + 1) lv d e l = match gx lv (hd l) with | none => some (.ok e l) | some b => pb (dG n (lv + 1) d (dq l)) fun k l1 => if lv = 0 then some (.ok ⟨9, b, 0, 0, bs [], bs [], [e, k], (hd l).p.1, (hd l).p.2⟩ l1) else ig n lv d ⟨9, b, 0, 0, bs [], bs [], [e, k], (hd l).p.1, (hd l).p.2⟩ l1 := fun l => by rw [ig]; rfl
    refine .split (fun t A B => ?_) ⟨some (.ok e [E]), ?_⟩ (yk hE (n + 1) lv d e)
    · rw [h0, h0]
      show Ck E Pln false true (t :: A) B (match gx lv t with | none => _ | some b => _) (match gx lv t with | none => _ | some b => _)
      cases hs : gx lv t with
      | none => exact .kp (A := t :: A)
      | some b =>
       have h1 := FA hs
       show Ck E Pln false true (t :: A) B (S.pb (dG n (lv + 1) d (dq (t :: (A ++ B)))) _) (S.pb (dG n (lv + 1) d (dq (t :: (A ++ [E])))) _)
       rw [ff h1.1, ff h1.1]
       refine Ck.cp (s := true) (((hC (lv + 1) d).c A B).pp (s' := false) (w' := true) (fun k => ⟨fun A B => .ite Iff.rfl (fun _ => .kp) fun _ => (hR _ _ _).c A B⟩) fun _ k => ?_) fun _ => h1.2
       split
       · exact .ok
       · exact yk hE ..
    · rw [h0, show gx lv (hd []) = none by simp [gx, hd, tC]]
      exact .kp (A := []) (B := [])
theorem kZ (n lv d : Nat) : Cf E Pln true true (dG n lv d) := (Cp hE n).2.2.1 lv d
theorem zR (n d : Nat) : Cf E Pln true true (mC n d) :=
 ⟨fun A B => ((jl hE (.inl rfl)).c A B).pp (s' := false) (w' := true) (fun t => .it hE (fun u A B e => (((jl hE (.inl rfl)).c A B).pp (s' := false) (w' := true) (fun _ => ⟨fun A B => .kp⟩) nw).cp fun _ => tx3 e)
  (.it hE (fun u A B e => (((kZ hE n 0 d).c A B).pp (s' := true) (w' := true) (fun _ => ⟨fun A B => ((kO hE).c A B).pp (fun _ => ⟨fun A B => .kp⟩) nw⟩) fun _ _ => .pb (lC hE _)).cp fun _ => tx3 e) ⟨fun A B => .kp⟩ .ok) (.it hE .ok)) nw⟩
theorem Fv (n d : Nat) : We E true w (gY n d [E]) := by
 unfold gY; simp only [tU hE, ae, if_false]; exact .pb ((sd hE n).2.2 0 d)
theorem zW (n d : Nat) : Cf E Pln true true (gY n d) := by
 refine .split (fun t A B => ?_) ⟨pb (dG n 0 d [E]) (fun e l1 => some (.ok (⟨1, e, pl0, bs [], (hd []).p.1, (hd []).p.2⟩ : Rt) l1)), ?_⟩ (Fv hE n d)
 · unfold gY
   refine .ite Iff.rfl (fun c => ?_) fun _ => .ite Iff.rfl (fun c => ?_) fun _ => .ite Iff.rfl (fun c => ?_) fun _ => ?_
   · exact (((zR hE n d).c A B).pp (s' := false) (w' := true) (fun _ => ⟨fun A B => .kp⟩) fun _ _ => .ok).cp fun _ => tx3 (gn c)
   · exact (((jl hE (.inl rfl)).c A B).pp (s' := false) (w' := true) (fun _ => ⟨fun A B => .kp⟩) nw).cp fun _ => tx3 (gn c)
   · exact ((Cf.it hE (u := [105, 110, 116, 115]) (X := fun l => pb (dG n 0 d l.tail) fun e l1 => some (.ok (⟨4, e, pl0, bs [], t.p.1, t.p.2⟩ : Rt) l1)) (Y := fun l => pb (some (ec 1 l)) fun u l1 => some (.ok (⟨3, x0, pl0, bs u.text, t.p.1, t.p.2⟩ : Rt) l1))
      (fun u A B e => Ck.cp (s := true) (((kZ hE n 0 d).c A B).pp (s' := false) (w' := true) (K := fun e l1 => some (.ok (⟨4, e, pl0, bs [], t.p.1, t.p.2⟩ : Rt) l1)) (fun _ => ⟨fun A B => .kp⟩) fun _ _ => .ok) fun _ => tx3 e)
      ⟨fun A B => ((jl hE (.inl rfl)).c A B).pp (s' := false) (w' := true) (K := fun u l1 => some (.ok (⟨3, x0, pl0, bs u.text, t.p.1, t.p.2⟩ : Rt) l1)) (fun _ => ⟨fun A B => .kp⟩) nw⟩ (.pb (u7 hE (by decide)))).c A B).cp fun _ => tx3 (gn c)
   · exact ((kZ hE n 0 d).c (t :: A) B).pp (s' := false) (w' := true) (fun _ => ⟨fun A B => .kp⟩) fun _ _ => .ok
 · have e0 : ∀ u, isT [] u = false := fun u => by simp [isT, hd, tC]
   unfold gY; simp only [e0, ae, if_false]
   exact ((kZ hE n 0 d).c [] []).pp (s' := false) (w' := true) (K := fun e l1 => some (.ok (⟨1, e, pl0, bs [], (hd []).p.1, (hd []).p.2⟩ : Rt) l1)) (fun _ => ⟨fun A B => .kp⟩) fun _ _ => .ok
theorem GQ (n m d : Nat) (acc : List X) : We E true w (iH n m d acc [E]) := by
 cases n with
 | zero => rw [iH]; exact .n
 | succ n => rw [iH]; exact .pb ((sd hE m).2.2 0 d)
theorem BS : ∀ (n m d : Nat) (acc : List X), Cf E Pln true false (iH n m d acc)
 | 0, _, _, _ => ⟨fun A B => by rw [iH]; exact .non⟩
 | n + 1, m, d, acc => ⟨fun A B => by
  rw [iH, iH]
  exact ((kZ hE m 0 d).c A B).pp (s' := true) (w' := false) (fun e => .it hE (u := [41]) (X := fun l => some (.ok (acc ++ [e]) l.tail)) (Y := fun l => pb (some (cL [44] l)) fun _ l2 => iH n m d (acc ++ [e]) l2) (fun t A B e => Ck.kp.cp fun _ => tx3 e) ⟨fun A B => ((kO hE).c A B).pp (fun _ => BS n m d _) nw⟩ (.pb (lC hE _))) fun _ _ => .it hE (.pb (lC hE _))⟩
theorem Ez (n d : Nat) : Cf E Pln true false (qV n d) :=
 ⟨fun A B => ((kO hE).c A B).pp (s' := true) (fun _ => .it hE (fun t A B e => Ck.kp.cp fun _ => tx3 e) (BS hE n n d []) (GQ hE n n d [])) nw⟩
omit hE in
theorem HJ {t : Tok} (h : t.text = [59]) : Bal [t] := .one (by simp only [brT, h]; decide)
theorem sT (s : S) : We E true w (fV s [E]) := .pb (lC hE _)
theorem oY (s : S) : Cf E Bal true false (fV s) := ⟨fun A B => ((qE hE fun _ => HJ).c A B).BB (fun _ => ⟨fun A B => .oP .nil⟩) nw⟩
theorem E1 (f : ByteArray → S) : We E true w (fV (f (eU [E]).1) (eU [E]).2) := by
 have h0 : eU [E] = (bs [], [E]) := if_neg (by show ¬ E.kind = 1; omega); rw [h0]; exact sT hE _
theorem zL (f : ByteArray → S) : Cf E Bal true false (fun l => fV (f (eU l).1) (eU l).2) := by
 refine .split (fun t A B => ?_) ⟨none, ?_⟩ (E1 hE f)
 · by_cases h : t.kind = 1
   · have h0 : ∀ l, eU (t :: l) = (bs t.text, l) := fun l => (if_pos h).trans (by rw [ff (by omega)]; rfl)
     rw [h0, h0]
     exact ((oY hE _).c A B).cb fun q => (q (by omega)).1
   · have h0 : ∀ l, eU (t :: l) = (bs [], t :: l) := fun l => if_neg h
     rw [h0, h0]; exact (oY hE _).c (t :: A) B
 · have h0 : eU [] = (bs [], []) := if_neg (by decide)
   rw [h0, fV, cL, show isT [] [59] = false by simp [isT, hd, tC], if_neg (by simp)]; exact .bad
theorem yr (n d : Nat) : We E true w (iC n d [E]) := by
 cases n with
 | zero => rw [iC]; exact .n
 | succ n =>
  rw [iC]; have h0 : (hd [E]).kind = 0 := hE; simp only [tU hE, h0, ae, if_false, or_self, show ¬ (0 = 1) by decide]; exact .b
theorem EG (n d : Nat) : We E true w (en n d [E]) := by
 cases n with
 | zero => rw [en]; exact .n
 | succ n => rw [en]; exact .pb (lC hE _)
theorem Ia (n d : Nat) (acc : List S) : We E true w (j9 n d acc [E]) := by
 cases n with
 | zero => rw [j9]; exact .n
 | succ n => rw [j9]; exact .it hE (.pb (yr hE n d))
theorem Dt : ∀ n : Nat, (∀ d, Cf E Blk true false (en n d)) ∧ (∀ d acc, Cf E Clo true false (j9 n d acc)) ∧ (∀ d t nm, Cf E Bal true false (iB n d t nm)) ∧ (∀ d, Cf E Bal true true (iC n d))
 | 0 => by
  refine ⟨fun d => ⟨fun A B => ?_⟩, fun d acc => ⟨fun A B => ?_⟩, fun d t nm => ⟨fun A B => ?_⟩, fun d => ⟨fun A B => ?_⟩⟩
  · rw [en]; exact .non
  · rw [j9]; exact .non
  · rw [iB]; exact .non
  · rw [iC]; exact .non
 | n + 1 => by
  obtain ⟨hB, hW, hL, hS⟩ := Dt n
  have hB' : ∀ d A B, Ck E Bal true false A B (en n d (A ++ B)) (en n d (A ++ [E])) := fun d A B => ((hB d).c A B).mono (fun _ h => h.bal) id id
  refine ⟨fun d => ⟨fun A B => ?_⟩, fun d acc => ⟨fun A B => ?_⟩, fun d t nm => ⟨fun A B => ?_⟩, fun d => ?_⟩
  · rw [en, en]
    refine ((qE hE (Φ := fun C => ∃ o : Tok, C = [o] ∧ o.text = [123]) fun t e => ⟨t, rfl, e⟩).c A B).pb (fun t => ⟨fun A B => .down ((hW _ _).c A B)⟩) (fun C D hC hD => ?_) nw; obtain ⟨o, rfl, ho⟩ := hC; obtain ⟨b, c, rfl, hb, hc⟩ := hD; exact ⟨o, b, c, rfl, ho, hb, hc⟩
  · rw [j9, j9]
    refine (Cf.it hE (u := [125]) (X := fun l => some (.ok acc l.tail)) (Y := fun l => pb (iC n d l) fun s l1 => j9 n d (acc ++ [s]) l1) (fun t A B e => ?_) ⟨fun A B => ?_⟩ (.pb (yr hE n d))).c A B
    · exact (Ck.oP (Φ := fun C => C = []) rfl).cons fun _ C hC => hC ▸ ⟨[], t, rfl, .nil, e⟩
    · refine ((hS d).c A B).pb (fun s => hW _ _) (fun C D hC hD => ?_) fun _ s => Ia hE ..
      obtain ⟨b, c, rfl, hb, hc⟩ := hD; exact ⟨C ++ b, c, by simp, hC.app hb, hc⟩
  · rw [iB, iB]
    exact ((jl hE (.inr (.inl rfl))).c A B).pB (fun u => ⟨fun A B => (hB' d A B).BB (fun b => ⟨fun A B => .oP .nil⟩) nw⟩) nw
  · refine .split (fun t A B => ?_) ⟨none, ?_⟩ (yr hE (n + 1) d)
    · rw [iC, iC]
      refine .ite Iff.rfl (fun h => ?_) fun _ => .ite Iff.rfl (fun c => (((hL d t _).c A B).wk.cb fun _ => (tx3 (gn c)).1)) fun _ => .ite Iff.rfl (fun c => ?_) fun _ => .ite Iff.rfl (fun c => ((hB' d A B).BB (s' := false) (w' := true) (fun b => ⟨fun A B => .oP .nil⟩) nw).cb fun _ => (tx3 (gn c)).1) fun _ => .ite Iff.rfl (fun h => ?_) fun _ =>
       .ite Iff.rfl (fun c => ?_) fun _ => .ite Iff.rfl (fun c => ?_) fun _ => .ite Iff.rfl (fun c => ?_) fun _ => .ite Iff.rfl (fun c => ?_) fun _ => .ite Iff.rfl (fun c => ?_) fun _ => .bad
      · have h : t.kind = 1 := h
        rw [ff (by omega), ff (by omega)]
        refine ((Cf.it hE (u := [58]) (Φ := Bal) (s := true) (w := true) (X := fun l => pb (some (cL [108, 111, 111, 112] l.tail)) fun _ l1 => iB n d t (bs t.text) l1) (Y := fun l => pb (some (cL [61] l)) fun _ l1 => pb (gY n d l1) fun r l2 => fV (mkS t 3 (bs t.text) r pl0 x0 0 [] [] []) l2)
         (fun u A B e => ?_) ⟨fun A B => ?_⟩ (.pb (lC hE _))).c A B).cb fun q => (q (by omega)).1
        · exact ((((kO hE).c A B).pB (fun _ => hL d t _) nw).cb fun _ => (tx3 e).1).wk
        · exact (((kO hE).c A B).pB (fun _ => ⟨fun A B => ((zW hE n d).c A B).pB (fun r => oY hE _) fun _ _ => sT hE _⟩) nw).wk
      · refine Ck.cb (s := true) (((kZ hE n 0 d).c A B).pB (s' := true) (w' := true) (fun e => ⟨fun A B => (hB' d A B).BB (s' := false) (w' := true) (fun b => .it hE (fun u A B e => ((hB' d A B).BB (s' := false) (w' := true) (fun c => ⟨fun A B => .oP .nil⟩) nw).cb fun _ => (tx3 e).1) ⟨fun A B => .oP .nil⟩ .ok) nw⟩) fun _ _ => .pb (EG hE n d)) fun _ => (tx3 (gn c)).1
      · have h1 : t.kind ≠ 0 ∧ ¬ brT t := by
         rcases h with h | h
         · have := CE h; exact ⟨by omega, (tx3 (gn h)).1⟩
         · have := CE h; exact ⟨by omega, (tx3 (gn h)).1⟩
        rw [ff h1.1, ff h1.1]
        exact Ck.cb (s := true) (((jl hE (.inl rfl)).c A B).pB (fun u => ⟨fun A B => ((kO hE).c A B).pB (fun _ => ⟨fun A B => ((zW hE n d).c A B).pB (fun r => oY hE _) fun _ _ => sT hE _⟩) nw⟩) nw).wk fun _ => h1.2
      · exact Ck.cb (s := true) (((zR hE n d).c A B).pB (fun x => ⟨fun A B => ((kO hE).c A B).pB (fun _ => ⟨fun A B => ((kZ hE n 0 d).c A B).pB (fun e => oY hE _) fun _ _ => sT hE _⟩) nw⟩) fun _ _ => .pb (lC hE _)).wk fun _ => (tx3 (gn c)).1
      · exact Ck.cb (s := true) (((kZ hE n 0 d).c A B).pB (fun e => oY hE _) fun _ _ => sT hE _).wk fun _ => (tx3 (gn c)).1
      · exact ((zL hE fun nm => mkS t 8 nm rt0 pl0 x0 0 [] [] []).c A B).wk.cb fun _ => (tx3 (gn c)).1
      · exact ((zL hE fun nm => mkS t 9 nm rt0 pl0 x0 0 [] [] []).c A B).wk.cb fun _ => (tx3 (gn c)).1
      · exact Ck.cb (s := true) (((jl hE (.inl rfl)).c A B).pB (fun u => ⟨fun A B => ((Ez hE n d).c A B).pB (fun xs => oY hE _) nw⟩) nw).wk fun _ => (tx3 (gn c)).1
    · have e0 : ∀ u, isT [] u = false := fun u => by simp [isT, hd, tC]
      rw [iC]; simp only [e0, show (hd []).kind = 0 from rfl, ae, if_false, or_self, show ¬ (0 = 1) by decide]; exact .bad
theorem zd (n d : Nat) : Cf E Blk true false (en n d) := (Dt hE n).1 d
theorem vZ : ∀ (n : Nat) (acc : List Nm), Cf E Clo true false (gj n acc)
 | 0, _ => ⟨fun A B => by rw [gj]; exact .non⟩
 | n + 1, acc => ⟨fun A B => by
  rw [gj, gj]; refine (Cf.it hE (u := [125]) (X := fun l => some (.ok acc l.tail)) (Y := fun l => pb (jf l) fun f l1 => pb (some (cL [59] l1)) fun _ l2 => gj n (acc ++ [f]) l2) (fun t A B e => ?_) ⟨fun A B => ?_⟩ (.pb (zO hE))).c A B
  · exact (Ck.oP (Φ := fun C => C = []) rfl).cons fun _ C hC => hC ▸ ⟨[], t, rfl, .nil, e⟩
  · have hp : ∀ C D, Bal C → Clo D → Clo (C ++ D) := fun C D hC hD => by
     obtain ⟨b, c, rfl, hb, hc⟩ := hD; exact ⟨C ++ b, c, by simp, hC.app hb, hc⟩
    exact ((vh hE).c A B).bal.pb (Ψ := Clo) (fun f => ⟨fun A B => ((qE hE fun _ => HJ).c A B).pb (fun _ => vZ n _) hp nw⟩) hp nw⟩
omit hE in
theorem Itm.pln {C D : List Tok} (hC : Pln C) (hD : Itm D) : Itm (C ++ D) := by
 rcases hD with ⟨P, Q, rfl, h1, h2⟩ | ⟨P, c, rfl, h1, h2⟩
 · exact .inl ⟨C ++ P, Q, by simp, hC.app h1, h2⟩
 · exact .inr ⟨C ++ P, c, by simp, hC.app h1, h2⟩
theorem H8 (n : Nat) : Cf E Itm true false (vq n) :=
 ⟨fun A B => ((jl hE (.inl rfl)).c A B).pb (fun t => ⟨fun A B => ((qE hE (Φ := fun C => ∃ o : Tok, C = [o] ∧ o.text = [123]) fun t e => ⟨t, rfl, e⟩).c A B).pb (Ξ := Itm) (fun _ => ⟨fun A B => ((vZ hE n []).c A B).pb (Ξ := Clo) (fun fs => ⟨fun A B => .oP (Φ := fun C => C = []) rfl⟩) (fun C D hC hD => by subst hD; rwa [List.append_nil]) nw⟩) (fun C D hC hD => by
  obtain ⟨o, rfl, ho⟩ := hC; obtain ⟨b, c, rfl, hb, hc⟩ := hD
  exact .inl ⟨[], _, rfl, .nil, o, b, c, rfl, ho, hb, hc⟩) nw⟩) (fun C D => Itm.pln) nw⟩
theorem CW (n : Nat) (acc : List Nm) : We E true w (fu n acc [E]) := by
 cases n with
 | zero => rw [fu]; exact .n
 | succ n => rw [fu]; exact .pb (zO hE)
theorem wM : ∀ (n : Nat) (acc : List Nm), Cf E Pln true false (fu n acc)
 | 0, _ => ⟨fun A B => by rw [fu]; exact .non⟩
 | n + 1, acc => ⟨fun A B => by
  rw [fu, fu]
  exact ((vh hE).c A B).pp (s' := true) (fun f => .it hE (fun t A B e => Ck.kp.cp fun _ => tx3 e) ⟨fun A B => ((kO hE).c A B).pp (fun _ => wM n _) nw⟩ (.pb (lC hE _))) nw⟩
theorem HN (n : Nat) : Cf E Itm true false (wj n) :=
 ⟨fun A B => ((jl hE (.inl rfl)).c A B).pb (fun t => ⟨fun A B => ((kO hE).c A B).pb (Ξ := Itm) (fun _ => ⟨fun A B => Ck.pb (Φ := Pln) (Ψ := Itm) (w := false) ((Cf.it hE (u := [41]) (X := fun l => some (.ok [] l.tail)) (Y := fun l => fu n [] l) (fun t A B e => Ck.kp.cp fun _ => tx3 e) (wM hE n []) (CW hE n [])).c A B)
  (fun ps => ⟨fun A B => ((zd hE n 0).c A B).pb (fun b => ⟨fun A B => .oP (Φ := fun C => C = []) rfl⟩) (fun C D hC hD => by subst hD; rw [List.append_nil]; exact .inl ⟨[], C, rfl, .nil, hC⟩) nw⟩) (fun C D => Itm.pln) nw⟩) (fun C D => Itm.pln) nw⟩) (fun C D => Itm.pln) nw⟩
theorem G4 : Cf E Itm true false (fun l => pb (jf l) fun x l1 => pb (some (cL [59] l1)) fun _ l2 => some (.ok x l2)) :=
 ⟨fun A B => ((vh hE).c A B).pb (fun x => ⟨fun A B => ((qE hE (Φ := fun C => ∃ c : Tok, C = [c] ∧ c.text = [59]) fun t e => ⟨t, rfl, e⟩).c A B).pb (Ξ := fun C => ∃ c : Tok, C = [c] ∧ c.text = [59]) (fun _ => ⟨fun A B => .oP (Φ := fun C => C = []) rfl⟩) (fun C D hC hD => by subst hD; rwa [List.append_nil]) nw⟩) (fun C D hC hD => by
  obtain ⟨c, rfl, hc⟩ := hD
  exact .inr ⟨C, c, rfl, hC, hc⟩) nw⟩
end
def kwT (t : Tok) : Bool := decide (t.text = [114, 101, 99, 111, 114, 100]) || decide (t.text = [103, 108, 111, 98, 97, 108]) || decide (t.text = [102, 117, 110]) || decide (t.text = [116, 104, 114, 101, 97, 100])
def stp (d : Int × Bool) (t : Tok) : Int × Bool :=
 let o := d.2 || kwT t
 if t.text = [123] then (d.1 + 1, o) else if t.text = [125] then (d.1 - 1, o && decide (0 < d.1 - 1)) else if t.text = [59] ∧ d.1 = 0 then (d.1, false) else (d.1, o)
def run (d : Int × Bool) (l : List Tok) : Int × Bool := l.foldl stp d
theorem kc (d : Int × Bool) (a b : List Tok) : run d (a ++ b) = run (run d a) b := List.foldl_append ..
theorem iM (d : Int × Bool) (t : Tok) (b : List Tok) : run d (t :: b) = run (stp d t) b := rfl
theorem Ac {d : Int} {t : Tok} (h : t.text = [123]) : stp (d, true) t = (d + 1, true) := by simp [stp, h]
theorem F2 {d : Int} {t : Tok} (h : t.text = [125]) : stp (d, true) t = (d - 1, decide (0 < d - 1)) := by simp [stp, h]
theorem F3 {d : Int} {t : Tok} (h : ¬ brT t) (h' : t.text = [59] → d ≠ 0) : stp (d, true) t = (d, true) := by
 have h1 : t.text ≠ [123] := fun e => h (.inl e)
 have h2 : t.text ≠ [125] := fun e => h (.inr e)
 simp only [stp, Bool.true_or, if_neg h1, if_neg h2]; rw [if_neg fun q => h' q.1 q.2]
theorem vo {α : Type} {a b P Q : List α} (h : a ++ b = P ++ Q) : (∃ c, a = P ++ c) ∨ ∃ P', P = a ++ P' ∧ b = P' ++ Q := by
 rcases List.append_eq_append_iff.1 h with ⟨c, h1, h2⟩ | ⟨c, h1, h2⟩
 · exact .inr ⟨c, h1, h2⟩
 · exact .inl ⟨c, h1⟩
theorem rI {α : Type} {b P Q : List α} {c : α} (h : b ++ [c] = P ++ Q) : (∃ b', b = P ++ b') ∨ (P = b ++ [c] ∧ Q = []) := by
 rcases vo h with h | ⟨P', h1, h2⟩
 · exact .inl h
 · cases P' with
   | nil => exact .inl ⟨[], by rw [h1]; simp⟩
   | cons x P' =>
    simp only [aA, List.cons.injEq] at h2; obtain ⟨rfl, h2⟩ := h2; have := List.append_eq_nil_iff.1 h2.symm; exact .inr ⟨by rw [h1, this.1], this.2⟩
theorem Bal.run {C : List Tok} (h : Bal C) : ∀ d : Int, 1 ≤ d → S.run (d, true) C = (d, true) ∧ ∀ P Q, C = P ++ Q → ∃ e, d ≤ e ∧ S.run (d, true) P = (e, true) := by
 induction h with
 | nil => exact fun d hd => ⟨rfl, fun P Q e => by rw [(List.append_eq_nil_iff.1 e.symm).1]; exact ⟨d, Int.le_refl _, rfl⟩⟩
 | one h =>
  rename_i t; intro d hd
  have e : S.run (d, true) [t] = (d, true) := F3 h fun _ => by omega
  refine ⟨e, fun P Q q => ?_⟩
  rcases rI (b := []) q with ⟨b', h1⟩ | ⟨rfl, _⟩
  · rw [(List.append_eq_nil_iff.1 h1.symm).1]; exact ⟨d, Int.le_refl _, rfl⟩
  · exact ⟨d, Int.le_refl _, e⟩
 | app h h' ih ih' =>
  intro d hd; obtain ⟨e1, p1⟩ := ih d hd; obtain ⟨e2, p2⟩ := ih' d hd; refine ⟨by rw [kc, e1, e2], fun P Q q => ?_⟩
  rcases vo q with ⟨c, hc⟩ | ⟨P', rfl, hb⟩
  · exact p1 P c hc
  · obtain ⟨e, h1, h2⟩ := p2 P' Q hb
    exact ⟨e, h1, by rw [kc, e1, h2]⟩
 | blk h hb h' ih =>
  rename_i o c b; intro d hd; obtain ⟨e1, p1⟩ := ih (d + 1) (by omega)
  have e2 : S.run (d, true) (o :: (b ++ [c])) = (d, true) := by
   rw [iM, Ac h, kc, e1]
   show stp _ _ = _
   rw [F2 h', show d + 1 - 1 = d by omega, decide_eq_true (by omega)]
  refine ⟨e2, fun P Q q => ?_⟩
  cases P with
  | nil => exact ⟨d, Int.le_refl _, rfl⟩
  | cons x P =>
   simp only [aA, List.cons.injEq] at q; obtain ⟨rfl, q⟩ := q
   rcases rI q with ⟨b', hb'⟩ | ⟨rfl, _⟩
   · obtain ⟨e, h1, h2⟩ := p1 P b' hb'
     exact ⟨e, by omega, by rw [iM, Ac h, h2]⟩
   · exact ⟨d, Int.le_refl _, e2⟩
theorem Pln.run : ∀ {C : List Tok}, Pln C → ∀ d : Int, S.run (d, true) C = (d, true)
 | [], _, d => rfl
 | t :: C, h, d => by
  have ht := h t bI; rw [iM, F3 ht.1 fun e => absurd e ht.2]; exact Pln.run (fun u hu => h u (bS _ hu)) d
theorem Pln.pre {P Q : List Tok} (h : Pln (P ++ Q)) : Pln P := fun t ht => h t (List.mem_append_left _ ht)
theorem Itm.run {C : List Tok} (h : Itm C) : S.run (0, true) C = (0, false) ∧ ∀ P Q, C = P ++ Q → Q ≠ [] → (S.run (0, true) P).2 = true := by
 rcases h with ⟨P, _, rfl, hP, o, b, c, rfl, ho, hb, hc⟩ | ⟨P, c, rfl, hP, hc⟩
 · obtain ⟨e1, p1⟩ := hb.run 1 (by omega)
   refine ⟨?_, fun R Q q hQ => ?_⟩
   · rw [kc, hP.run, iM, Ac ho, kc]
     show stp (S.run (1, true) b) c = _
     rw [e1, F2 hc]; rfl
   · rcases vo q with ⟨P', rfl⟩ | ⟨R', rfl, q'⟩
     · rw [hP.pre.run]
     · rw [kc, hP.run]
       cases R' with
       | nil => rfl
       | cons x R' =>
        simp only [aA, List.cons.injEq] at q'; obtain ⟨rfl, q'⟩ := q'
        rcases rI q' with ⟨b', hb'⟩ | ⟨_, h2⟩
        · obtain ⟨e, _, h2⟩ := p1 R' b' hb'
          rw [iM, Ac ho]
          show (S.run (1, true) R').2 = true
          rw [h2]
        · exact absurd h2 hQ
 · refine ⟨?_, fun R Q q hQ => ?_⟩
   · rw [kc, hP.run]
     show stp (0, true) c = _
     simp [stp, hc]
   · rcases rI q with ⟨P', rfl⟩ | ⟨_, h2⟩
     · rw [hP.pre.run]
     · exact absurd h2 hQ
section
variable {E : Tok} (hE : E.kind = 0)
include hE
theorem C3 (m : Nat) : ∀ (n : Nat) (g : Pg) (A B : List Tok) (g1 : Pg) (l' : List Tok), (∀ t ∈ A, t.kind ≠ 0) → (∀ t ∈ A ++ B, Tf t) → eA n m g (A ++ B) = some (.ok g1 l') →
 eA n m g (A ++ [E]) = none ∨ ((run (0, false) A).2 = false ∧ ∃ g2 l2, eA n m g (A ++ [E]) = some (.ok g2 l2)) ∨ ((run (0, false) A).2 = true ∧ eA n m g (A ++ [E]) = some (.bad 4 E.p))
 | 0, g, A, B, g1, l', hA, hT, h => by rw [eA] at h; cases h
 | n + 1, g, [], B, g1, l', hA, hT, h => by
  refine .inr (.inl ⟨rfl, g, [E], ?_⟩); rw [eA]; exact if_pos hE
 | n + 1, g, t :: A0, B, g1, l', hA, hT, h => by
  have ht := hA t bI
  have fin : ∀ {α : Type} (f : List Tok → Option (PR α)) (K : α → Pg), Cf E Itm true false f → kwT t = true → (t.text ≠ [123] ∧ t.text ≠ [125] ∧ t.text ≠ [59]) → S.pb (f (A0 ++ B)) (fun r l1 => eA n m (K r) l1) = some (.ok g1 l') → eA (n + 1) m g (t :: A0 ++ [E]) = S.pb (f (A0 ++ [E])) (fun r l1 => eA n m (K r) l1) →
   eA (n + 1) m g (t :: A0 ++ [E]) = none ∨ ((run (0, false) (t :: A0)).2 = false ∧ ∃ g2 l2, eA (n + 1) m g (t :: A0 ++ [E]) = some (.ok g2 l2)) ∨ ((run (0, false) (t :: A0)).2 = true ∧ eA (n + 1) m g (t :: A0 ++ [E]) = some (.bad 4 E.p)) := by
   intro α f K hf hk hx hh he; rw [he]
   have s0 : stp (0, false) t = (0, true) := by simp [stp, hk, hx.1, hx.2.1, hx.2.2]
   match hx2 : f (A0 ++ B), hh with
   | none, hh => cases hh
   | some (.bad _ _), hh => cases hh
   | some (.ok a l1), hh =>
    obtain ⟨C, h1, h2, h3, h4⟩ := hf.c A0 B (fun u hu => hT u (bS _ hu)) a l1 hx2; obtain ⟨r1, r2⟩ := h2.run
    rcases h4 with ⟨A', rfl, rfl, hy⟩ | ⟨B1, rfl, rfl, hy⟩
    · rw [hy]
      have := C3 m n (K a) A' B g1 l' (fun u hu => hA u (by simp [hu])) (fun u hu => hT u (by
       rcases List.mem_append.1 hu with q | q <;> simp [q])) hh
      rw [iM, s0, kc, r1]; exact this
    · rcases hy with hy | ⟨hb, hy⟩ | ⟨hy, _⟩
      · rw [hy]; exact .inl rfl
      · rw [hy, iM, s0]
        exact .inr (.inr ⟨r2 A0 B1 rfl hb, rfl⟩)
      · cases hy
  rw [eA] at h; have c0 : ¬ (hd (t :: A0 ++ B)).kind = 0 := ht; have c0' : ¬ (hd (t :: A0 ++ [E])).kind = 0 := ht; rw [if_neg c0] at h
  have eT : ∀ s, isT (t :: A0 ++ [E]) s = isT (t :: A0 ++ B) s := fun _ => rfl
  have pa : ∀ {α β : Type} (x : Option (PR α)) (K : α → List Tok → Option (PR Tok)) (G : α → Pg) (j : Nat), (S.pb x fun r l1 => S.pb (K r l1) fun _ l2 => eA j m (G r) l2) = S.pb (S.pb x fun r l1 => S.pb (K r l1) fun _ l2 => some (.ok r l2)) fun r l2 => eA j m (G r) l2 := by
   intro α β x K G j
   match x with
   | none => rfl
   | some (.bad _ _) => rfl
   | some (.ok a l1) =>
    show S.pb (K a l1) _ = S.pb (S.pb (K a l1) _) _
    match K a l1 with
    | none => rfl
    | some (.bad _ _) => rfl
    | some (.ok _ _) => rfl
  by_cases c1 : isT (t :: A0 ++ B) [114, 101, 99, 111, 114, 100] = true
  · rw [if_pos c1] at h
    have e := gn c1; exact fin (vq m) _ (H8 hE m) (by simp [kwT, e]) (by rw [e]; decide) h (by rw [eA, if_neg c0', eT, if_pos c1]; rfl)
  rw [if_neg c1] at h
  by_cases c2 : isT (t :: A0 ++ B) [103, 108, 111, 98, 97, 108] = true
  · rw [if_pos c2, pa (β := Unit)] at h
    have e := gn c2; exact fin (fun l => S.pb (jf l) fun x l1 => S.pb (some (cL [59] l1)) fun _ l2 => some (.ok x l2)) _ (G4 hE) (by simp [kwT, e]) (by rw [e]; decide) h (by rw [eA, if_neg c0', eT, if_neg c1, eT, if_pos c2, pa (β := Unit)]; rfl)
  rw [if_neg c2] at h
  by_cases c3 : isT (t :: A0 ++ B) [102, 117, 110] = true
  · rw [if_pos c3] at h
    have e := gn c3; exact fin (wj m) _ (HN hE m) (by simp [kwT, e]) (by rw [e]; decide) h (by rw [eA, if_neg c0', eT, if_neg c1, eT, if_neg c2, eT, if_pos c3]; rfl)
  rw [if_neg c3] at h
  by_cases c4 : isT (t :: A0 ++ B) [116, 104, 114, 101, 97, 100] = true
  · rw [if_pos c4] at h
    have e := gn c4; have hB : Cf E Itm true false (en m 0) := ⟨fun A B => ((zd hE m 0).c A B).mono (fun C hC => .inl ⟨[], C, rfl, .nil, hC⟩) id id⟩; exact fin (en m 0) _ hB (by simp [kwT, e]) (by rw [e]; decide) h (by rw [eA, if_neg c0', eT, if_neg c1, eT, if_neg c2, eT, if_neg c3, eT, if_pos c4]; rfl)
  rw [if_neg c4] at h; cases h
end
def ctext : List Tok → List UInt8
 | [] => []
 | t :: r => t.text ++ 32 :: ctext r
def ck : List Tok → Nat → List Tok
 | [], k => []
 | t :: r, k => ⟨t.kind, t.text, t.n, (1, k)⟩ :: ck r (k + (t.text.length + 1))
theorem pC (a b : List Tok) : ctext (a ++ b) = ctext a ++ ctext b := by
 induction a with
 | nil => rfl
 | cons t a ih => simp only [aA, ctext, ih, List.append_assoc]
theorem Cc : ∀ {t0 : List Tok} (_ : ∀ t ∈ t0, Tk t) (k : Nat), gd (ctext t0) (1, k) = .ok (ck t0 k ++ [⟨0, [], 0, (1, k + (ctext t0).length)⟩])
 | [], _, k => by
  rw [show ctext [] = [] from rfl, lN]; rfl
 | t :: r, h, k => by
  have ht := h t (by simp); rw [ctext, E8 ht (by decide), jj, ph _ _ (FE ht)]
  show (gd (ctext r) (1, k + t.text.length + 1)).cons _ = _
  rw [Cc (fun t hm => h t (by simp [hm]))]
  have e : k + t.text.length + 1 + (ctext r).length = k + (t.text ++ 32 :: ctext r).length := by simp only [bH, ai]; omega
  rw [e, show k + t.text.length + 1 = k + (t.text.length + 1) by omega]
  rfl
theorem pz : ∀ (t0 : List Tok) (k : Nat), (ck t0 k).map Tok.bare = t0.map Tok.bare
 | [], k => rfl
 | t :: r, k => by rw [ck, aZ, aZ, pz r]; rfl
theorem xa : ∀ {a b : List Tok} (d : Int × Bool), a.map Tok.bare = b.map Tok.bare → run d a = run d b
 | [], [], d, _ => rfl
 | [], _ :: _, d, h => by cases h
 | _ :: _, [], d, h => by cases h
 | t :: a, u :: b, d, h => by
  simp only [aZ, List.cons.injEq] at h; have e : t.text = u.text := congrArg (fun x => x.2.1) h.1
  have : stp d t = stp d u := by simp only [stp, kwT, e]
  rw [iM, iM, this]; exact xa _ h.2
theorem F5 {t : Tok} (h : Tk t) : Tf t := by
 have key : ∀ c : UInt8, (dp [c]).1 = 5 → t.text = [c] → t.kind = 5 := fun c hc e => by
  obtain ⟨a, l, h1, _, h3⟩ := h.ex; rw [← h1, e] at h3; rw [h3] at hc; exact hc
 have a1 := key 123 (by kernel_rfl); have a2 := key 125 (by kernel_rfl); have a3 := key 59 (by kernel_rfl); intro hk; refine ⟨?_, fun e => ?_⟩
 · rintro (e | e)
   · have := a1 e; omega
   · have := a2 e; omega
 · have := a3 e; omega
theorem zY : ∀ (l : List Tok) (d : Int × Bool), d.1 - l.length ≤ (run d l).1 ∧ (run d l).1 ≤ d.1 + l.length
 | [], d => by simp [run]
 | t :: l, d => by
  have := zY l (stp d t); rw [iM, ai]
  have h : d.1 - 1 ≤ (stp d t).1 ∧ (stp d t).1 ≤ d.1 + 1 := by
   unfold stp; dsimp only; split
   · dsimp only; omega
   split
   · dsimp only; omega
   split
   · dsimp only; omega
   · dsimp only; omega
  omega
theorem GY {T B : List Tok} {E0 : Tok} {g : Pg} {k : List Tok} (hT : ∀ t ∈ T, Tk t) (hB : ∀ t ∈ B, Tk t) (hE : E0.kind = 0) (hn : (T ++ (B ++ [E0])).length ≤ 8193) (h : hZ (T ++ (B ++ [E0])) = .ok g k) :
 gd (ctext T) (1, 1) = .ok (ck T 1 ++ [⟨0, [], 0, (1, 1 + (ctext T).length)⟩]) ∧
 ((run (0, false) T).2 = false → ∃ g' k', hZ (ck T 1 ++ [⟨0, [], 0, (1, 1 + (ctext T).length)⟩]) = .ok g' k') ∧
 ((run (0, false) T).2 = true → hZ (ck T 1 ++ [⟨0, [], 0, (1, 1 + (ctext T).length)⟩]) = .bad 4 (1, 1 + (ctext T).length)) := by
 refine ⟨Cc hT 1, ?_⟩
 have hq : Bq (T ++ (B ++ [E0])) (ck T 1 ++ (B ++ [E0])) := by simp only [Bq, List.map_append, pz]
 have hlen : (ck T 1).length = T.length := by have := congrArg List.length (pz T 1); simpa using this
 have mk : ∀ t ∈ ck T 1, ∃ u ∈ T, t.bare = u.bare := fun t ht => by
  have : t.bare ∈ T.map Tok.bare := by rw [← pz T 1]; exact List.mem_map_of_mem ht
  obtain ⟨u, hu, e⟩ := List.mem_map.1 this; exact ⟨u, hu, e.symm⟩
 obtain ⟨g2, k2, h2⟩ : ∃ g2 k2, hZ (ck T 1 ++ (B ++ [E0])) = .ok g2 k2 := by
  rcases Fg hq with ⟨_, g', _, k', _, e, _⟩ | ⟨e, q, q', h1, _⟩
  · exact ⟨g', k', e⟩
  · rw [h] at h1; cases h1
 have p2 := (mA (ts := ck T 1 ++ (B ++ [E0])) (by simp only [bH, hlen] at hn ⊢; omega)).1; rw [h2] at p2; have p3 := (mA (ts := ck T 1 ++ [⟨0, [], 0, (1, 1 + (ctext T).length)⟩]) (by simp only [bH, hlen, ai, aD] at hn ⊢; omega)).1; have hc := C3 (E := ⟨0, [], 0, (1, 1 + (ctext T).length)⟩) rfl 100000 10000 _ (ck T 1) (B ++ [E0]) g2 k2 (fun t ht => ?_) (fun t ht => ?_) p2
 · rw [p3, xa (0, false) (pz T 1)] at hc
   refine ⟨fun r => ?_, fun r => ?_⟩
   · rcases hc with q | ⟨_, g', k', q⟩ | ⟨q, _⟩
     · cases q
     · exact ⟨g', k', Option.some.inj q⟩
     · rw [r] at q; cases q
   · rcases hc with q | ⟨q, _⟩ | ⟨_, q⟩
     · cases q
     · rw [r] at q; cases q
     · exact Option.some.inj q
 · obtain ⟨u, hu, e⟩ := mk t ht
   have e : t.kind = u.kind := congrArg (fun x => x.1) e
   rw [e]; exact (nN (hT u hu)).1
 · rcases List.mem_append.1 ht with ht | ht
   · obtain ⟨u, hu, e⟩ := mk t ht
     have e1 : t.kind = u.kind := congrArg (fun x => x.1) e; have e2 : t.text = u.text := congrArg (fun x => x.2.1) e; have := F5 (hT u hu); intro hk; simp only [brT, e1, e2] at hk ⊢; exact this hk
   · rcases List.mem_append.1 ht with ht | ht
     · exact F5 (hB t ht)
     · rw [List.mem_singleton.1 ht]
       intro hk; rw [hE] at hk; omega
attribute [local simp] cY cu bV bW cv dS fk dY dh dW dc dX de fj bX gU dR gW gK gE AM.ab aL aM aY aN ay AM.onG fK bF dF Ex.ba cond_true cond_false cU cT cS cR cQ cW cP cX cV dZ di dj cr cZ AM.du AM.cellsOf AM.ao bE beq_true dm ai aD bh bu bP decide_true decide_false bC bm bn bA bf aB az bg aA da db fg aw bB bj bM cw dQ dU cI eu ep set_set eD dA fE dB cF bG dz cE dy cD dx eC eE fA fB bK cq eo fw ed aV aR aF AM.aQ ah dt bU aZ bc aJ aI AM.part aO aK bY cg cf cn cn.eS AM.dL bq bT dJ fQ aV laid aG aW cj
attribute [-simp] ag
attribute [local congr] dK
theorem Ch {A : List Tok} (hM : (ctext A).length < 1000000) (hlen : A.length < 100000) (e1 e2 e3 e4 : List (List PV)) (x1 x2 x3 : Int) {X : St} {N T Lb : Nat} (hN : X.stk.length = N) (hT : X.tk.length = T) (hL : X.lp.length = Lb) : ∀ (b a : List Tok), A = a ++ b →
 itE (S5.b0 (E L) itE N Lb) [.v (.bool false), str (ctext a), .v (.int .i64 (run (0, false) a).1), .v (.bool (run (0, false) a).2), .sl (au A) .dead, .v (.int .i64 (A.length : Int)), .v (.int .i64 (a.length : Int))] (X.app [⟨[.sl e1 .dead, .sl e2 .dead, .sl e3 .dead, .sl e4 .dead], []⟩, ⟨[.v (.int .i64 x1), .v (.int .i64 x2), .v (.int .i64 x3)], []⟩] [] []) =
  some (.exit 0, [.v (.bool false), str (ctext A), .v (.int .i64 (run (0, false) A).1), .v (.bool (run (0, false) A).2), .sl (au A) .dead, .v (.int .i64 (A.length : Int)), .v (.int .i64 (A.length : Int))], X.app [⟨[.sl e1 .dead, .sl e2 .dead, .sl e3 .dead, .sl e4 .dead], []⟩, ⟨[.v (.int .i64 x1), .v (.int .i64 x2), .v (.int .i64 x3)], []⟩] [] []) := by
 intro b
 induction b with
 | nil =>
  intro a h; rw [List.append_nil] at h; subst h; apply ft; simp [S5.b0, S5.c, hN, hT, hL, cN]
 | cons t b ih =>
  intro a h
  have hlt : a.length < A.length := by rw [h]; simp
  have hlt' : (a.length : Int) < (A.length : Int) := by omega
  have hx := IB (c := .dead) .i64 hlt
  have hat : A[a.length] = t := by simp [h]
  rw [hat] at hx
  have w1 : IntKind.i64.wrap ((a.length : Int) + 1) = ((a.length + 1 : Nat) : Int) := by rw [IntWalk.i64_in _ (by omega)]; omega
  have hb : (ctext a).length + (t.text.length + 1) ≤ (ctext A).length := by rw [h, pC]; simp [ctext]
  have s1 : ∀ cst, aH Tryz.prog cst .add 9 (str (ctext a)) (str t.text) = some (str (ctext a ++ t.text)) := fun cst => Fx (by omega)
  have s2 : ∀ cst, aH Tryz.prog cst .add 9 (str (ctext a ++ t.text)) (str [32]) = some (str (ctext (a ++ [t]))) := fun cst => by
   rw [Fx (by simp only [bH, bz]; omega), pC]; simp [ctext]
  have hr := zY a (0, false)
  have e : run (0, false) (a ++ [t]) = stp (run (0, false) a) t := by rw [kc]; rfl
  have step := ih (a ++ [t]) (by rw [h]; simp); rw [e] at step
  generalize run (0, false) a = R at *
  obtain ⟨d, o⟩ := R; simp only at hr; have w2 : IntKind.i64.wrap (d + 1) = d + 1 := IntWalk.i64_in _ (by omega); have w3 : IntKind.i64.wrap (d - 1) = d - 1 := IntWalk.i64_in _ (by omega); rw [bQ (vs' := [.v (.bool false), str (ctext (a ++ [t])), .v (.int .i64 (stp (d, o) t).1), .v (.bool (stp (d, o) t).2), .sl (au A) .dead, .v (.int .i64 (A.length : Int)), .v (.int .i64 ((a ++ [t]).length : Int))]) (st' := X.app [⟨[.sl e1 .dead, .sl e2 .dead, .sl e3 .dead, .sl e4 .dead], []⟩, ⟨[.v (.int .i64 x1), .v (.int .i64 x2), .v (.int .i64 x3)], []⟩] [] [])]
  · exact step
  · rw [bH, bz]
    generalize ((a.length + 1 : Nat) : Int) = j at w1 ⊢; simp only [Tok.c, br] at hx
    by_cases k1 : t.text = [114, 101, 99, 111, 114, 100]
    · simp only [k1] at hx s1 s2
      cases o <;> simp [S5.b0, S5.c, hN, hT, hL, hlt', hx, w1, w2, w3, s1, s2, cN, dS, stp, kwT, k1]
    by_cases k2 : t.text = [103, 108, 111, 98, 97, 108]
    · simp only [k2] at hx s1 s2
      cases o <;> simp [S5.b0, S5.c, hN, hT, hL, hlt', hx, w1, w2, w3, s1, s2, cN, dS, stp, kwT, k2]
    by_cases k3 : t.text = [102, 117, 110]
    · simp only [k3] at hx s1 s2
      cases o <;> simp [S5.b0, S5.c, hN, hT, hL, hlt', hx, w1, w2, w3, s1, s2, cN, dS, stp, kwT, k3]
    by_cases k4 : t.text = [116, 104, 114, 101, 97, 100]
    · simp only [k4] at hx s1 s2
      cases o <;> simp [S5.b0, S5.c, hN, hT, hL, hlt', hx, w1, w2, w3, s1, s2, cN, dS, stp, kwT, k4]
    by_cases k5 : t.text = [123]
    · simp only [k5] at hx s1 s2
      cases o <;> simp [S5.b0, S5.c, hN, hT, hL, hlt', hx, w1, w2, w3, s1, s2, cN, dS, stp, kwT, k5]
    by_cases k6 : t.text = [125]
    · simp only [k6] at hx s1 s2
      cases o <;> simp [S5.b0, S5.c, hN, hT, hL, hlt', hx, w1, w2, w3, s1, s2, cN, dS, stp, kwT, k6]
    by_cases k7 : t.text = [59]
    · simp only [k7] at hx s1 s2
      by_cases k8 : d = 0
      · cases o <;> simp [S5.b0, S5.c, hN, hT, hL, hlt', hx, w1, w2, w3, s1, s2, cN, dS, stp, kwT, k7, k8]
      · cases o <;> simp [S5.b0, S5.c, hN, hT, hL, hlt', hx, w1, w2, w3, s1, s2, cN, dS, stp, kwT, k7, k8]
    · cases o <;> simp [S5.b0, S5.c, hN, hT, hL, hlt', hx, w1, w2, w3, s1, s2, cN, dS, stp, kwT, k1, k2, k3, k4, k5, k6, k7]
theorem tL : ∀ A : List Tok, (ctext A).length = txl A + A.length
 | [] => rfl
 | t :: A => by simp only [ctext, txl, bH, ai, tL A]; omega
theorem DE : ∀ A B : List Tok, txl A ≤ txl (A ++ B)
 | [], B => by simp [txl]
 | t :: A, B => by have := DE A B; simp only [aA, txl]; omega
theorem mg (s1 : ByteArray) (at_ : Int) {w : Prop} (_ : w) (st : St) : E L (.func 5) [.v (.string s1), .v (.int .i64 at_)] st = some (.v (.bool true), st) := by
 obtain ⟨a, rfl⟩ : ∃ l, s1 = bs l := ⟨s1.data.toList, (AA s1).symm⟩
 rw [HH]; obtain ⟨N, T, Lb, hN, hT, hL⟩ := lens3 st
 conv => lhs; rw [← al (st)]
 by_cases hl : 8192 < a.length
 · have hl' : (8192 : Int) < (a.length : Int) := by omega
   simp [S5, hN, hT, hL, oD, dC, hl']
 have hl' : ¬ ((8192 : Int) < (a.length : Int)) := by omega
 have f1 : ∀ X, E L (.func 20) [str a] X = _ := uC (by omega)
 have e26 : ∀ X, E L (.func 26) [str a] X = _ := F9 (by omega)
 rcases AW (l := a) (by omega) with ⟨ts, g, k, x1, q1, r1⟩ | ⟨r1, r2⟩
 · rw [r1] at f1
   obtain ⟨h1, h2⟩ := ve (by omega) x1; rw [h1, h2] at e26; have hc := wH _ _ _ rfl ts x1; have hll := fN ts
   by_cases hlo : at_ < 0
   · simp only [lJ, pgC, sh] at f1 e26
     simp [S5, hN, hT, hL, oD, dC, hl', f1, e26, j6, hlo, aW, cj]
   obtain ⟨n, rfl⟩ : ∃ n : Nat, at_ = (n : Int) := ⟨at_.toNat, by omega⟩
   by_cases hhi : ts.length ≤ n
   · have hhi' : (ts.length : Int) ≤ (n : Int) := by omega
     simp only [lJ, pgC, sh] at f1 e26
     generalize au ts = es at *
     simp [S5, hN, hT, hL, oD, dC, hl', f1, e26, j6, hlo, hhi', vd, hll, aW, cj]
   have hhi' : ¬ ((ts.length : Int) ≤ (n : Int)) := by omega
   obtain ⟨t0, hTk, ht0⟩ := su _ _ _ rfl ts x1
   have hn : n ≤ t0.length := by rw [ht0] at hhi; simp only [bH, ai, aD] at hhi; omega
   have hA : (au ts).take n = au (t0.take n) := by rw [ht0, au, au, ← List.map_take, List.take_append_of_le_length hn]
   have hAl : (t0.take n).length = n := by rw [List.length_take]; omega
   have hsl : fm Tryz.prog 65 (.sl (au ts) .dead) none (some (.v (.int .i64 (n : Int)))) none = some (.sl (au (t0.take n)) .dead) := by
    have hok : dm 5 (au ts) = true := by simp [dm, au, Tok.c, br]
    rw [Hm]
    have hb : bnd (some (.v (.int .i64 (n : Int)))) (au ts).length (au ts).length = some n := by
     show (bif decide ((0 : Int) ≤ (n : Int)) && decide ((n : Int) ≤ ((au ts).length : Int)) then some ((n : Int).toNat) else none) = some n
     rw [hll, decide_eq_true (by omega), decide_eq_true (by omega)]
     rfl
    rw [hb, ag]
    show ((some 0).bind fun l => _) = _
    rw [ag, hok, ← hA]; simp [jG]
   generalize hTA : t0.take n = A at *
   have hsp : t0 = A ++ t0.drop n := by rw [← hTA, List.take_append_drop]
   have hA1 : ∀ t ∈ A, Tk t := fun t ht => hTk t (by rw [hsp]; exact List.mem_append_left _ ht)
   have hB1 : ∀ t ∈ t0.drop n, Tk t := fun t ht => hTk t (by rw [hsp]; exact List.mem_append_right _ ht)
   have ht2 : ts = A ++ (t0.drop n ++ [⟨0, [], 0, adv a (1, 1)⟩]) := by rw [ht0, ← List.append_assoc, ← hsp]
   have hctl := tL A
   have htx : txl A ≤ txl ts := by rw [ht2]; exact DE ..
   have hit := Ch (A := A) (by omega) (by omega) (jX g.gM) (nms g.gls) (om g.gJ) (ot g.ths) 0 0 0 hN hT hL A [] rfl; have hla := fN A; simp only [ctext, run, List.foldl_nil, aD, eB] at hit; rw [hAl] at hit
   by_cases hb : 8192 < (ctext A).length
   · have hb' : (8192 : Int) < ((ctext A).length : Int) := by omega
     simp only [lJ, pgC, sh] at f1 e26
     generalize ctext A = bt at *
     generalize au ts = es at *
     generalize au A = es2 at *
     generalize List.foldl stp (0, false) A = R at *
     simp [S5, hN, hT, hL, oD, dC, hl', f1, e26, j6, hlo, hhi', vd, hll, hla, hAl, hsl, hit, hb', aW, cj]
   have hb' : ¬ ((8192 : Int) < ((ctext A).length : Int)) := by omega
   obtain ⟨c1, c2, c3⟩ := GY (g := g) (k := k) hA1 hB1 (E0 := ⟨0, [], 0, adv a (1, 1)⟩) rfl (by rw [← ht2]; omega) (by rw [← ht2]; exact q1)
   have f2 : ∀ X, E L (.func 20) [str (ctext A)] X = _ := uC (by omega)
   have p2 := ue (by omega) c1
   have w1 : IntKind.i64.wrap (((ctext A).length : Int) + 1) = ((1 + (ctext A).length : Nat) : Int) := by rw [IntWalk.i64_in _ (by omega)]; omega
   cases hr : (run (0, false) A).2 with
   | false =>
    obtain ⟨g', k', c2⟩ := c2 hr; rw [c2] at p2; simp only at p2; rw [p2] at f2; unfold run at hr; simp only [lJ, pgC, sh] at f1 f2 e26
    generalize ctext A = bt at *
    generalize au ts = es at *
    generalize au A = es2 at *
    generalize List.foldl stp (0, false) A = R at *
    rw [hr] at hit; simp [S5, hN, hT, hL, oD, dC, hl', f1, f2, e26, j6, wg, hlo, hhi', vd, hll, hla, hAl, hsl, hit, hb', aW, cj]
   | true =>
    rw [c3 hr] at p2; simp only at p2; rw [p2] at f2; unfold run at hr; simp only [lJ, pgC, sh] at f1 f2 e26
    generalize 1 + (ctext A).length = m at *
    generalize ctext A = bt at *
    generalize au ts = es at *
    generalize au A = es2 at *
    generalize List.foldl stp (0, false) A = R at *
    rw [hr] at hit; simp [S5, hN, hT, hL, oD, dC, hl', f1, f2, e26, j6, wg, hlo, hhi', vd, hll, hla, hAl, hsl, hit, hb', w1, aW, cj]
 · generalize iS a = P1 at *
   obtain ⟨G1, c1, d1⟩ := P1; simp only at r1 r2
   have r3' : ¬ ((c1 : Int) = 0) := by omega
   simp only [lJ, pgC, sh] at f1; simp [S5, hN, hT, hL, oD, dC, hl', f1, j6, r2, r3', aW, cj]
end Go.Proofs.YtlhlijaondmccaaGreatDoor.S
namespace Go.Proofs.YtlhlijaondmccaaGreatDoor.Pure
open Go Go.AM Go.Proofs
theorem mg (s1 : ByteArray) (n : Int) {w : Prop} (h : w) : ∃ k st', evF S.L k (.func 5) [.v (.string s1), .v (.int .i64 n)] st0 = some (.v (.bool true), st') := by
 obtain ⟨k, hk⟩ := Hx (S.mg s1 n h st0); exact ⟨k, st0, hk⟩
end Go.Proofs.YtlhlijaondmccaaGreatDoor.Pure
namespace Go.Proofs.YtlhlijaondmccaaGreatDoor.ud
open Go Go.AM Go.ChangeShapes Go.WideShapes Go.ChangeAt Go.RowKit
open Go.ChangeMaps (open_string shut_string)
theorem lifted (os : Os) (started : os.Started) (H : Type) (enc : TypeId × Value → H) :
 ReturnsInHanded {} Tryz.checked os 5 .any (fun w args => (Rows.parseCutsSpec.pre enc Tryz.prog Tryz.f5 [] false w args ∧ laidMetH Tryz.prog Rows.parseCutsRow.laid w) ∧ sizedMet enc Tryz.prog Tryz.f5 (OpenSpec.ofChange Rows.parseCutsSpec) false w args)
  (Rows.parseCutsSpec.post enc Tryz.prog Tryz.f5 false true false false) := by
 refine tp (C := Tryz.checked) (X := fun w _ => laidMetH Tryz.prog Rows.parseCutsRow.laid w) (fun _ _ _ hh h => h.of_heap hh) own started (by kernel_rfl) Tryz.func5
  (ChangeSpec.witness_shaped (enc := enc) (C := Tryz.checked) (os := os) (X := fun w _ => laidMetH Tryz.prog Rows.parseCutsRow.laid w) false (World.doorLaid Tryz.prog 128 os) #[.string ByteArray.empty, .int .i64 0] 8 rfl (World.shaped_of_RefB (by kernel_rfl) (by kernel_rfl)) (by kernel_rfl) (by kernel_rfl) (by kernel_rfl) (Cj os _)) ?_
 intro W base args ds gs before hval0 hW hL hshape
 have hval : ∀ (j : Nat) t v, Tryz.f5.params[j]? = some t → args[j]? = some v → Value.okWide Tryz.prog W .any base t v := hval0
 have hW' := hW; obtain ⟨p, q, hA0, hV, rfl, hfz, hnd⟩ := hW; have hA : DataW.TrodAll enc Tryz.prog W 0 (fun _ => true) true Tryz.f5.params.toList args.toList ds p := hA0; rw [Tryz.params5] at hA hval; obtain ⟨v0, vs0, d0, ds0, p0, q0, hargs, rfl, rfl, h0, r0⟩ := trodAll_cons hA; obtain ⟨v1, vs1, d1, ds1, p1, q1, rfl, rfl, rfl, h1, r1⟩ := trodAll_cons r0; obtain ⟨rfl, rfl, rfl⟩ := trodAll_nil r1
 obtain rfl : args = #[v0, v1] := by cases args; simp_all
 obtain ⟨rfl, rfl⟩ := trodVars_none hV; obtain ⟨a0, rfl, rfl, rfl, y0⟩ := open_string Tryz.underlying9 (hval 0 9 v0 rfl rfl) h0; obtain ⟨a1, rfl, rfl, rfl, w1⟩ := open_int Tryz.underlying3 (hval 1 3 v1 rfl rfl) h1; clear hA0 hval0; obtain ⟨gv, hgv, hgi⟩ := G5 hshape hL; obtain ⟨kf, st', hev⟩ := Pure.mg a0 a1 w1
 refine (AK (xs := #[.string a0, .int .i64 a1]) (S.ok hgv) hev hgi rfl ?_).mono fun e W' ⟨he, bel⟩ => ?_
 · intro i x p hx hp
   match i, hx, hp with
   | 0, hx, hp => cases hx; cases hp; exact Fp _ _ _
   | 1, hx, hp => cases hx; cases hp; exact Fm _ _ _ _
   | i + 2, hx, hp => simp at hx
 subst he; exact ⟨_, rfl, _, _, _, [], _, [], hW', trodAll_mk1 (shut_bool Tryz.underlying4 _), (trodAll_cons_mk (shut_string Tryz.underlying9 y0) (trodAll_cons_mk (shut_int Tryz.underlying3 w1) trodAll_mk0)), rfl, bel.frame _, fun h => by cases h⟩
theorem over : Rows.parseCutsRow.holds Tryz.pinned (OpenSpec.ofChange Rows.parseCutsSpec) :=
 OpenClaim.holds_of_wide 5 Tryz.f5 rfl rfl rfl rfl rfl rfl rfl ⟨rfl, rfl, rfl, rfl, rfl⟩ rfl rfl rfl rfl rfl (by kernel_rfl) Tryz.func5 (by kernel_rfl)
  (of_decide_eq_true (by kernel_rfl)) (by unfold Func.isWrapper; first | (rw [if_pos (by decide +kernel)]; kernel_rfl) | (rw [if_neg (by decide +kernel)]; exact ⟨rfl, rfl⟩))
  (fun os started H enc _ => lifted os started H enc)
theorem HM : Rows.ParseCutsCardSaid :=
 Claim7.holds_tied_plain_at .later [] [.data, .data, .data, .sentinel, .sentinel] true (true, "4b081b2d0e68a4549e9a20eea754eccd794c0f4fa15186553da4b61523f2fafe") true
  over (fun _ h => by cases h) (by kernel_rfl) (fun _ h => by cases h) parseCuts_row_tie rfl ⟨rfl, rfl⟩ (by kernel_rfl) rfl
  (fun f fn hf hfn => by
   obtain rfl : f = 5 := Option.some.inj ((show Tryz.prog.funcNamed "padlock/padlocklaw05.ParseCuts" = some 5 by kernel_rfl).symm.trans hf) |>.symm
   obtain rfl : fn = Tryz.f5 := (Option.some.inj (Tryz.func5.symm.trans hfn)).symm
   exact ⟨by kernel_rfl, fun j t ht => by
    rw [Tryz.params5] at ht
    have hm : t ∈ [9, 3] := by simpa using Array.mem_of_getElem? ht
    have hall : ([9, 3].all fun u => !Tryz.prog.wantsStandIn u) = true := by kernel_rfl
    exact (show Tryz.prog.wantsStandIn t = false by simpa using dH.1 hall t hm)⟩)
  (by kernel_rfl)
#print axioms HM
end Go.Proofs.YtlhlijaondmccaaGreatDoor.ud
namespace Go.Proofs.YtlhlijaondmccaaGreatDoor
theorem parseCuts_holds : Rows.ParseCutsCardSaid := ud.HM
end Go.Proofs.YtlhlijaondmccaaGreatDoor
