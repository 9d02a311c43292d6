/- Part 5 of the proof of a law of the parser, its names made short by a program. No condition. -/
import Derived.Test.YtlhlijaondmccaaDoorB4
set_option linter.all false
set_option maxRecDepth 100000
set_option maxHeartbeats 4000000
open _root_.Bool renaming and_eq_true → ao, and_self → bq, and_true → bL, false_eq_true → ab, not_false → ba, not_true → bA, true_and → bB
open _root_.Int renaming cast_ofNat_Int → aa, natCast_zero → ic
open _root_.List renaming all_cons → bC, all_nil → cr, cons_append → aw, drop_nil → cf, drop_succ_cons → aM, drop_zero → bm, getD_cons_succ → aQ, getD_cons_zero → aR, getElem?_cons_succ → az, getElem?_cons_zero → aC, isPrefixOf → ij, length_append → bM, length_cons → al, length_drop → fY, length_nil → aF, length_singleton → bG, map_cons → aX, map_nil → aS, mem_cons_of_mem → bZ, mem_cons_self → bH, modify_succ_cons → aN, modify_zero_cons → aO, nil_append → aZ, take_left → bK, take_nil → bR, take_succ_cons → aA, take_zero → bu, toList_toArray → aU
open _root_.Nat renaming add_zero → bz, beq → ai, ble → dr, blt → fJ, reduceAdd → bS, zero_add → bf
open _root_.Option renaming bind_none → bg, bind_some → ag, map_some → aP
open _root_.Or renaming inl → cL, inr → cG
namespace Go.Proofs.YtlhlijaondmccaaDoor.S
open Go Go.AM Go.Proofs
theorem Ak {c : UInt8} : qu c = true ↔ c = 32 ∨ c = 9 ∨ c = 13 ∨ c = 10 := by simp [qu]
theorem xu {c : UInt8} (h : qu c = true) : eo c = false ∧ c ≠ 35 ∧ c ≠ 47 ∧ c ≠ 61 := by
 rcases Ak.1 h with rfl | rfl | rfl | rfl <;> decide
theorem oY {q : UInt8 → Bool} {c : UInt8} (hc : q c = false) : ∀ (l R : List UInt8), cJ q (l ++ c :: R) = cJ q l
 | [], R => by rw [aZ, fW, if_neg (by rw [hc]; simp)]; rfl
 | a :: l, R => by rw [aw, fW, fW, oY hc l R]
theorem o5 {l R : List UInt8} {n : Nat} (c : UInt8) (h : n ≤ l.length) : (l ++ c :: R).take n = l.take n := List.take_append_of_le_length h
theorem oR {x y a : UInt8} {l R : List UInt8} {c : UInt8} (hc : c ≠ y) : ([x, y] : List UInt8).isPrefixOf (a :: l ++ c :: R) = ([x, y] : List UInt8).isPrefixOf (a :: l) := by
 cases l with
 | nil => simp [ij, hc.symm]
 | cons b l => simp [ij]
theorem zu {a c : UInt8} {l R : List UInt8} (hc : c ≠ 61) : eU (a :: l ++ c :: R) = eU (a :: l) := by
 unfold eU; rw [oR hc, oR hc, oR hc]
 rfl
theorem BM {a c : UInt8} {l R : List UInt8} (hc : qu c = true) : dN (a :: l ++ c :: R) = dN (a :: l) := by
 obtain ⟨h1, h2, h3, h4⟩ := xu hc
 cases ha : eo a with
 | true =>
  rw [aw, ib ha, ib ha, ← aw, oY h1, o5 _ (kc _ _)]
 | false =>
  by_cases hq : a = 35
  · subst hq
    rw [aw, gG, gG, oY h1, o5 _ (kc _ _)]
  · rw [aw, gk ha hq, gk ha hq, ← aw, zu h4]
theorem Cp {a : UInt8} {l R : List UInt8} : eV (a :: l ++ 10 :: R) = eV (a :: l) := by
 have hp := oR (x := 47) (y := 47) (a := a) (l := l) (R := R) (c := 10) (by decide); have hs := oY (q := nlB) (c := 10) (by decide) (a :: l) R; rw [aw] at hp hs ⊢; rw [eV, eV, hp, hs]
theorem pP {q : UInt8 → Bool} : ∀ (l : List UInt8), cJ q (l.take (cJ q l)) = cJ q l
 | [] => rfl
 | a :: l => by
  rw [fW]; split
  · rename_i h
    rw [aA, fW, if_pos h, pP l]
  · rfl
theorem mQ {α : Type} (l : List α) (n : Nat) : (l.take n).take n = l.take n := by rw [List.take_take, Nat.min_self]
theorem pL {x y : UInt8} {l : List UInt8} (h : ([x, y] : List UInt8).isPrefixOf l = true) : ∃ r, l = x :: y :: r := by
 obtain ⟨r, hr⟩ := List.isPrefixOf_iff_prefix.1 h; exact ⟨r, hr.symm⟩
theorem rE {x y a : UInt8} : ([x, y] : List UInt8).isPrefixOf [a] = false := by simp [ij]
theorem wN {a : UInt8} {l : List UInt8} (h : eU (a :: l) ≠ 0) : eU ((a :: l).take (eU (a :: l))) = eU (a :: l) := by
 by_cases hp : (([61, 61] : List UInt8).isPrefixOf (a :: l) || ([33, 61] : List UInt8).isPrefixOf (a :: l) || ([60, 61] : List UInt8).isPrefixOf (a :: l)) = true
 · have e : eU (a :: l) = 2 := by rw [eU, if_pos hp]
   rw [e]; simp only [Bool.or_eq_true] at hp
   rcases hp with (hp | hp) | hp <;>
   · obtain ⟨r, hr⟩ := pL hp
     rw [hr]; simp [eU, ij]
 · have e : eU (a :: l) = if jv.contains a then 1 else 0 := by rw [eU, if_neg hp]
   by_cases hs : jv.contains a = true
   · rw [if_pos hs] at e
     rw [e, aA, bu, eU, rE, rE, rE]; simpa using hs
   · rw [if_neg hs] at e
     exact absurd e h
theorem zN {a : UInt8} {l : List UInt8} (h : (dN (a :: l)).2.2.2 = true) : dN ((a :: l).take (dN (a :: l)).2.1) = dN (a :: l) := by
 cases ha : eo a with
 | true =>
  have hs := vu (l := l) ha
  have e : (dN (a :: l)).2.1 = cJ eo (a :: l) := by rw [ib ha]
  obtain ⟨n, hn⟩ : ∃ n, cJ eo (a :: l) = n + 1 := ⟨cJ eo (a :: l) - 1, by omega⟩
  have ht : (a :: l).take (cJ eo (a :: l)) = a :: l.take n := by rw [hn, aA]
  have hsp := pP (q := eo) (a :: l); have htt := mQ (a :: l) (cJ eo (a :: l)); rw [ht] at hsp htt; rw [e, ht, ib ha, ib ha, hsp, htt, ht]
 | false =>
  by_cases hq : a = 35
  · subst hq
    have e : (dN (35 :: l)).2.1 = cJ eo l + 1 := by rw [gG]
    rw [e, aA, gG, gG, pP, mQ]
  · have e : (dN (a :: l)).2.1 = eU (a :: l) := by rw [gk ha hq]
    have h0 : eU (a :: l) ≠ 0 := by
     rw [gk ha hq] at h; simpa using h
    have hs := wN h0
    obtain ⟨n, hn⟩ : ∃ n, eU (a :: l) = n + 1 := ⟨eU (a :: l) - 1, by omega⟩
    have ht : (a :: l).take (eU (a :: l)) = a :: l.take n := by rw [hn, aA]
    rw [ht] at hs; rw [e, ht, gk ha hq, gk ha hq, hs]
theorem yK {a : UInt8} {l : List UInt8} {n : Nat} (h : eV (a :: l) = 0) : eV (a :: l.take n) = 0 := by
 have hne : ¬ (([47, 47] : List UInt8).isPrefixOf (a :: l) = true) := fun hn => by
  rw [eV, if_pos hn] at h; have := u7 hn; omega
 rw [eV, if_neg hne] at h; rw [eV, if_neg ?_]
 · exact h
 · intro hn
   obtain ⟨r, hr⟩ := pL hn; apply hne
   cases l with
   | nil => simp at hr
   | cons b l =>
    cases n with
    | zero => simp at hr
    | succ n =>
     rw [aA] at hr; obtain ⟨rfl, h2⟩ := List.cons.inj hr; obtain ⟨rfl, h3⟩ := List.cons.inj h2; simp [ij]
structure Tk (t : Tok) : Prop where
 ex : ∃ a l, t.text = a :: l ∧ eV (a :: l) = 0 ∧ dN (a :: l) = (t.kind, (a :: l).length, t.n, true)
theorem Fo {a : UInt8} {l : List UInt8} (hb : eV (a :: l) = 0) (h : (dN (a :: l)).2.2.2 = true) (p : Nat × Nat) : Tk (kF (a :: l) p) := by
 have hpos := ke h
 obtain ⟨n, hn⟩ : ∃ n, (dN (a :: l)).2.1 = n + 1 := ⟨(dN (a :: l)).2.1 - 1, by omega⟩
 have hle := nr a l; have ht := zN h; refine ⟨a, l.take n, by unfold kF; rw [hn, aA], yK hb, ?_⟩; rw [hn, aA] at ht
 have hlen : (a :: l.take n).length = (dN (a :: l)).2.1 := by
  rw [hn]; simp only [al, List.length_take] at hle ⊢; omega
 rw [ht, hlen]; unfold kF; rw [← h]
theorem rn : ∀ (k : Nat) (rest : List UInt8) (p : Nat × Nat), rest.length = k → ∀ ts, eP rest p = .ok ts → ∃ t0, (∀ t ∈ t0, Tk t) ∧ ts = t0 ++ [⟨0, [], 0, adv rest p⟩] := by
 intro k
 induction k using Nat.strongRecOn with
 | ind k ih =>
  intro rest p hk ts h
  cases rest with
  | nil =>
   rw [mE] at h; obtain rfl := LR.ok.inj h; exact ⟨[], by simp, rfl⟩
  | cons c l =>
   by_cases hb : eV (c :: l) = 0
   · cases ht : (dN (c :: l)).2.2.2 with
     | false => rw [kY hb ht] at h; cases h
     | true =>
      rw [kZ hb ht] at h; have hpos := ke ht; have hdl : ((c :: l).drop (dN (c :: l)).2.1).length = (c :: l).length - (dN (c :: l)).2.1 := fY ..
      cases hr : eP ((c :: l).drop (dN (c :: l)).2.1) (adv ((c :: l).take (dN (c :: l)).2.1) p) with
      | err q => rw [hr] at h; cases h
      | ok ts' =>
       rw [hr] at h; obtain rfl := LR.ok.inj h; obtain ⟨t0, h1, h2⟩ := ih _ (by simp only [al] at hdl hk; omega) _ _ rfl ts' hr; refine ⟨kF (c :: l) p :: t0, ?_, ?_⟩
       · intro t hm
         rcases List.mem_cons.1 hm with rfl | hm
         · exact Fo hb ht p
         · exact h1 t hm
       · rw [h2, aw, ← iK, List.take_append_drop]
   · rw [im hb] at h
     have hdl : ((c :: l).drop (eV (c :: l))).length = (c :: l).length - eV (c :: l) := fY ..; obtain ⟨t0, h1, h2⟩ := ih _ (by simp only [al] at hdl hk; omega) _ _ rfl ts h; exact ⟨t0, h1, by rw [h2, ← iK, List.take_append_drop]⟩
theorem A0 {c : UInt8} (hc : qu c = true) (R : List UInt8) (p : Nat × Nat) : eP (c :: R) p = eP R (adv [c] p) := by
 have hb : eV (c :: R) = 1 := by
  rw [eV, if_neg, if_pos hc]; intro hn; obtain ⟨r, hr⟩ := pL hn; exact (xu hc).2.2.1 (List.cons.inj hr).1
 rw [im (by omega), hb]
 rfl
def Tok.bare (t : Tok) : Nat × List UInt8 × Nat := (t.kind, t.text, t.n)
def bk : List Tok → Nat → List Tok
 | [], k => [⟨0, [], 0, (k + 1, 1)⟩]
 | t :: r, k => ⟨t.kind, t.text, t.n, (k, 1)⟩ :: bk r (k + 1)
theorem tz : ∀ (t0 : List Tok) (k : Nat), (bk t0 k).length = t0.length + 1
 | [], k => rfl
 | t :: r, k => by rw [bk, al, tz r]; rfl
theorem xZ {l : List UInt8} {ts : List Tok} (hl : l.length ≤ 8192) (h : eP l (1, 1) = .ok ts) : uY l = ts ∧ pD l = (0, 0, 0) := by
 rw [uY, pD, if_neg (by omega), if_neg (by omega), h]; exact ⟨rfl, rfl⟩
theorem uZ {l : List UInt8} {q : Nat × Nat} (hl : l.length ≤ 8192) (h : eP l (1, 1) = .err q) : uY l = [] ∧ pD l = (3, q.1, q.2) := by
 rw [uY, pD, if_neg (by omega), if_neg (by omega), h]; exact ⟨rfl, rfl⟩
def down (d : Nat) (t : Tok) : Tok := { t with p := (t.p.1 + d, t.p.2) }
def LR.down (d : Nat) : LR → LR
 | .ok ts => .ok (ts.map (S.down d))
 | .err q => .err (q.1 + d, q.2)
def LR.pre (a : List Tok) : LR → LR
 | .ok ts => .ok (a ++ ts)
 | .err q => .err q
theorem xy {a b : List UInt8} {n : Nat} (h : n ≤ a.length) : (a ++ 10 :: b).drop n = a.drop n ++ 10 :: b := List.drop_append_of_le_length h
theorem ng (b : List UInt8) : ∀ (k : Nat) (a : List UInt8) (p : Nat × Nat), a.length = k →
 eP (a ++ 10 :: b) p = match eP a p with | .err q => .err q | .ok ts => (eP b (adv (a ++ [10]) p)).pre ts.dropLast := by
 intro k
 induction k using Nat.strongRecOn with
 | ind k ih =>
  intro a p hk
  cases a with
  | nil =>
   rw [mE, aZ, A0 (by decide)]
   show _ = (eP b (adv ([] ++ [10]) p)).pre []
   rw [aZ]
   cases eP b (adv [10] p) <;> rfl
  | cons c l =>
   have hbn := Cp (a := c) (l := l) (R := b); have htn := BM (a := c) (l := l) (R := b) (c := 10) (by decide)
   by_cases hb : eV (c :: l) = 0
   · cases ht : (dN (c :: l)).2.2.2 with
     | false =>
      rw [aw] at hbn htn ⊢; rw [kY (by rw [hbn]; exact hb) (by rw [htn]; exact ht), kY hb ht]
     | true =>
      have hpos := ke ht; have hle := nr c l; have hdl : ((c :: l).drop (dN (c :: l)).2.1).length = (c :: l).length - (dN (c :: l)).2.1 := fY ..; have hdn := xy (b := b) hle; have htk := o5 (R := b) 10 hle; rw [aw] at hbn htn hdn htk ⊢; rw [kZ (by rw [hbn]; exact hb) (by rw [htn]; exact ht), kZ hb ht, kF, kF, htn, hdn, htk, ih _ (by simp only [al] at hdl hk; omega) _ _ rfl]
      have ea : adv ((c :: l).drop (dN (c :: l)).2.1 ++ [10]) (adv ((c :: l).take (dN (c :: l)).2.1) p) = adv (c :: l ++ [10]) p := by
       rw [← iK, ← List.append_assoc, List.take_append_drop]
      rw [ea]
      cases hr : eP ((c :: l).drop (dN (c :: l)).2.1) (adv ((c :: l).take (dN (c :: l)).2.1) p) with
      | err q => rfl
      | ok ts =>
       obtain ⟨t0, _, rfl⟩ := rn _ _ _ rfl ts hr; simp only [LR.cons]; rw [← aw, List.dropLast_concat, List.dropLast_concat]
       cases eP b (adv (c :: l ++ [10]) p) <;> rfl
   · have hle := mX (c :: l)
     have hdl : ((c :: l).drop (eV (c :: l))).length = (c :: l).length - eV (c :: l) := fY ..; have hdn := xy (b := b) hle; have htk := o5 (R := b) 10 hle; rw [im (by rw [hbn]; exact hb), im hb, hbn, hdn, htk, ih _ (by simp only [al] at hdl hk; omega) _ _ rfl]
     have ea : adv ((c :: l).drop (eV (c :: l)) ++ [10]) (adv ((c :: l).take (eV (c :: l))) p) = adv (c :: l ++ [10]) p := by
      rw [← iK, ← List.append_assoc, List.take_append_drop]
     rw [ea]
theorem zM {c : UInt8} {l : List UInt8} (h : (dN (c :: l)).2.2.2 = true) : (dN (c :: l)).1 ≠ 0 := by
 cases ha : eo c with
 | true =>
  rw [ib ha]
  show (kH _).1 ≠ 0
  unfold kH; split
  · exact Nat.succ_ne_zero _
  · split
    · exact Nat.succ_ne_zero _
    · exact Nat.succ_ne_zero _
 | false =>
  by_cases hc : c = 35
  · subst hc; rw [gG]; exact Nat.succ_ne_zero _
  · rw [gk ha hc]; exact Nat.succ_ne_zero _
abbrev int (n : Int) : PV := .v (.int .i64 n)
abbrev mO (s : ByteArray) : PV := .v (.string s)
inductive X where
 | mk (op bin n kd : Int) (rc name : ByteArray) (kids : List X) (line col : Int)
def X.op : X → Int
 | ⟨a, _, _, _, _, _, _, _, _⟩ => a
def X.bin : X → Int
 | ⟨_, a, _, _, _, _, _, _, _⟩ => a
def X.n : X → Int
 | ⟨_, _, a, _, _, _, _, _, _⟩ => a
def X.kd : X → Int
 | ⟨_, _, _, a, _, _, _, _, _⟩ => a
def X.rc : X → ByteArray
 | ⟨_, _, _, _, a, _, _, _, _⟩ => a
def X.name : X → ByteArray
 | ⟨_, _, _, _, _, a, _, _, _⟩ => a
def X.kids : X → List X
 | ⟨_, _, _, _, _, _, a, _, _⟩ => a
def X.line : X → Int
 | ⟨_, _, _, _, _, _, _, a, _⟩ => a
def X.col : X → Int
 | ⟨_, _, _, _, _, _, _, _, a⟩ => a
structure Pl where
 mk ::
 op : Int
 base : ByteArray
 field : ByteArray
 index : X
 line : Int
 col : Int
structure Rt where
 mk ::
 op : Int
 e : X
 place : Pl
 name : ByteArray
 line : Int
 col : Int
inductive S where
 | mk (op : Int) (name : ByteArray) (right : Rt) (place : Pl) (e : X) (n : Int) (args : List X) (body : List S) (els : List S) (line : Int) (col : Int)
def S.op : S → Int
 | ⟨a, _, _, _, _, _, _, _, _, _, _⟩ => a
def S.name : S → ByteArray
 | ⟨_, a, _, _, _, _, _, _, _, _, _⟩ => a
def S.right : S → Rt
 | ⟨_, _, a, _, _, _, _, _, _, _, _⟩ => a
def S.place : S → Pl
 | ⟨_, _, _, a, _, _, _, _, _, _, _⟩ => a
def S.e : S → X
 | ⟨_, _, _, _, a, _, _, _, _, _, _⟩ => a
def S.n : S → Int
 | ⟨_, _, _, _, _, a, _, _, _, _, _⟩ => a
def S.args : S → List X
 | ⟨_, _, _, _, _, _, a, _, _, _, _⟩ => a
def S.body : S → List S
 | ⟨_, _, _, _, _, _, _, a, _, _, _⟩ => a
def S.els : S → List S
 | ⟨_, _, _, _, _, _, _, _, a, _, _⟩ => a
def S.line : S → Int
 | ⟨_, _, _, _, _, _, _, _, _, a, _⟩ => a
def S.col : S → Int
 | ⟨_, _, _, _, _, _, _, _, _, _, a⟩ => a
mutual
def X.enc : X → List PV
 | ⟨op, bin, n, kd, rc, name, kids, line, col⟩ => [int op, int bin, .v (.int .u64 n), int kd, mO rc, mO name, .sl (et kids) .dead, int line, int col]
def et : List X → List (List PV)
 | [] => []
 | x :: xs => x.enc :: et xs
end
def Pl.enc (p : Pl) : List PV := [int p.op, mO p.base, mO p.field] ++ p.index.enc ++ [int p.line, int p.col]
def Rt.enc (p : Rt) : List PV := [int p.op] ++ p.e.enc ++ p.place.enc ++ [mO p.name, int p.line, int p.col]
mutual
def S.enc : S → List PV
 | ⟨op, name, right, place, e, n, args, body, els, line, col⟩ => [int op, mO name] ++ right.enc ++ place.enc ++ e.enc ++ [int n, .sl (et args) .dead, .sl (fg body) .dead, .sl (fg els) .dead, int line, int col]
def fg : List S → List (List PV)
 | [] => []
 | x :: xs => x.enc :: fg xs
end
theorem X.cO (x : X) : x.enc = [int x.op, int x.bin, .v (.int .u64 x.n), int x.kd, mO x.rc, mO x.name, .sl (et x.kids) .dead, int x.line, int x.col] := by cases x; simp only [X.enc]; rfl
theorem S.cO (x : S) : x.enc = [int x.op, mO x.name] ++ x.right.enc ++ x.place.enc ++ x.e.enc ++ [int x.n, .sl (et x.args) .dead, .sl (fg x.body) .dead, .sl (fg x.els) .dead, int x.line, int x.col] := by cases x; simp only [S.enc]; rfl
theorem mw : ∀ xs, et xs = xs.map X.enc
 | [] => by simp [et]
 | x :: xs => by simp [et, mw xs]
theorem np : ∀ xs, fg xs = xs.map S.enc
 | [] => by simp [fg]
 | x :: xs => by simp [fg, np xs]
theorem ja (xs : List X) : (et xs).length = xs.length := by rw [mw, List.length_map]
theorem lQ (xs : List S) : (fg xs).length = xs.length := by rw [np, List.length_map]
theorem X.len (x : X) : x.enc.length = 9 := by simp only [X.cO]; rfl
theorem X.whole (x : X) : AM.part true 9 0 x.enc = some (.agg x.enc) := by simp only [X.cO]; rfl
theorem X.okc (x : X) : aH x.enc = true := by simp only [X.cO]; rfl
theorem X.can (x : X) : ah (.agg x.enc) = .agg x.enc := by simp only [X.cO]; rfl
theorem X.kJ (x : X) : x.enc.map bO = x.enc := by simp only [X.cO]; rfl
theorem X.pl (x : X) : cy x.enc = some x.enc := by simp only [X.cO]; rfl
theorem X.sf4 (x : X) (m : Nat) : x.enc.all (sf true m 4) = true := by simp only [X.cO]; rfl
theorem X.fl (x : X) : x.enc.all dM = true := by simp only [X.cO]; rfl
theorem X.FH (x : X) : AM.part false 1 0 x.enc = some (int x.op) := by simp only [X.cO]; rfl
theorem X.FI (x : X) : AM.part false 1 1 x.enc = some (int x.bin) := by simp only [X.cO]; rfl
theorem X.FJ (x : X) : AM.part false 1 2 x.enc = some (.v (.int .u64 x.n)) := by simp only [X.cO]; rfl
theorem X.FK (x : X) : AM.part false 1 3 x.enc = some (int x.kd) := by simp only [X.cO]; rfl
theorem X.FL (x : X) : AM.part false 1 4 x.enc = some (mO x.rc) := by simp only [X.cO]; rfl
theorem X.FM (x : X) : AM.part false 1 5 x.enc = some (mO x.name) := by simp only [X.cO]; rfl
theorem X.FN (x : X) : AM.part false 1 6 x.enc = some (.sl (et x.kids) .dead) := by simp only [X.cO]; rfl
theorem Pl.len (x : Pl) : x.enc.length = 14 := by simp only [Pl.enc, X.cO]; rfl
theorem Pl.okc (x : Pl) : aH x.enc = true := by simp only [Pl.enc, X.cO]; rfl
theorem Pl.kJ (x : Pl) : x.enc.map bO = x.enc := by simp only [Pl.enc, X.cO]; rfl
theorem Pl.fl (x : Pl) : x.enc.all dM = true := by simp only [Pl.enc, X.cO]; rfl
theorem Rt.len (x : Rt) : x.enc.length = 27 := by simp only [Rt.enc, Pl.enc, X.cO]; rfl
theorem Rt.okc (x : Rt) : aH x.enc = true := by simp only [Rt.enc, Pl.enc, X.cO]; rfl
theorem Rt.kJ (x : Rt) : x.enc.map bO = x.enc := by simp only [Rt.enc, Pl.enc, X.cO]; rfl
theorem Rt.fl (x : Rt) : x.enc.all dM = true := by simp only [Rt.enc, Pl.enc, X.cO]; rfl
theorem S.len (x : S) : x.enc.length = 58 := by simp only [S.cO, Rt.enc, Pl.enc, X.cO]; rfl
theorem S.okc (x : S) : aH x.enc = true := by simp only [S.cO, Rt.enc, Pl.enc, X.cO]; rfl
theorem S.can (x : S) : ah (.agg x.enc) = .agg x.enc := by simp only [S.cO, Rt.enc, Pl.enc, X.cO]; rfl
theorem S.kJ (x : S) : x.enc.map bO = x.enc := by simp only [S.cO, Rt.enc, Pl.enc, X.cO]; rfl
theorem S.pl (x : S) : cy x.enc = some x.enc := by simp only [S.cO, Rt.enc, Pl.enc, X.cO]; rfl
theorem S.fl (x : S) : x.enc.all dM = true := by simp only [S.cO, Rt.enc, Pl.enc, X.cO]; rfl
mutual
def X.sz : X → Nat
 | ⟨_, _, _, _, _, _, ks, _, _⟩ => szs ks + 1
def szs : List X → Nat
 | [] => 0
 | x :: xs => x.sz + szs xs
end
theorem yo : ∀ xs : List X, xs.length ≤ szs xs
 | [] => by simp [szs]
 | x :: xs => by
  have := yo xs
  have : 1 ≤ x.sz := by cases x; simp [X.sz]
  simp [szs]; omega
theorem yp {x : X} : ∀ {xs : List X}, x ∈ xs → x.sz ≤ szs xs
 | [], h => by cases h
 | y :: ys, h => by
  rcases List.mem_cons.1 h with rfl | h
  · simp [szs]
  · have := yp h; simp [szs]; omega
theorem X.vC (x : X) : x.sz = szs x.kids + 1 := by cases x; rfl
theorem Au (p : List X) (x : X) (xs : List X) : (et (p ++ x :: xs))[p.length]? = some x.enc := by
 rw [mw]; simp
theorem inR {α : Type} (p : List α) (x : α) (xs : List α) : ej (p.length : Int) (p ++ x :: xs).length = true := by
 simp [ej]; omega
theorem uQ : ∀ (pre old cs : List PV), old.length = cs.length → laid (pre ++ old) pre.length cs = pre ++ cs
 | pre, [], [], _ => rfl
 | pre, o :: old, c :: cs, h => by
  have : (pre ++ o :: old).set pre.length c = (pre ++ [c]) ++ old := by simp
  rw [laid, this, show pre.length + 1 = (pre ++ [c]).length by simp, uQ (pre ++ [c]) old cs (by simpa using h)]; simp
theorem je (old cs : List PV) (h : old.length = cs.length) : laid old 0 cs = cs := uQ [] old cs h
mutual
def S.sz : S → Nat
 | ⟨_, _, r, p, e, _, xs, b, c, _, _⟩ => r.e.sz + r.place.index.sz + p.index.sz + e.sz + szs xs + gS b + gS c + 1
def gS : List S → Nat
 | [] => 0
 | x :: xs => x.sz + gS xs
end
theorem S.vC (x : S) : x.sz = x.right.e.sz + x.right.place.index.sz + x.place.index.sz + x.e.sz + szs x.args + gS x.body + gS x.els + 1 := by cases x; rfl
end Go.Proofs.YtlhlijaondmccaaDoor.S
namespace Go.Proofs.YtlhlijaondmccaaDoor.S
open Go Go.AM Go.Proofs
attribute [local simp] da cD bT bU cE fc fw ef dj ec dh ed di fv bV gZ dW hI gV gO AM.ae aQ aR ag bg aP aD AM.onG fP cc eB Ex.bh cond_true cond_false cW cV cU cT cS cY cR cZ cX eg dm dp cC cz dV dZ oO pE db nq oa pz AM.dt AM.cellsOf AM.an bQ AD wo beq_true cM al aF bf bz bS decide_true decide_false bL bB bq bA ba aC az aZ aw xI AN AL dc de uN ft aA bK bu bR
theorem C8 (P : Program) (c : Bool) (t : TypeId) (a b : Int) (h : 0 ≤ b) (h2 : b ≤ 64) : aW P c .shr t (.v (.int .u64 a)) (.v (.int .u64 b)) = some (.v (.int .u64 (a.fdiv (2 ^ b.toNat)))) := by
 show eW (eR P (Op.shift .shr .u64 a .u64 b)) = _
 have : ¬ b < 0 := by omega
 have h3 : min b.toNat IntKind.u64.bits = b.toNat := by simp [IntKind.bits]; omega
 simp only [Op.shift, this, if_false, h3]; exact fe P _ rfl
def by8 (n : Int) (i : Nat) : UInt8 := UInt8.ofNat (IntKind.u8.wrap ((IntKind.u64.wrap n).fdiv (2 ^ i))).toNat
def kN (n : Int) : ByteArray := ⟨#[UInt8.ofNat (IntKind.u8.wrap (IntKind.u64.wrap n)).toNat, by8 n 8, by8 n 16, by8 n 24, by8 n 32, by8 n 40, by8 n 48, by8 n 56]⟩
theorem Db (n : Int) (st : St) : E L (.func 27) [int n] st = some (mO (kN n), st) := by
 obtain ⟨s, rfl⟩ : ∃ s : St, st = s.app [] [] [] := ⟨st, (ak st).symm⟩
 rw [D3]; simp [S27, gf, yR, C8, aY, jt, cv, fT, cellsOf, laid, cy, eL, chunks, yS, bytesOf, AM.byteOfCell]
 rfl
def strs (l : List ByteArray) : List (List PV) := l.map fun b => [mO b]
theorem mP (l : List ByteArray) : (strs l).length = l.length := List.length_map ..
theorem yn (l : List ByteArray) : cM 1 (strs l) = true := jf (fun b => [mO b]) (fun _ => rfl) l
theorem BH (l m : List ByteArray) : strs l ++ strs m = strs (l ++ m) := (List.map_append ..).symm
def w64 (n : Int) : Int := IntKind.i64.wrap n
mutual
def X.text : X → List ByteArray
 | ⟨op, bin, n, kd, rc, name, ks, _, _⟩ => [⟨#[101, 120, 112, 114]⟩, kN op, kN bin, kN (w64 n), kN kd, rc, name, kN ks.length] ++ iI ks
def iI : List X → List ByteArray
 | [] => []
 | x :: xs => x.text ++ iI xs
end
theorem X.qK (x : X) : x.text = [⟨#[101, 120, 112, 114]⟩, kN x.op, kN x.bin, kN (w64 x.n), kN x.kd, x.rc, x.name, kN x.kids.length] ++ iI x.kids := by
 cases x; simp only [X.text]; rfl
mutual
theorem X.rS : ∀ x : X, x.text.length = 8 * x.sz
 | ⟨op, bin, n, kd, rc, name, ks, _, _⟩ => by
  have := rX ks
  simp [X.text, X.sz, this]; omega
theorem rX : ∀ xs : List X, (iI xs).length = 8 * szs xs
 | [] => by simp [iI, szs]
 | x :: xs => by
  have := rX xs; have := X.rS x
  simp [iI, szs, *]; omega
end
theorem qJ : ∀ xs ys : List X, szs (xs ++ ys) = szs xs + szs ys
 | [], ys => by simp [szs]
 | x :: xs, ys => by simp [szs, qJ xs ys]; omega
theorem sB (s : St) (b : Blk) (xs0 : List X) (hb : szs xs0 ≤ 1000000) (hbk : b.cs.all (sf true (s.stk.length + 1) 4) = true) : ∀ (xs p : List X) (acc : List ByteArray) (c : Cap) (tk : List (Nat × Nat)), xs0 = p ++ xs → acc.length = 8 + 8 * szs p → Own s tk c (strs acc).length 1 →
 (∀ x ∈ xs, ∀ (st : St), E L (.func 12) [.agg x.enc] st = some (.sl (strs x.text) .dead, st)) →
 ∃ vs c' tk', itE (S12.b0 (E L) itE s.stk.length s.lp.length) [.sl (strs acc) c, .sl (et xs0) .dead, int xs0.length, int p.length] (s.app [b] tk []) =
  some (.exit 0, .sl (strs (acc ++ iI xs)) c' :: vs, s.app [b] tk' [])
 | [], p, acc, c, tk, hx, ha, ho, hf => by
  have e : xs0.length = p.length := by rw [hx]; simp
  refine ⟨[.sl (et xs0) .dead, int xs0.length, int p.length], c, tk, ?_⟩; rw [nT]; simp [S12.b0, e, iI, ho.sfc, hbk]
 | x :: xs, p, acc, c, tk, hx, ha, ho, hf => by
  have hlt : (p.length : Int) < (xs0.length : Int) := by rw [hx]; simp; omega
  have g1 : (et xs0)[p.length]? = some x.enc := by rw [hx]; exact Au p x xs
  have r1 : ej (p.length : Int) (et xs0).length = true := by rw [ja, hx]; exact inR p x xs
  have hl0 := yo xs0
  have hs0 : szs xs0 = szs p + (x.sz + szs xs) := by rw [hx, qJ]; rfl
  have hpl : p.length < xs0.length := by rw [hx]; simp
  have w1 : IntKind.i64.wrap ((p.length : Int) + 1) = (p.length : Int) + 1 := IntWalk.i64_in _ (by omega); have hc := hf x bH; have hxl := X.rS x; obtain ⟨c1, tk1, e1, o1⟩ := qE (ys := strs x.text) (bytes := 16) ho (by simp only [mP, dz]; omega) (yn _) (yn _) (by decide) (by decide); rw [BH] at e1 o1
  obtain ⟨vs, c2, tk2, h2⟩ := sB s b xs0 hb hbk xs (p ++ [x]) (acc ++ x.text) c1 tk1 (by simp [hx]) (by rw [qJ, bM]; simp [szs]; omega) o1 fun z hz => hf z (bZ _ hz)
  refine ⟨vs, c2, tk2, ?_⟩; rw [show iI (x :: xs) = x.text ++ iI xs from rfl, ← List.append_assoc, ← h2]; refine bW ?_; simp [S12.b0, hlt, Dr, r1, g1, X.len, X.whole, X.okc, X.can, je, hc, e1, w1, o1.sfc, hbk]
theorem tK : ∀ (n : Nat) (x : X), x.sz ≤ n → n ≤ 1000000 → ∀ st : St, E L (.func 12) [.agg x.enc] st = some (.sl (strs x.text) .dead, st)
 | 0, x, h, _ => by rw [X.vC] at h; omega
 | n + 1, x, h, hn => fun st => by
  rw [X.vC] at h
  obtain ⟨s, rfl⟩ : ∃ s : St, st = s.app [] [] [] := ⟨st, (ak st).symm⟩
  obtain ⟨vs, c', tk', hl⟩ := sB s ⟨x.enc, []⟩ x.kids (by omega) (X.sf4 ..) x.kids [] [⟨#[101, 120, 112, 114]⟩, kN x.op, kN x.bin, kN (w64 x.n), kN x.kd, x.rc, x.name, kN x.kids.length] .full [] rfl rfl (Own.full ..)
   fun z hz st => tK n z (by have := yp hz; omega) (by omega) st
  rw [DZ]; simp [S12, X.FH, X.FI, X.FJ, X.FK, X.FL, X.FM, X.FN, Db, yQ, AY, ja, aY, jt, cv, fT, laid, cy, eL, chunks]; simp [strs, w64] at hl; rw [hl]; simp [X.qK, strs, w64]
theorem vx : ∀ xs ys : List S, gS (xs ++ ys) = gS xs + gS ys
 | [], ys => by simp [gS]
 | x :: xs, ys => by simp [gS, vx xs ys]; omega
theorem vB (p : List ByteArray) (x : ByteArray) (xs : List ByteArray) : (strs (p ++ x :: xs))[p.length]? = some [mO x] := by simp [strs]
theorem vw (s : St) (xs0 ys0 : List ByteArray) (hb : xs0.length ≤ 1000000000) (hl : xs0.length = ys0.length) : ∀ (xs ys p q : List ByteArray), xs0 = p ++ xs → ys0 = q ++ ys → p.length = q.length →
 ∃ j : Int, itE (S11.b0 (E L) itE s.stk.length s.lp.length) [.sl (strs xs0) .dead, .sl (strs ys0) .dead, .v (.bool false), int xs0.length, int p.length] (s.app [] [] []) =
  some (bif decide (xs = ys) then .exit 0 else .ret, [.sl (strs xs0) .dead, .sl (strs ys0) .dead, .v (.bool false), int xs0.length, int j], s.app [] [] [])
 | [], ys, p, q, hx, hy, hp => by
  obtain rfl : ys = [] := by
   have := congrArg List.length hx; have := congrArg List.length hy
   simp at *
   exact List.length_eq_zero_iff.1 (by omega)
  refine ⟨p.length, ?_⟩; rw [nT]
  have e : xs0.length = p.length := by rw [hx]; simp
  simp [S11.b0, e]
 | x :: xs, ys, p, q, hx, hy, hp => by
  match ys, hy with
  | [], hy =>
   exfalso
   have := congrArg List.length hx; have := congrArg List.length hy
   simp at *
   omega
  | y :: ys, hy =>
   have hlt : (p.length : Int) < (xs0.length : Int) := by rw [hx]; simp; omega
   have g1 : (strs xs0)[p.length]? = some [mO x] := by rw [hx]; exact vB p x xs
   have g2 : (strs ys0)[p.length]? = some [mO y] := by rw [hy, hp]; exact vB q y ys
   have r1 : ej (p.length : Int) (strs xs0).length = true := by rw [mP, hx]; exact inR p x xs
   have r2 : ej (p.length : Int) (strs ys0).length = true := by rw [mP, hy, hp]; exact inR q y ys
   have w1 : IntKind.i64.wrap ((p.length : Int) + 1) = ((p ++ [x]).length : Int) := by rw [IntWalk.i64_in _ (by omega)]; simp
   have hstep : S11.b0 (E L) itE s.stk.length s.lp.length [.sl (strs xs0) .dead, .sl (strs ys0) .dead, .v (.bool false), int xs0.length, int p.length] (s.app [] [] []) =
    some (bif decide (x = y) then (.normal, [.sl (strs xs0) .dead, .sl (strs ys0) .dead, .v (.bool false), int xs0.length, int (p ++ [x]).length], s.app [] [] []) else
     (.ret, [.sl (strs xs0) .dead, .sl (strs ys0) .dead, .v (.bool false), int xs0.length, int p.length], s.app [] [] [])) := by
    by_cases hxy : x = y
    · subst hxy; simp [S11.b0, hlt, Dq, r1, r2, g1, g2, w1, AM.part]
    · simp [S11.b0, hlt, Dq, r1, r2, g1, g2, w1, hxy, AM.part]
   by_cases hxy : x = y
   · subst hxy
     rw [decide_eq_true rfl] at hstep; obtain ⟨j, hj⟩ := vw s xs0 ys0 hb hl xs ys (p ++ [x]) (q ++ [x]) (by simp [hx]) (by simp [hy]) (by simp [hp]); refine ⟨j, ?_⟩; rw [bW hstep, hj]; simp
   · rw [decide_eq_false hxy] at hstep
     refine ⟨p.length, ?_⟩; rw [eK hstep]; simp [hxy]
theorem EH (xs ys : List ByteArray) (hb : xs.length ≤ 1000000000) (st : St) : E L (.func 11) [.sl (strs xs) .dead, .sl (strs ys) .dead] st = some (.v (.bool (decide (xs = ys))), st) := by
 obtain ⟨s, rfl⟩ : ∃ s : St, st = s.app [] [] [] := ⟨st, (ak st).symm⟩
 rw [DX]
 by_cases hl : xs.length = ys.length
 · obtain ⟨j, hj⟩ := vw s xs ys hb hl xs ys [] [] rfl rfl rfl
   simp [S11, AX, mP, hl] at hj ⊢; rw [hj]
   by_cases h : xs = ys <;> simp [h]
 · have : ¬ (xs.length : Int) = ys.length := by omega
   have h2 : ¬ xs = ys := fun e => hl (by rw [e])
   simp [S11, AX, mP, this, h2]
end Go.Proofs.YtlhlijaondmccaaDoor.S
namespace Go.Proofs.YtlhlijaondmccaaDoor.S
open Go Go.AM Go.Proofs
theorem dI {α β : Type} (a : α) (f : α → Option β) : (some a).bind f = f a := by
 cases h : f a with
 | none => exact h
 | some b => exact h
theorem dJ {α β : Type} {x y : Option α} (f : α → Option β) (h : x = y) : x.bind f = y.bind f := by rw [h]
inductive PR (α : Type) where
 | ok (a : α) (l : List Tok)
 | bad (e : Nat) (q : Nat × Nat)
def PR.map {α β : Type} (f : α → β) : PR α → PR β
 | .ok a l => .ok (f a) l
 | .bad e q => .bad e q
def pb {α β : Type} (x : Option (PR α)) (K : α → List Tok → Option (PR β)) : Option (PR β) := match x with
 | none => none
 | some (.bad e q) => some (.bad e q)
 | some (.ok a l) => K a l
def FW : Tok := ⟨0, [], 0, (0, 0)⟩
def hd (l : List Tok) : Tok := l.headD FW
def isT (l : List Tok) (s : List UInt8) : Bool := (decide ((hd l).kind = 2) || decide ((hd l).kind = 5)) && decide ((hd l).text = s)
def cP (l : List Tok) : List Tok := if (hd l).kind = 0 then l else l.tail
def cF (s : List UInt8) (l : List Tok) : PR Tok := if isT l s then .ok (hd l) l.tail else .bad 4 (hd l).p
def eM (k : Nat) (l : List Tok) : PR Tok := if (hd l).kind = k then .ok (hd l) (cP l) else .bad 4 (hd l).p
def mq {α : Type} (d : Nat) (t : Tok) (x : Option (PR α)) : Option (PR α) := if 12 < d + 1 then some (.bad 10 t.p) else x
structure Ty2 where
 kd : Int
 rc : ByteArray
def vK (l : List Tok) : PR Ty2 :=
 if isT l [105, 110, 116] then .ok ⟨1, bs []⟩ l.tail else
 if isT l [114, 101, 97, 108] then .ok ⟨2, bs []⟩ l.tail else
 if isT l [105, 110, 116, 115] then .ok ⟨3, bs []⟩ l.tail else
 (eM 1 l).map fun t => ⟨4, bs t.text⟩
structure Nm where
 name : ByteArray
 ty : Ty2
 line : Int
 col : Int
def mH (l : List Tok) : Option (PR Nm) :=
 pb (some (eM 1 l)) fun t l1 => pb (some (cF [58] l1)) fun _ l2 => pb (some (vK l2)) fun ty l3 => some (.ok ⟨bs t.text, ty, t.p.1, t.p.2⟩ l3)
def fV : Nat → List (List UInt8)
 | 0 => [[61, 61], [33, 61], [60], [60, 61]]
 | 1 => [[43], [45]]
 | _ => [[42], [47], [37]]
def uA (w : List UInt8) : Int := if w = [43] then 0 else if w = [45] then 1 else if w = [42] then 2 else if w = [47] then 3 else if w = [37] then 4 else if w = [61, 61] then 5 else if w = [33, 61] then 6 else if w = [60] then 7 else if w = [60, 61] then 8 else 0
def gI (lv : Nat) (t : Tok) : Option Int := if t.kind = 5 ∧ (fV lv).contains t.text = true then some (uA t.text) else none
def eS (t : Tok) : Int :=
 if t.kind = 2 ∨ t.kind = 5 then
  if t.text = [45] then 6 else if t.text = [114, 101, 97, 108] then 7 else if t.text = [116, 114, 117, 110, 99] then 8 else 0
 else 0
def x0 : X := ⟨0, 0, 0, 0, bs [], bs [], [], 0, 0⟩
def atX (t : Tok) (op n kd : Int) (rc name : List UInt8) : X := ⟨op, 0, n, kd, bs rc, bs name, [], t.p.1, t.p.2⟩
mutual
def iA : Nat → Nat → List Tok → Option (PR X)
 | 0, _, _ => none
 | n + 1, d, l =>
  let t := hd l
  if t.kind = 3 then some (.ok (atX t 1 t.n 0 [] []) (cP l)) else
  if t.kind = 4 then some (.ok (atX t 2 t.n 0 [] []) (cP l)) else
  if t.kind = 1 then some (.ok (atX t 5 0 0 [] t.text) (cP l)) else
  if t.kind = 2 ∧ t.text = [105, 110, 112, 117, 116] then some ((eM 3 (cP l)).map fun u => atX t 4 u.n 0 [] []) else
  if t.kind = 2 ∧ t.text = [110, 105, 108] then
   (if isT (cP l) [105, 110, 116, 115] then some (.ok (atX t 3 0 3 [] []) (cP l).tail) else some ((eM 1 (cP l)).map fun u => atX t 3 0 4 u.text [])) else
  if t.kind = 5 ∧ t.text = [40] then mq d t (pb (cN n 0 (d + 1) (cP l)) fun e l1 => pb (some (cF [41] l1)) fun _ l2 => some (.ok e l2)) else
  some (.bad 4 t.p)
def ff : Nat → Nat → List Tok → Option (PR X)
 | 0, _, _ => none
 | n + 1, d, l =>
  let t := hd l
  if eS t = 0 then iA n d l else
  mq d t (pb (ff n (d + 1) (cP l)) fun k l1 => some (.ok ⟨eS t, 0, 0, 0, bs [], bs [], [k], t.p.1, t.p.2⟩ l1))
def cN : Nat → Nat → Nat → List Tok → Option (PR X)
 | 0, _, _, _ => none
 | n + 1, lv, d, l => if lv = 3 then ff n d l else pb (cN n (lv + 1) d l) fun e l1 => gD n lv d e l1
def gD : Nat → Nat → Nat → X → List Tok → Option (PR X)
 | 0, _, _, _, _ => none
 | n + 1, lv, d, e, l =>
  let t := hd l
  match gI lv t with
  | none => some (.ok e l)
  | some b => pb (cN n (lv + 1) d (cP l)) fun k l1 =>
   if lv = 0 then some (.ok ⟨9, b, 0, 0, bs [], bs [], [e, k], t.p.1, t.p.2⟩ l1) else gD n lv d ⟨9, b, 0, 0, bs [], bs [], [e, k], t.p.1, t.p.2⟩ l1
end
def nX (n d : Nat) (l : List Tok) : Option (PR Pl) :=
 pb (some (eM 1 l)) fun t l1 =>
  if isT l1 [46] then pb (some (eM 1 l1.tail)) fun u l2 => some (.ok ⟨2, bs t.text, bs u.text, x0, t.p.1, t.p.2⟩ l2) else
  if isT l1 [91] then pb (cN n 0 d l1.tail) fun e l2 => pb (some (cF [93] l2)) fun _ l3 => some (.ok ⟨3, bs t.text, bs [], e, t.p.1, t.p.2⟩ l3) else
  some (.ok ⟨1, bs t.text, bs [], x0, t.p.1, t.p.2⟩ l1)
def pl0 : Pl := ⟨0, bs [], bs [], x0, 0, 0⟩
def j6 (n d : Nat) (l : List Tok) : Option (PR Rt) :=
 let t := hd l
 if isT l [108, 111, 97, 100] then pb (nX n d l.tail) fun x l1 => some (.ok ⟨2, x0, x, bs [], t.p.1, t.p.2⟩ l1) else
 if isT l [115, 105, 122, 101] then pb (some (eM 1 l.tail)) fun u l1 => some (.ok ⟨5, x0, pl0, bs u.text, t.p.1, t.p.2⟩ l1) else
 if isT l [110, 101, 119] then
  (if isT l.tail [105, 110, 116, 115] then pb (cN n 0 d l.tail.tail) fun e l1 => some (.ok ⟨4, e, pl0, bs [], t.p.1, t.p.2⟩ l1)
   else pb (some (eM 1 l.tail)) fun u l1 => some (.ok ⟨3, x0, pl0, bs u.text, t.p.1, t.p.2⟩ l1)) else
 pb (cN n 0 d l) fun e l1 => some (.ok ⟨1, e, pl0, bs [], t.p.1, t.p.2⟩ l1)
def nw : Nat → Nat → Nat → List X → List Tok → Option (PR (List X))
 | 0, _, _, _, _ => none
 | n + 1, m, d, acc, l => pb (cN m 0 d l) fun e l1 =>
  if isT l1 [41] then some (.ok (acc ++ [e]) l1.tail) else pb (some (cF [44] l1)) fun _ l2 => nw n m d (acc ++ [e]) l2
def sn (n d : Nat) (l : List Tok) : Option (PR (List X)) := pb (some (cF [40] l)) fun _ l1 => if isT l1 [41] then some (.ok [] l1.tail) else nw n n d [] l1
def rt0 : Rt := ⟨0, x0, pl0, bs [], 0, 0⟩
abbrev mkS (t : Tok) (op : Int) (name : ByteArray) (right : Rt) (place : Pl) (e : X) (n : Int) (args : List X) (body els : List S) : S := ⟨op, name, right, place, e, n, args, body, els, t.p.1, t.p.2⟩
def gz (l : List Tok) : ByteArray × List Tok := if (hd l).kind = 1 then (bs (hd l).text, cP l) else (bs [], l)
def fI (s : S) (l : List Tok) : Option (PR S) := pb (some (cF [59] l)) fun _ l1 => some (.ok s l1)
mutual
def fk : Nat → Nat → List Tok → Option (PR (List S))
 | 0, _, _ => none
 | n + 1, d, l => pb (some (cF [123] l)) fun t l1 => mq d t (kP n (d + 1) [] l1)
def kP : Nat → Nat → List S → List Tok → Option (PR (List S))
 | 0, _, _, _ => none
 | n + 1, d, acc, l => if isT l [125] then some (.ok acc l.tail) else pb (lY n d l) fun s l1 => kP n d (acc ++ [s]) l1
def ky : Nat → Nat → Tok → ByteArray → List Tok → Option (PR S)
 | 0, _, _, _, _ => none
 | n + 1, d, t, name, l => pb (some (eM 3 l)) fun u l1 => pb (fk n d l1) fun b l2 => some (.ok (mkS t 7 name rt0 pl0 x0 (IntKind.i64.wrap u.n) [] b []) l2)
def lY : Nat → Nat → List Tok → Option (PR S)
 | 0, _, _ => none
 | n + 1, d, l =>
  let t := hd l
  if t.kind = 1 then
   (if isT (cP l) [58] then pb (some (cF [108, 111, 111, 112] (cP l).tail)) fun _ l1 => ky n d t (bs t.text) l1
    else pb (some (cF [61] (cP l))) fun _ l1 => pb (j6 n d l1) fun r l2 => fI (mkS t 3 (bs t.text) r pl0 x0 0 [] [] []) l2) else
  if isT l [108, 111, 111, 112] then ky n d t (bs []) l.tail else
  if isT l [105, 102] then
   pb (cN n 0 d l.tail) fun e l1 => pb (fk n d l1) fun b l2 =>
    (if isT l2 [101, 108, 115, 101] then pb (fk n d l2.tail) fun c l3 => some (.ok (mkS t 6 (bs []) rt0 pl0 e 0 [] b c) l3) else some (.ok (mkS t 6 (bs []) rt0 pl0 e 0 [] b []) l2)) else
  if isT l [97, 116, 111, 109, 105, 99] then pb (fk n d l.tail) fun b l1 => some (.ok (mkS t 10 (bs []) rt0 pl0 x0 0 [] b []) l1) else
  if isT l [108, 101, 116] ∨ isT l [118, 97, 114] then
   pb (some (eM 1 (cP l))) fun u l1 => pb (some (cF [61] l1)) fun _ l2 => pb (j6 n d l2) fun r l3 => fI (mkS t (if t.text = [118, 97, 114] then 2 else 1) (bs u.text) r pl0 x0 0 [] [] []) l3 else
  if isT l [115, 101, 116] then pb (nX n d l.tail) fun x l1 => pb (some (cF [61] l1)) fun _ l2 => pb (cN n 0 d l2) fun e l3 => fI (mkS t 4 (bs []) rt0 x e 0 [] [] []) l3 else
  if isT l [112, 114, 105, 110, 116] then pb (cN n 0 d l.tail) fun e l1 => fI (mkS t 5 (bs []) rt0 pl0 e 0 [] [] []) l1 else
  if isT l [98, 114, 101, 97, 107] then fI (mkS t 8 (gz l.tail).1 rt0 pl0 x0 0 [] [] []) (gz l.tail).2 else
  if isT l [99, 111, 110, 116, 105, 110, 117, 101] then fI (mkS t 9 (gz l.tail).1 rt0 pl0 x0 0 [] [] []) (gz l.tail).2 else
  if isT l [99, 97, 108, 108] then
   pb (some (eM 1 l.tail)) fun u l1 => pb (sn n d l1) fun xs l2 => fI (mkS t 11 (bs u.text) rt0 pl0 x0 0 xs [] []) l2 else
  some (.bad 4 t.p)
end
structure Rec where
 name : ByteArray
 fields : List Nm
 line : Int
 col : Int
structure Fu where
 name : ByteArray
 params : List Nm
 body : List S
 line : Int
 col : Int
structure Th where
 body : List S
 line : Int
 col : Int
structure Pg where
 hM : List Rec
 gls : List Nm
 gY : List Fu
 ths : List Th
def iV : Nat → List Nm → List Tok → Option (PR (List Nm))
 | 0, _, _ => none
 | n + 1, acc, l => if isT l [125] then some (.ok acc l.tail) else pb (mH l) fun f l1 => pb (some (cF [59] l1)) fun _ l2 => iV n (acc ++ [f]) l2
def zl (n : Nat) (l : List Tok) : Option (PR Rec) :=
 pb (some (eM 1 l)) fun t l1 => pb (some (cF [123] l1)) fun _ l2 => pb (iV n [] l2) fun fs l3 => some (.ok ⟨bs t.text, fs, t.p.1, t.p.2⟩ l3)
def iH : Nat → List Nm → List Tok → Option (PR (List Nm))
 | 0, _, _ => none
 | n + 1, acc, l => pb (mH l) fun f l1 => if isT l1 [41] then some (.ok (acc ++ [f]) l1.tail) else pb (some (cF [44] l1)) fun _ l2 => iH n (acc ++ [f]) l2
def AH (n : Nat) (l : List Tok) : Option (PR Fu) :=
 pb (some (eM 1 l)) fun t l1 => pb (some (cF [40] l1)) fun _ l2 =>
  pb (if isT l2 [41] then some (.ok [] l2.tail) else iH n [] l2) fun ps l3 => pb (fk n 0 l3) fun b l4 => some (.ok ⟨bs t.text, ps, b, t.p.1, t.p.2⟩ l4)
def fQ : Nat → Nat → Pg → List Tok → Option (PR Pg)
 | 0, _, _, _ => none
 | n + 1, m, g, l =>
  let t := hd l
  if t.kind = 0 then some (.ok g l) else
  if isT l [114, 101, 99, 111, 114, 100] then pb (zl m l.tail) fun r l1 => fQ n m { g with hM := g.hM ++ [r] } l1 else
  if isT l [103, 108, 111, 98, 97, 108] then pb (mH l.tail) fun x l1 => pb (some (cF [59] l1)) fun _ l2 => fQ n m { g with gls := g.gls ++ [x] } l2 else
  if isT l [102, 117, 110] then pb (AH m l.tail) fun f l1 => fQ n m { g with gY := g.gY ++ [f] } l1 else
  if isT l [116, 104, 114, 101, 97, 100] then pb (fk m 0 l.tail) fun b l1 => fQ n m { g with ths := g.ths ++ [⟨b, t.p.1, t.p.2⟩] } l1 else
  some (.bad 4 t.p)
def DT (ts : List Tok) : Prop := ∀ t ∈ ts, t.kind = 2 → ∀ lv, lv < 3 → (fV lv).contains t.text = false
end Go.Proofs.YtlhlijaondmccaaDoor.S
namespace Go.Proofs.YtlhlijaondmccaaDoor.S
open Go Go.AM Go.Proofs
attribute [local simp] da cD bT bU cE fc fw ef dj ec dh ed di fv bV gZ dW hI gV gO AM.ae aQ aR bg aP aD AM.onG fP cc eB Ex.bh cond_true cond_false cW cV cU cT cS cY cR cZ cX eg dm dp cC db AM.dt AM.cellsOf AM.an bQ beq_true cM al aF bf bz bS decide_true decide_false bL bB bq bA ba aC az aZ aw dc de ft aA bK bu bR cz dV dZ cK eA ew set_set eD dD fM dE cI bD dC dB cH dA eC eE fG fH bE cm ep fF dP aL aU aE AM.aT ah cQ bO aX aS aO aN AM.part bm aM cf cj cg cd cd.eO AM.dM bC cr dI fE aL laid aH bc cv
attribute [-simp] ag
attribute [local congr] dJ
abbrev pcf (es : List (List PV)) (a d e q1 q2 : Int) : List PV := [.sl es .dead, .v (.int .i64 a), .v (.int .i64 d), .v (.int .i64 e), .v (.int .i64 q1), .v (.int .i64 q2)]
abbrev pcA (ts l : List Tok) : Int := ((ts.length - l.length : Nat) : Int)
abbrev pc (ts l : List Tok) (d : Nat) : List PV := pcf (ax ts) (pcA ts l) d 0 0 0
structure Row (ts : List Tok) : Prop where
 len : ts.length < 100000
 shape : ∃ t0 q, ts = t0 ++ [⟨0, [], 0, q⟩] ∧ ∀ t ∈ t0, t.kind ≠ 0
 num : ∀ t ∈ ts, t.n < 9223372036854775808 ∨ t.kind = 4
 txt : ∀ t ∈ ts, t.text.length < 1000000
 sign : ∀ t ∈ ts, t.kind = 5 → ∀ c ∈ t.text, c ≠ 32
def Sfx (ts l : List Tok) : Prop := l ≠ [] ∧ ∃ dn, ts = dn ++ l
theorem Sfx.cons {ts l : List Tok} (h : Sfx ts l) : ∃ t r, l = t :: r := by
 obtain ⟨h1, _⟩ := h
 cases l with
 | nil => exact absurd rfl h1
 | cons t r => exact ⟨t, r, rfl⟩
theorem Sfx.tail {ts l : List Tok} (hr : Row ts) (h : Sfx ts l) (hk : (hd l).kind ≠ 0) : Sfx ts l.tail := by
 obtain ⟨t, r, rfl⟩ := h.cons; obtain ⟨_, dn, rfl⟩ := h; refine ⟨?_, dn ++ [t], by simp⟩; intro e; have e : r = [] := e; subst e; obtain ⟨t0, q, h1, _⟩ := hr.shape; have := List.append_inj_right' h1 rfl; obtain rfl := (List.cons.inj this).1; exact hk rfl
theorem Sfx.next {ts l : List Tok} (hr : Row ts) (h : Sfx ts l) : Sfx ts (cP l) := by
 unfold cP; split
 · exact h
 · rename_i hk; exact h.tail hr hk
theorem AQ {l : List Tok} {s : List UInt8} (h : isT l s = true) : (hd l).kind ≠ 0 := by
 unfold isT at h; simp only [ao, Bool.or_eq_true, decide_eq_true_eq] at h; omega
theorem Sfx.isT {ts l : List Tok} (hr : Row ts) (h : Sfx ts l) {s : List UInt8} (hi : isT l s = true) : Sfx ts l.tail := h.tail hr (AQ hi)
theorem Be {ts l : List Tok} (h : Sfx ts l) : pcA ts l.tail = pcA ts l + 1 := by
 obtain ⟨t, r, rfl⟩ := h.cons; obtain ⟨_, dn, rfl⟩ := h; simp only [pcA, List.tail_cons, bM, al]; omega
theorem CV {ts l : List Tok} (hr : Row ts) : 0 ≤ pcA ts l ∧ pcA ts l < 100000 := by
 have := hr.len
 simp only [pcA]; omega
theorem vc {ts l : List Tok} (hr : Row ts) (h : Sfx ts l) : IntKind.i64.wrap (pcA ts l + 1) = pcA ts l.tail := by
 have := CV (l := l) hr; rw [Be h, IntWalk.i64_in _ (by omega)]
theorem Ab {ts l : List Tok} (h : Sfx ts l) : bN Tryd.prog 85 (.sl (ax ts) .dead) (.v (.int .i64 (pcA ts l))) = some (.fp (hd l).c 0) := by
 obtain ⟨t, r, rfl⟩ := h.cons; obtain ⟨_, dn, rfl⟩ := h
 have e : pcA (dn ++ t :: r) (t :: r) = (dn.length : Int) := by simp only [pcA, bM]; omega
 rw [e, E8]
 have h1 : ej (dn.length : Int) (ax (dn ++ t :: r)).length = true := by rw [jI]; exact inR dn t r
 have h2 : (ax (dn ++ t :: r))[(dn.length : Int).toNat]? = some t.c := by simp [ax]
 rw [h1, h2]
 rfl
theorem ay {f : Nat} {args : List PV} {b : Nat} {c d : List PV} {x : PV} (h : ∀ X : St, b < X.stk.length → E L (.func f) args (X.af false b c) = some (x, X.af false b d)) {s : St} (hb : b < s.stk.length) (bl : List Blk) (tk : List (Nat × Nat)) (lp : List Aux) :
 E L (.func f) args ((s.af false b c).app bl tk lp) = some (x, (s.af false b d).app bl tk lp) := by
 rw [← bE bl tk lp hb, ← bE bl tk lp hb]; exact h _ (by rw [cz]; omega)
theorem dH {ts l : List Tok} (h : Sfx ts l) (d e q1 q2 : Int) {b : Nat} : ∀ X : St, b < X.stk.length → E L (.func 39) [.ptr false b 0] (X.af false b (pcf (ax ts) (pcA ts l) d e q1 q2)) = some (.agg (hd l).c, X.af false b (pcf (ax ts) (pcA ts l) d e q1 q2)) := by
 intro X hb; rw [D6]; obtain ⟨N, T, Lb, hN, hT, hL⟩ := lens3 X; rw [hN] at hb
 conv => lhs; rw [← ak (X.af false b (pcf (ax ts) (pcA ts l) d e q1 q2))]
 have hi := Ab h
 generalize pcA ts l = a at *
 generalize ax ts = es at *
 generalize hd l = t at *
 simp only [Tok.c, bj] at hi ⊢; simp [S39, pcf, hN, hT, hL, hb, hi, laid, aH]
theorem kA {ts l : List Tok} (hr : Row ts) (h : Sfx ts l) (d : Nat) {b : Nat} : ∀ X : St, b < X.stk.length → E L (.func 113) [.ptr false b 0] (X.af false b (pc ts l d)) = some (.agg (hd l).c, X.af false b (pc ts (cP l) d)) := by
 intro X hb; rw [Ca]; obtain ⟨N, T, Lb, hN, hT, hL⟩ := lens3 X; rw [hN] at hb
 conv => lhs; rw [← ak (X.af false b (pc ts l d))]
 have hi := Ab h; have hw := vc hr h; unfold pc cP
 by_cases hk : (hd l).kind = 0
 · rw [if_pos hk]
   generalize pcA ts l = a at *
   generalize ax ts = es at *
   generalize hd l = t at *
   simp only [Tok.c, bj, hk] at hi ⊢; simp [DV, pcf, hN, hT, hL, hb, hi, laid, aH]
 · rw [if_neg hk]
   have hk' : ¬ (((hd l).kind : Int) = 0) := by omega
   generalize pcA ts l = a at *
   generalize pcA ts l.tail = a' at *
   generalize ax ts = es at *
   generalize hd l = t at *
   simp only [Tok.c, bj] at hi ⊢; simp [DV, pcf, hN, hT, hL, hb, hi, hk, hk', hw, laid, aH]
theorem jy {ts l : List Tok} (h : Sfx ts l) (d e q1 q2 : Int) (w : List UInt8) {b : Nat} : ∀ X : St, b < X.stk.length → E L (.func 78) [.ptr false b 0, str w] (X.af false b (pcf (ax ts) (pcA ts l) d e q1 q2)) = some (.v (.bool (isT l w)), X.af false b (pcf (ax ts) (pcA ts l) d e q1 q2)) := by
 intro X hb; have e67 := ay (dH h d e q1 q2 (b := b)) hb; rw [Ej]; obtain ⟨N, T, Lb, hN, hT, hL⟩ := lens3 X; rw [hN] at hb
 conv => lhs; rw [← ak (X.af false b (pcf (ax ts) (pcA ts l) d e q1 q2))]
 unfold isT
 generalize pcA ts l = a at *
 generalize ax ts = es at *
 generalize hd l = t at *
 simp only [Tok.c, bj, pcf] at e67
 by_cases h2 : t.kind = 2
 · simp [S78, pcf, hN, hT, hL, hb, e67, h2, laid, aH]
 · have h2' : ¬ ((t.kind : Int) = 2) := by omega
   by_cases h5 : t.kind = 5
   · simp [S78, pcf, hN, hT, hL, hb, e67, h5, laid, aH]
   · have h5' : ¬ ((t.kind : Int) = 5) := by omega
     simp [S78, pcf, hN, hT, hL, hb, e67, h2, h2', h5, h5', laid, aH]
theorem aB {ts l : List Tok} (hr : Row ts) (h : Sfx ts l) (d : Nat) (w : List UInt8) {b : Nat} : ∀ X : St, b < X.stk.length → E L (.func 40) [.ptr false b 0, str w] (X.af false b (pc ts l d)) = some (.v (.bool (isT l w)), X.af false b (pc ts (if isT l w then l.tail else l) d)) := by
 intro X hb; have e120 := ay (jy h d 0 0 0 w (b := b)) hb; have hw := vc hr h; rw [D7]; obtain ⟨N, T, Lb, hN, hT, hL⟩ := lens3 X; rw [hN] at hb
 conv => lhs; rw [← ak (X.af false b (pc ts l d))]
 unfold pc
 cases hi : isT l w with
 | true =>
  rw [hi] at e120; simp only [if_true]
  generalize pcA ts l = a at *
  generalize pcA ts l.tail = a' at *
  simp only [pcf] at e120; simp [S40, pcf, hN, hT, hL, hb, e120, hw, laid, aH]
 | false =>
  rw [hi] at e120; simp only [ab, if_false]
  generalize pcA ts l = a at *
  simp only [pcf] at e120; simp [S40, pcf, hN, hT, hL, hb, e120, laid, aH]
theorem wy : iz Tryd.prog 92 (.agg []) = some (.ifc 92 (.agg #[])) := by kernel_rfl
theorem tQ {s : St} {bl : List Blk} {tk : List (Nat × Nat)} {lp : List Aux} {b off base sz : Nat} {old cs : List PV} (hb : b < s.stk.length) (ho : off + cs.length ≤ old.length) (hz : cs.length = sz) (h0 : sz ≠ 0) (hs : cs.all pR = true) (hk : aH cs = true) :
 av base sz (.ptr false b off) (.agg cs) ((s.af false b old).app bl tk lp) = some ((s.af false b (laid old off cs)).app bl tk lp) := by
 have h1 : ((s.af false b old).app bl tk lp).blk false b = some old := by rw [mj (by rw [cK]; exact hb), ub old hb]
 have h2 : ∀ ds, ((s.af false b old).app bl tk lp).af false b ds = (s.af false b ds).app bl tk lp := fun ds => by rw [bE _ _ _ (by rw [cK]; exact hb), set_set]
 have h3 : dr (off + cs.length) old.length = true := by rw [Nat.ble_eq]; exact ho
 have h5 : (ai cs.length sz && !ai sz 0) = true := by
  rw [hz, Nat.beq_refl]
  cases sz with
  | zero => exact absurd rfl h0
  | succ n => rfl
 simp only [av, AM.cellsOf, ag, putCells, h1, h3, hk, h5, bq, cond_true]
 cases fJ b base <;> simp [jC hs, h2]
theorem nb (es : List (List PV)) (a d : Int) (e : Nat) (t : Tok) {b : Nat} : ∀ X : St, b < X.stk.length → E L (.func 46) [.ptr false b 0, .v (.int .i64 (e : Int)), .agg t.c] (X.af false b (pcf es a d 0 0 0)) = some (.pan 92 (.agg #[]), X.af false b (pcf es a d e t.p.1 t.p.2)) := by
 intro X hb; rw [D8]; obtain ⟨N, T, Lb, hN, hT, hL⟩ := lens3 X; rw [hN] at hb
 conv => lhs; rw [← ak (X.af false b (pcf es a d 0 0 0))]
 simp only [Tok.c, bj]; generalize (e : Int) = e'
 have hs : ∀ bl tk lp, av N 3 (.ptr false b 3) (.agg [.v (.int .i64 e'), .v (.int .i64 (t.p.1 : Int)), .v (.int .i64 (t.p.2 : Int))]) ((X.af false b (pcf es a d 0 0 0)).app bl tk lp) = some ((X.af false b (pcf es a d e' t.p.1 t.p.2)).app bl tk lp) := fun bl tk lp => tQ (hN ▸ hb) (by simp) rfl (by omega) rfl rfl
 simp only [pcf] at hs; simp [S46, pcf, hN, hT, hL, hb, hs, wy, bc, cv, laid, aH, sN]
def Rd {α : Type} (f : Nat) (args : List PV) (ts : List Tok) (d d' : Nat) (l : List Tok) (enc : α → PV) (x : PR α) : Prop := match x with
 | .ok a l' => Sfx ts l' ∧ ∀ b (X : St), b < X.stk.length → E L (.func f) (.ptr false b 0 :: args) (X.af false b (pc ts l d)) = some (enc a, X.af false b (pc ts l' d'))
 | .bad e q => ∃ a' d'', ∀ b (X : St), b < X.stk.length → E L (.func f) (.ptr false b 0 :: args) (X.af false b (pc ts l d)) = some (.pan 92 (.agg #[]), X.af false b (pcf (ax ts) a' d'' e q.1 q.2))
abbrev aJ (t : Tok) : PV := .agg t.c
theorem eI {ts l : List Tok} (hr : Row ts) (h : Sfx ts l) (d : Nat) (w : List UInt8) : Rd 43 [str w] ts d d l aJ (cF w l) := by
 have e67 := fun b X hb => ay (dH h d 0 0 0 (b := b)) (s := X) hb
 have e68 := fun b X hb => ay (aB hr h d w (b := b)) (s := X) hb
 unfold cF Rd
 cases hi : isT l w with
 | true =>
  rw [hi] at e68; simp only [if_true] at e68 ⊢; refine ⟨h.isT hr hi, fun b X hb => ?_⟩; have e67 := e67 b X hb; have e68 := e68 b X hb; rw [zZ]; obtain ⟨N, T, Lb, hN, hT, hL⟩ := lens3 X; rw [hN] at hb
  conv => lhs; rw [← ak (X.af false b (pc ts l d))]
  simp only [pc, pcf, Tok.c, bj] at e67 e68 ⊢
  generalize hd l = t at *
  generalize pcA ts l = a at *
  generalize pcA ts l.tail = a' at *
  generalize ax ts = es at *
  simp [S43, pcf, hN, hT, hL, hb, e67, e68, laid, aH]
 | false =>
  rw [hi] at e68; simp only [ab, if_false] at e68 ⊢; refine ⟨pcA ts l, d, fun b X hb => ?_⟩; have e67 := e67 b X hb; have e68 := e68 b X hb; have e74 := ay (nb (ax ts) (pcA ts l) d 4 (hd l) (b := b)) hb; rw [zZ]; obtain ⟨N, T, Lb, hN, hT, hL⟩ := lens3 X; rw [hN] at hb
  conv => lhs; rw [← ak (X.af false b (pc ts l d))]
  simp only [pc, pcf, Tok.c, bj, aa] at e67 e68 e74 ⊢
  generalize hd l = t at *
  generalize pcA ts l = a at *
  generalize ax ts = es at *
  simp [S43, pcf, hN, hT, hL, hb, e67, e68, e74, laid, aH, aL, fE]
theorem gK {ts l : List Tok} (hr : Row ts) (h : Sfx ts l) (d : Nat) (k : Nat) : Rd 79 [.v (.int .i64 (k : Int))] ts d d l aJ (eM k l) := by
 have e67 := fun b X hb => ay (dH h d 0 0 0 (b := b)) (s := X) hb
 have e151 := fun b X hb => ay (kA hr h d (b := b)) (s := X) hb
 unfold eM Rd
 by_cases hk : (hd l).kind = k
 · rw [if_pos hk]
   refine ⟨h.next hr, fun b X hb => ?_⟩; have e67 := e67 b X hb; have e151 := e151 b X hb; rw [z6]; obtain ⟨N, T, Lb, hN, hT, hL⟩ := lens3 X; rw [hN] at hb
   conv => lhs; rw [← ak (X.af false b (pc ts l d))]
   simp only [pc, pcf, Tok.c, bj, hk] at e67 e151 ⊢
   generalize hd l = t at *
   generalize pcA ts l = a at *
   generalize pcA ts (cP l) = a' at *
   generalize ax ts = es at *
   simp [S79, pcf, hN, hT, hL, hb, e67, e151, hk, laid, aH]
 · rw [if_neg hk]
   refine ⟨pcA ts l, d, fun b X hb => ?_⟩; have e67 := e67 b X hb; have e74 := ay (nb (ax ts) (pcA ts l) d 4 (hd l) (b := b)) hb
   have hk' : ¬ (((hd l).kind : Int) = (k : Int)) := by omega
   rw [z6]; obtain ⟨N, T, Lb, hN, hT, hL⟩ := lens3 X; rw [hN] at hb
   conv => lhs; rw [← ak (X.af false b (pc ts l d))]
   simp only [pc, pcf, Tok.c, bj, aa] at e67 e74 ⊢
   generalize hd l = t at *
   generalize pcA ts l = a at *
   generalize ax ts = es at *
   simp [S79, pcf, hN, hT, hL, hb, e67, e74, hk, hk', laid, aH, aL, fE]
theorem tG {ts l : List Tok} (h : Sfx ts l) (d : Nat) (t : Tok) (hd : d < 1000) : Rd 81 [.agg t.c] ts d (d + 1) l (fun _ : Unit => .tup []) (if 12 < d + 1 then .bad 10 t.p else .ok () l) := by
 have hw : IntKind.i64.wrap ((d : Int) + 1) = ((d + 1 : Nat) : Int) := by rw [IntWalk.i64_in _ (by omega)]; omega
 unfold Rd
 by_cases hk : 12 < d + 1
 · rw [if_pos hk]
   refine ⟨pcA ts l, (d + 1 : Nat), fun b X hb => ?_⟩; have e74 := ay (nb (ax ts) (pcA ts l) (d + 1 : Nat) 10 t (b := b)) hb
   have hk' : (12 : Int) < ((d + 1 : Nat) : Int) := by omega
   rw [z7]; obtain ⟨N, T, Lb, hN, hT, hL⟩ := lens3 X; rw [hN] at hb
   conv => lhs; rw [← ak (X.af false b (pc ts l d))]
   simp only [pc, pcf, Tok.c, bj, aa] at e74 ⊢
   generalize pcA ts l = a at *
   generalize ax ts = es at *
   generalize ((d + 1 : Nat) : Int) = d1 at *
   simp [S81, pcf, hN, hT, hL, hb, e74, hw, hk', laid, aH, aL, fE]
 · rw [if_neg hk]
   refine ⟨h, fun b X hb => ?_⟩
   have hk' : ¬ ((12 : Int) < ((d + 1 : Nat) : Int)) := by omega
   rw [z7]; obtain ⟨N, T, Lb, hN, hT, hL⟩ := lens3 X; rw [hN] at hb
   conv => lhs; rw [← ak (X.af false b (pc ts l d))]
   simp only [pc, pcf, Tok.c, bj]
   generalize pcA ts l = a at *
   generalize ax ts = es at *
   generalize ((d + 1 : Nat) : Int) = d1 at *
   simp [S81, pcf, hN, hT, hL, hb, hw, hk', laid, aH, aL, fE]
abbrev gw : PV := .agg [str [43], str [45], str [42], str [47], str [37], str [61, 61], str [33, 61], str [60], str [60, 61]]
theorem iS : jJ Tryd.prog 182 [(0, str [43]), (1, str [45]), (2, str [42]), (3, str [47]), (4, str [37]), (5, str [61, 61]), (6, str [33, 61]), (7, str [60]), (8, str [60, 61])] = some gw := by kernel_rfl
theorem xL (x0 x1 x2 x3 x4 x5 x6 x7 x8 : PV) : dy Tryd.prog 182 (.agg [x0, x1, x2, x3, x4, x5, x6, x7, x8]) (.v (.int .i64 0)) = some x0 := by kernel_rfl
theorem xO (x0 x1 x2 x3 x4 x5 x6 x7 x8 : PV) : dy Tryd.prog 182 (.agg [x0, x1, x2, x3, x4, x5, x6, x7, x8]) (.v (.int .i64 1)) = some x1 := by kernel_rfl
theorem xR (x0 x1 x2 x3 x4 x5 x6 x7 x8 : PV) : dy Tryd.prog 182 (.agg [x0, x1, x2, x3, x4, x5, x6, x7, x8]) (.v (.int .i64 2)) = some x2 := by kernel_rfl
theorem xT (x0 x1 x2 x3 x4 x5 x6 x7 x8 : PV) : dy Tryd.prog 182 (.agg [x0, x1, x2, x3, x4, x5, x6, x7, x8]) (.v (.int .i64 3)) = some x3 := by kernel_rfl
theorem xU (x0 x1 x2 x3 x4 x5 x6 x7 x8 : PV) : dy Tryd.prog 182 (.agg [x0, x1, x2, x3, x4, x5, x6, x7, x8]) (.v (.int .i64 4)) = some x4 := by kernel_rfl
theorem xV (x0 x1 x2 x3 x4 x5 x6 x7 x8 : PV) : dy Tryd.prog 182 (.agg [x0, x1, x2, x3, x4, x5, x6, x7, x8]) (.v (.int .i64 5)) = some x5 := by kernel_rfl
theorem xW (x0 x1 x2 x3 x4 x5 x6 x7 x8 : PV) : dy Tryd.prog 182 (.agg [x0, x1, x2, x3, x4, x5, x6, x7, x8]) (.v (.int .i64 6)) = some x6 := by kernel_rfl
theorem xX (x0 x1 x2 x3 x4 x5 x6 x7 x8 : PV) : dy Tryd.prog 182 (.agg [x0, x1, x2, x3, x4, x5, x6, x7, x8]) (.v (.int .i64 7)) = some x7 := by kernel_rfl
theorem xY (x0 x1 x2 x3 x4 x5 x6 x7 x8 : PV) : dy Tryd.prog 182 (.agg [x0, x1, x2, x3, x4, x5, x6, x7, x8]) (.v (.int .i64 8)) = some x8 := by kernel_rfl
theorem En (w : List UInt8) (X : St) : E L (.func 157) [str w] X = some (.v (.int .i64 (uA w)), X) := by
 rw [Cg]; obtain ⟨N, T, Lb, hN, hT, hL⟩ := lens3 X
 conv => lhs; rw [← ak (X)]
 have s0 : w ≠ [43] → itE (eN.b0 (E L) itE N Lb) [str w, .v (.int .i64 0), gw, .v (.int .i64 0)] (X.app [] [] []) = itE (eN.b0 (E L) itE N Lb) [str w, .v (.int .i64 0), gw, .v (.int .i64 1)] (X.app [] [] []) := fun h => bW (by simp [eN.b0, hN, hT, hL, xL, h, Ne.symm h, IntWalk.i64_in])
 have h0 : w = [43] → itE (eN.b0 (E L) itE N Lb) [str w, .v (.int .i64 0), gw, .v (.int .i64 0)] (X.app [] [] []) = some (.ret, [str w, .v (.int .i64 0), gw, .v (.int .i64 0)], X.app [] [] []) := fun h => eK (by subst h; simp [eN.b0, hN, hT, hL, xL])
 have s1 : w ≠ [45] → itE (eN.b0 (E L) itE N Lb) [str w, .v (.int .i64 0), gw, .v (.int .i64 1)] (X.app [] [] []) = itE (eN.b0 (E L) itE N Lb) [str w, .v (.int .i64 0), gw, .v (.int .i64 2)] (X.app [] [] []) := fun h => bW (by simp [eN.b0, hN, hT, hL, xO, h, Ne.symm h, IntWalk.i64_in])
 have h1 : w = [45] → itE (eN.b0 (E L) itE N Lb) [str w, .v (.int .i64 0), gw, .v (.int .i64 1)] (X.app [] [] []) = some (.ret, [str w, .v (.int .i64 1), gw, .v (.int .i64 1)], X.app [] [] []) := fun h => eK (by subst h; simp [eN.b0, hN, hT, hL, xO])
 have s2 : w ≠ [42] → itE (eN.b0 (E L) itE N Lb) [str w, .v (.int .i64 0), gw, .v (.int .i64 2)] (X.app [] [] []) = itE (eN.b0 (E L) itE N Lb) [str w, .v (.int .i64 0), gw, .v (.int .i64 3)] (X.app [] [] []) := fun h => bW (by simp [eN.b0, hN, hT, hL, xR, h, Ne.symm h, IntWalk.i64_in])
 have h2 : w = [42] → itE (eN.b0 (E L) itE N Lb) [str w, .v (.int .i64 0), gw, .v (.int .i64 2)] (X.app [] [] []) = some (.ret, [str w, .v (.int .i64 2), gw, .v (.int .i64 2)], X.app [] [] []) := fun h => eK (by subst h; simp [eN.b0, hN, hT, hL, xR])
 have s3 : w ≠ [47] → itE (eN.b0 (E L) itE N Lb) [str w, .v (.int .i64 0), gw, .v (.int .i64 3)] (X.app [] [] []) = itE (eN.b0 (E L) itE N Lb) [str w, .v (.int .i64 0), gw, .v (.int .i64 4)] (X.app [] [] []) := fun h => bW (by simp [eN.b0, hN, hT, hL, xT, h, Ne.symm h, IntWalk.i64_in])
 have h3 : w = [47] → itE (eN.b0 (E L) itE N Lb) [str w, .v (.int .i64 0), gw, .v (.int .i64 3)] (X.app [] [] []) = some (.ret, [str w, .v (.int .i64 3), gw, .v (.int .i64 3)], X.app [] [] []) := fun h => eK (by subst h; simp [eN.b0, hN, hT, hL, xT])
 have s4 : w ≠ [37] → itE (eN.b0 (E L) itE N Lb) [str w, .v (.int .i64 0), gw, .v (.int .i64 4)] (X.app [] [] []) = itE (eN.b0 (E L) itE N Lb) [str w, .v (.int .i64 0), gw, .v (.int .i64 5)] (X.app [] [] []) := fun h => bW (by simp [eN.b0, hN, hT, hL, xU, h, Ne.symm h, IntWalk.i64_in])
 have h4 : w = [37] → itE (eN.b0 (E L) itE N Lb) [str w, .v (.int .i64 0), gw, .v (.int .i64 4)] (X.app [] [] []) = some (.ret, [str w, .v (.int .i64 4), gw, .v (.int .i64 4)], X.app [] [] []) := fun h => eK (by subst h; simp [eN.b0, hN, hT, hL, xU])
 have s5 : w ≠ [61, 61] → itE (eN.b0 (E L) itE N Lb) [str w, .v (.int .i64 0), gw, .v (.int .i64 5)] (X.app [] [] []) = itE (eN.b0 (E L) itE N Lb) [str w, .v (.int .i64 0), gw, .v (.int .i64 6)] (X.app [] [] []) := fun h => bW (by simp [eN.b0, hN, hT, hL, xV, h, Ne.symm h, IntWalk.i64_in])
 have h5 : w = [61, 61] → itE (eN.b0 (E L) itE N Lb) [str w, .v (.int .i64 0), gw, .v (.int .i64 5)] (X.app [] [] []) = some (.ret, [str w, .v (.int .i64 5), gw, .v (.int .i64 5)], X.app [] [] []) := fun h => eK (by subst h; simp [eN.b0, hN, hT, hL, xV])
 have s6 : w ≠ [33, 61] → itE (eN.b0 (E L) itE N Lb) [str w, .v (.int .i64 0), gw, .v (.int .i64 6)] (X.app [] [] []) = itE (eN.b0 (E L) itE N Lb) [str w, .v (.int .i64 0), gw, .v (.int .i64 7)] (X.app [] [] []) := fun h => bW (by simp [eN.b0, hN, hT, hL, xW, h, Ne.symm h, IntWalk.i64_in])
 have h6 : w = [33, 61] → itE (eN.b0 (E L) itE N Lb) [str w, .v (.int .i64 0), gw, .v (.int .i64 6)] (X.app [] [] []) = some (.ret, [str w, .v (.int .i64 6), gw, .v (.int .i64 6)], X.app [] [] []) := fun h => eK (by subst h; simp [eN.b0, hN, hT, hL, xW])
 have s7 : w ≠ [60] → itE (eN.b0 (E L) itE N Lb) [str w, .v (.int .i64 0), gw, .v (.int .i64 7)] (X.app [] [] []) = itE (eN.b0 (E L) itE N Lb) [str w, .v (.int .i64 0), gw, .v (.int .i64 8)] (X.app [] [] []) := fun h => bW (by simp [eN.b0, hN, hT, hL, xX, h, Ne.symm h, IntWalk.i64_in])
 have h7 : w = [60] → itE (eN.b0 (E L) itE N Lb) [str w, .v (.int .i64 0), gw, .v (.int .i64 7)] (X.app [] [] []) = some (.ret, [str w, .v (.int .i64 7), gw, .v (.int .i64 7)], X.app [] [] []) := fun h => eK (by subst h; simp [eN.b0, hN, hT, hL, xX])
 have s8 : w ≠ [60, 61] → itE (eN.b0 (E L) itE N Lb) [str w, .v (.int .i64 0), gw, .v (.int .i64 8)] (X.app [] [] []) = itE (eN.b0 (E L) itE N Lb) [str w, .v (.int .i64 0), gw, .v (.int .i64 9)] (X.app [] [] []) := fun h => bW (by simp [eN.b0, hN, hT, hL, xY, h, Ne.symm h, IntWalk.i64_in])
 have h8 : w = [60, 61] → itE (eN.b0 (E L) itE N Lb) [str w, .v (.int .i64 0), gw, .v (.int .i64 8)] (X.app [] [] []) = some (.ret, [str w, .v (.int .i64 8), gw, .v (.int .i64 8)], X.app [] [] []) := fun h => eK (by subst h; simp [eN.b0, hN, hT, hL, xY])
 have s9 : itE (eN.b0 (E L) itE N Lb) [str w, .v (.int .i64 0), gw, .v (.int .i64 9)] (X.app [] [] []) = some (.exit 0, [str w, .v (.int .i64 0), gw, .v (.int .i64 9)], X.app [] [] []) := iD (by simp [eN.b0, hN, hT, hL]); unfold uA
 by_cases g0 : w = [43]
 · rw [if_pos g0]
   have e := h0 g0; simp [eN, hN, hT, hL, iS, e]
 rw [if_neg g0]
 by_cases g1 : w = [45]
 · rw [if_pos g1]
   have e := h1 g1; rw [← s0 g0] at e; simp [eN, hN, hT, hL, iS, e]
 rw [if_neg g1]
 by_cases g2 : w = [42]
 · rw [if_pos g2]
   have e := h2 g2; rw [← s1 g1, ← s0 g0] at e; simp [eN, hN, hT, hL, iS, e]
 rw [if_neg g2]
 by_cases g3 : w = [47]
 · rw [if_pos g3]
   have e := h3 g3; rw [← s2 g2, ← s1 g1, ← s0 g0] at e; simp [eN, hN, hT, hL, iS, e]
 rw [if_neg g3]
 by_cases g4 : w = [37]
 · rw [if_pos g4]
   have e := h4 g4; rw [← s3 g3, ← s2 g2, ← s1 g1, ← s0 g0] at e; simp [eN, hN, hT, hL, iS, e]
 rw [if_neg g4]
 by_cases g5 : w = [61, 61]
 · rw [if_pos g5]
   have e := h5 g5; rw [← s4 g4, ← s3 g3, ← s2 g2, ← s1 g1, ← s0 g0] at e; simp [eN, hN, hT, hL, iS, e]
 rw [if_neg g5]
 by_cases g6 : w = [33, 61]
 · rw [if_pos g6]
   have e := h6 g6; rw [← s5 g5, ← s4 g4, ← s3 g3, ← s2 g2, ← s1 g1, ← s0 g0] at e; simp [eN, hN, hT, hL, iS, e]
 rw [if_neg g6]
 by_cases g7 : w = [60]
 · rw [if_pos g7]
   have e := h7 g7; rw [← s6 g6, ← s5 g5, ← s4 g4, ← s3 g3, ← s2 g2, ← s1 g1, ← s0 g0] at e; simp [eN, hN, hT, hL, iS, e]
 rw [if_neg g7]
 by_cases g8 : w = [60, 61]
 · rw [if_pos g8]
   have e := h8 g8; rw [← s7 g7, ← s6 g6, ← s5 g5, ← s4 g4, ← s3 g3, ← s2 g2, ← s1 g1, ← s0 g0] at e; simp [eN, hN, hT, hL, iS, e]
 rw [if_neg g8]; have e := s9; rw [← s8 g8, ← s7 g7, ← s6 g6, ← s5 g5, ← s4 g4, ← s3 g3, ← s2 g2, ← s1 g1, ← s0 g0] at e; simp [eN, hN, hT, hL, iS, e]
theorem tA : jJ Tryd.prog 173 [(0, str [32, 61, 61, 32, 33, 61, 32, 60, 32, 60, 61, 32]), (1, str [32, 43, 32, 45, 32]), (2, str [32, 42, 32, 47, 32, 37, 32])] = some (.agg [str [32, 61, 61, 32, 33, 61, 32, 60, 32, 60, 61, 32], str [32, 43, 32, 45, 32], str [32, 42, 32, 47, 32, 37, 32]]) := by kernel_rfl
theorem Bu (lv : Nat) (h : lv < 3) (X : St) : E L (.func 156) [.v (.int .i64 (lv : Int))] X = some (str (32 :: ir (fV lv)), X) := by
 rw [Ce]; obtain ⟨N, T, Lb, hN, hT, hL⟩ := lens3 X
 conv => lhs; rw [← ak (X)]
 obtain rfl | rfl | rfl : lv = 0 ∨ lv = 1 ∨ lv = 2 := by omega
 · simp [Cd, hN, hT, hL, tA, xK, fV, ir]
 · simp [Cd, hN, hT, hL, tA, xM, fV, ir]
 · simp [Cd, hN, hT, hL, tA, xP, fV, ir]
theorem zw {lv : Nat} {w : List UInt8} (hw : ∀ c ∈ w, c ≠ 32) : Lib.contains (32 :: ir (fV lv)) (32 :: (w ++ [32])) = (fV lv).contains w := by
 refine jM hw _ ?_; unfold fV
 split <;> decide
theorem BN (w : List UInt8) (X : St) : E L (.func 170) [str w] X = some (.v (.int .i64 (if w = [45] then 6 else if w = [114, 101, 97, 108] then 7 else if w = [116, 114, 117, 110, 99] then 8 else 0)), X) := by
 rw [Ch]; obtain ⟨N, T, Lb, hN, hT, hL⟩ := lens3 X
 conv => lhs; rw [← ak (X)]
 by_cases h1 : w = [45]
 · simp [zX, hN, hT, hL, h1]
 · by_cases h2 : w = [114, 101, 97, 108]
   · simp [zX, hN, hT, hL, h2]
   · by_cases h3 : w = [116, 114, 117, 110, 99]
     · simp [zX, hN, hT, hL, h3]
     · simp [zX, hN, hT, hL, h1, h2, h3]
abbrev hZ (t : Ty2) : PV := .agg [.v (.int .i64 t.kd), .v (.string t.rc)]
abbrev hU (x : Nm) : PV := .agg [.v (.string x.name), .v (.int .i64 x.ty.kd), .v (.string x.ty.rc), .v (.int .i64 x.line), .v (.int .i64 x.col)]
abbrev rY : PV := .agg [str [], str [105, 110, 116], str [114, 101, 97, 108], str [105, 110, 116, 115]]
theorem oq : jJ Tryd.prog 174 [(0, str []), (1, str [105, 110, 116]), (2, str [114, 101, 97, 108]), (3, str [105, 110, 116, 115])] = some rY := by kernel_rfl
theorem aK {α : Type} {f : Nat} {args : List PV} {ts : List Tok} {d d' : Nat} {l : List Tok} {enc : α → PV} {x : PR α} {a : α} {l' : List Tok} (h : Rd f args ts d d' l enc x) (hx : x = .ok a l') {b : Nat} {s : St} (hb : b < s.stk.length) : ∀ (bl : List Blk) (tk : List (Nat × Nat)) (lp : List Aux),
 E L (.func f) (.ptr false b 0 :: args) ((s.af false b (pc ts l d)).app bl tk lp) = some (enc a, (s.af false b (pc ts l' d')).app bl tk lp) := by
 subst hx
 exact fun bl tk lp => ay (h.2 b) hb bl tk lp
theorem br {α : Type} {f : Nat} {args : List PV} {ts : List Tok} {d d' : Nat} {l : List Tok} {enc : α → PV} {x : PR α} {a : α} {l' : List Tok} (h : Rd f args ts d d' l enc x) (hx : x = .ok a l') : Sfx ts l' := by
 subst hx; exact h.1
theorem bn {α : Type} {f : Nat} {args : List PV} {ts : List Tok} {d d' : Nat} {l : List Tok} {enc : α → PV} {x : PR α} {e : Nat} {q : Nat × Nat} (h : Rd f args ts d d' l enc x) (hx : x = .bad e q) : ∃ a' d'', ∀ {b : Nat} {s : St} (hb : b < s.stk.length) (bl : List Blk) (tk : List (Nat × Nat)) (lp : List Aux),
 E L (.func f) (.ptr false b 0 :: args) ((s.af false b (pc ts l d)).app bl tk lp) = some (.pan 92 (.agg #[]), (s.af false b (pcf (ax ts) a' d'' e q.1 q.2)).app bl tk lp) := by
 subst hx; obtain ⟨a', d'', h⟩ := h; exact ⟨a', d'', fun hb bl tk lp => ay (h _) hb bl tk lp⟩
theorem EN {ts l : List Tok} (hr : Row ts) (h : Sfx ts l) (d : Nat) : Rd 80 [] ts d d l hZ (vK l) := by
 have e68 := fun b (X : St) hb (w : List UInt8) => ay (aB hr h d w (b := b)) (s := X) hb
 have run : ∀ b (X : St), b < X.stk.length → ∀ N T Lb, X.stk.length = N → X.tk.length = T → X.lp.length = Lb →
  itE (S80.b0 (E L) itE N Lb) [.ptr false b 0, .ptr false N 0, rY, .v (.int .i64 0)] ((X.af false b (pc ts l d)).app [⟨[.v (.int .i64 0), str []], []⟩] [] []) =
   if isT l [105, 110, 116] then some (.ret, [.ptr false b 0, .ptr false N 0, rY, .v (.int .i64 1)], (X.af false b (pc ts l.tail d)).app [⟨[.v (.int .i64 1), str []], []⟩] [] []) else
   if isT l [114, 101, 97, 108] then some (.ret, [.ptr false b 0, .ptr false N 0, rY, .v (.int .i64 2)], (X.af false b (pc ts l.tail d)).app [⟨[.v (.int .i64 2), str []], []⟩] [] []) else
   if isT l [105, 110, 116, 115] then some (.ret, [.ptr false b 0, .ptr false N 0, rY, .v (.int .i64 3)], (X.af false b (pc ts l.tail d)).app [⟨[.v (.int .i64 3), str []], []⟩] [] []) else
   some (.exit 0, [.ptr false b 0, .ptr false N 0, rY, .v (.int .i64 4)], (X.af false b (pc ts l d)).app [⟨[.v (.int .i64 0), str []], []⟩] [] []) := by
  intro b X hb N T Lb hN hT hL; have e1 := e68 b X hb [105, 110, 116]; have e2 := e68 b X hb [114, 101, 97, 108]; have e3 := e68 b X hb [105, 110, 116, 115]; rw [hN] at hb; simp only [pc, pcf] at e1 e2 e3 ⊢; have w1 : IntKind.i64.wrap 1 = 1 := rfl; have w2 : IntKind.i64.wrap 2 = 2 := rfl; have w3 : IntKind.i64.wrap 3 = 3 := rfl; have w4 : IntKind.i64.wrap 4 = 4 := rfl; rw [bW (vs' := [.ptr false b 0, .ptr false N 0, rY, .v (.int .i64 1)]) (st' := (X.af false b (pc ts l d)).app [⟨[.v (.int .i64 0), str []], []⟩] [] []) (by simp [S80.b0, pc, pcf, hN, hT, hL, hb, CJ, w1, bc, cv, laid, aH])]
  cases h1 : isT l [105, 110, 116] with
  | true =>
   rw [h1] at e1; simp only [if_true] at e1 ⊢; exact eK (by simp [S80.b0, pc, pcf, hN, hT, hL, hb, xN, e1, bc, cv, laid, aH])
  | false =>
   rw [h1] at e1; simp only [ab, if_false] at e1 ⊢; rw [bW (vs' := [.ptr false b 0, .ptr false N 0, rY, .v (.int .i64 2)]) (st' := (X.af false b (pc ts l d)).app [⟨[.v (.int .i64 0), str []], []⟩] [] []) (by simp [S80.b0, pc, pcf, hN, hT, hL, hb, xN, e1, w2, bc, cv, laid, aH])]
   cases h2 : isT l [114, 101, 97, 108] with
   | true =>
    rw [h2] at e2; simp only [if_true] at e2 ⊢; exact eK (by simp [S80.b0, pc, pcf, hN, hT, hL, hb, xQ, e2, bc, cv, laid, aH])
   | false =>
    rw [h2] at e2; simp only [ab, if_false] at e2 ⊢; rw [bW (vs' := [.ptr false b 0, .ptr false N 0, rY, .v (.int .i64 3)]) (st' := (X.af false b (pc ts l d)).app [⟨[.v (.int .i64 0), str []], []⟩] [] []) (by simp [S80.b0, pc, pcf, hN, hT, hL, hb, xQ, e2, w3, bc, cv, laid, aH])]
    cases h3 : isT l [105, 110, 116, 115] with
    | true =>
     rw [h3] at e3; simp only [if_true] at e3 ⊢; exact eK (by simp [S80.b0, pc, pcf, hN, hT, hL, hb, xS, e3, bc, cv, laid, aH])
    | false =>
     rw [h3] at e3; simp only [ab, if_false] at e3 ⊢; rw [bW (vs' := [.ptr false b 0, .ptr false N 0, rY, .v (.int .i64 4)]) (st' := (X.af false b (pc ts l d)).app [⟨[.v (.int .i64 0), str []], []⟩] [] []) (by simp [S80.b0, pc, pcf, hN, hT, hL, hb, xS, e3, w4, bc, cv, laid, aH])]; exact iD (by simp [S80.b0, pc, pcf, hN, hT, hL, hb])
 have hk := gK hr h d 1; unfold vK
 cases h1 : isT l [105, 110, 116] with
 | true =>
  simp only [if_true]; refine ⟨h.isT hr h1, fun b X hb => ?_⟩; have e := run b X hb _ _ _ rfl rfl rfl; rw [h1] at e; rw [qN]; obtain ⟨N, T, Lb, hN, hT, hL⟩ := lens3 X; rw [hN] at hb; rw [hN] at e
  conv => lhs; rw [← ak (X.af false b (pc ts l d))]
  simp only [if_true, pc, pcf, hT, hL] at e ⊢; simp [S80, pcf, hN, hT, hL, hb, oq, e, laid, aH]
 | false =>
  simp only [ab, if_false]
  cases h2 : isT l [114, 101, 97, 108] with
  | true =>
   simp only [if_true]; refine ⟨h.isT hr h2, fun b X hb => ?_⟩; have e := run b X hb _ _ _ rfl rfl rfl; rw [h1, h2] at e; rw [qN]; obtain ⟨N, T, Lb, hN, hT, hL⟩ := lens3 X; rw [hN] at hb; rw [hN] at e
   conv => lhs; rw [← ak (X.af false b (pc ts l d))]
   simp only [if_true, ab, if_false, pc, pcf, hT, hL] at e ⊢; simp [S80, pcf, hN, hT, hL, hb, oq, e, laid, aH]
  | false =>
   simp only [ab, if_false]
   cases h3 : isT l [105, 110, 116, 115] with
   | true =>
    simp only [if_true]; refine ⟨h.isT hr h3, fun b X hb => ?_⟩; have e := run b X hb _ _ _ rfl rfl rfl; rw [h1, h2, h3] at e; rw [qN]; obtain ⟨N, T, Lb, hN, hT, hL⟩ := lens3 X; rw [hN] at hb; rw [hN] at e
    conv => lhs; rw [← ak (X.af false b (pc ts l d))]
    simp only [if_true, ab, if_false, pc, pcf, hT, hL] at e ⊢; simp [S80, pcf, hN, hT, hL, hb, oq, e, laid, aH]
   | false =>
    simp only [ab, if_false]
    cases hx : eM 1 l with
    | ok u l' =>
     refine ⟨br hk hx, fun b X hb => ?_⟩; have e := run b X hb _ _ _ rfl rfl rfl; have ek := aK hk hx hb; rw [h1, h2, h3] at e; rw [qN]; obtain ⟨N, T, Lb, hN, hT, hL⟩ := lens3 X; rw [hN] at hb; rw [hN] at e
     conv => lhs; rw [← ak (X.af false b (pc ts l d))]
     simp only [ab, if_false, pc, pcf, hT, hL, aJ, Tok.c, bj, aa] at e ek ⊢; simp [S80, pcf, hN, hT, hL, hb, oq, e, ek, nc, bc, cv, laid, aH, aL]
    | bad e0 q =>
     obtain ⟨a', d'', ek⟩ := bn hk hx; refine ⟨a', d'', fun b X hb => ?_⟩; have e := run b X hb _ _ _ rfl rfl rfl; have ek := ek hb; rw [h1, h2, h3] at e; rw [qN]; obtain ⟨N, T, Lb, hN, hT, hL⟩ := lens3 X; rw [hN] at hb; rw [hN] at e
     conv => lhs; rw [← ak (X.af false b (pc ts l d))]
     simp only [ab, if_false, pc, pcf, hT, hL, aa] at e ek ⊢; simp [S80, pcf, hN, hT, hL, hb, oq, e, ek, aL]
theorem uP {ts l : List Tok} (hr : Row ts) (h : Sfx ts l) (d : Nat) : ∀ b (X : St), b < X.stk.length → E L (.func 120) [.ptr false b 0] (X.af false b (pc ts l d)) = some (.v (.string (gz l).1), X.af false b (pc ts (gz l).2 d)) := by
 intro b X hb; have e67 := ay (dH h d 0 0 0 (b := b)) hb; have e151 := ay (kA hr h d (b := b)) hb; unfold gz
 by_cases hk : (hd l).kind = 1
 · rw [if_pos hk]
   rw [xj]; obtain ⟨N, T, Lb, hN, hT, hL⟩ := lens3 X; rw [hN] at hb
   conv => lhs; rw [← ak (X.af false b (pc ts l d))]
   simp only [pc, pcf, Tok.c, bj, hk, aa] at e67 e151 ⊢; simp [DY, pcf, hN, hT, hL, hb, e67, e151, sD, nc]
 · rw [if_neg hk]
   have hk' : ¬ (((hd l).kind : Int) = 1) := by omega
   rw [xj]; obtain ⟨N, T, Lb, hN, hT, hL⟩ := lens3 X; rw [hN] at hb
   conv => lhs; rw [← ak (X.af false b (pc ts l d))]
   simp only [pc, pcf, Tok.c, bj] at e67 ⊢; simp [DY, pcf, hN, hT, hL, hb, e67, hk', sD, nc]
theorem cx {α β : Type} {y : PR α} {a : α} {l' : List Tok} {K : α → List Tok → Option (PR β)} {x : PR β} (hx : pb (some y) K = some x) (hy : y = .ok a l') : K a l' = some x := by subst hy; exact hx
theorem bJ {α β : Type} {y : PR α} {e : Nat} {q : Nat × Nat} {K : α → List Tok → Option (PR β)} {x : PR β} (hx : pb (some y) K = some x) (hy : y = .bad e q) : x = .bad e q := by subst hy; exact (Option.some.inj hx).symm
theorem dw {α β : Type} {y : Option (PR α)} {K : α → List Tok → Option (PR β)} {x : PR β} (hx : pb y K = some x) : ∃ z, y = some z := by
 cases y with
 | none => cases hx
 | some z => exact ⟨z, rfl⟩
theorem ru {ts l : List Tok} (hr : Row ts) (h : Sfx ts l) (d : Nat) {x : PR Nm} (hx : mH l = some x) : Rd 42 [] ts d d l hU x := by
 unfold mH at hx; have h1 := gK hr h d 1
 cases x1 : eM 1 l with
 | bad e q =>
  obtain rfl := bJ hx x1; obtain ⟨a', d'', e1⟩ := bn h1 x1; refine ⟨a', d'', fun b X hb => ?_⟩; have e1 := e1 hb; rw [tn]; obtain ⟨N, T, Lb, hN, hT, hL⟩ := lens3 X; rw [hN] at hb
  conv => lhs; rw [← ak (X.af false b (pc ts l d))]
  simp only [pc, pcf, aJ, Tok.c, bj, aa, hU, hZ] at e1 ⊢
  generalize ax ts = es at *
  simp [S42, hN, hT, hL, hb, e1]
 | ok t l1 =>
  have hx := cx hx x1; have s1 := br h1 x1; have h2 := eI hr s1 d [58]
  cases x2 : cF [58] l1 with
  | bad e q =>
   obtain rfl := bJ hx x2; obtain ⟨a', d'', e2⟩ := bn h2 x2; refine ⟨a', d'', fun b X hb => ?_⟩; have e2 := e2 hb; have e1 := aK h1 x1 hb; rw [tn]; obtain ⟨N, T, Lb, hN, hT, hL⟩ := lens3 X; rw [hN] at hb
   conv => lhs; rw [← ak (X.af false b (pc ts l d))]
   simp only [pc, pcf, aJ, Tok.c, bj, aa, hU, hZ] at e1 e2 ⊢
   generalize ax ts = es at *
   simp [S42, hN, hT, hL, hb, e1, e2]
  | ok u l2 =>
   have hx := cx hx x2; have s2 := br h2 x2; have h3 := EN hr s2 d
   cases x3 : vK l2 with
   | bad e q =>
    obtain rfl := bJ hx x3; obtain ⟨a', d'', e3⟩ := bn h3 x3; refine ⟨a', d'', fun b X hb => ?_⟩; have e3 := e3 hb; have e1 := aK h1 x1 hb; have e2 := aK h2 x2 hb; rw [tn]; obtain ⟨N, T, Lb, hN, hT, hL⟩ := lens3 X; rw [hN] at hb
    conv => lhs; rw [← ak (X.af false b (pc ts l d))]
    simp only [pc, pcf, aJ, Tok.c, bj, aa, hU, hZ] at e1 e2 e3 ⊢
    generalize ax ts = es at *
    simp [S42, hN, hT, hL, hb, e1, e2, e3]
   | ok ty l3 =>
    obtain rfl := Option.some.inj (cx hx x3); refine ⟨br h3 x3, fun b X hb => ?_⟩; have e1 := aK h1 x1 hb; have e2 := aK h2 x2 hb; have e3 := aK h3 x3 hb; rw [tn]; obtain ⟨N, T, Lb, hN, hT, hL⟩ := lens3 X; rw [hN] at hb
    conv => lhs; rw [← ak (X.af false b (pc ts l d))]
    simp only [pc, pcf, aJ, Tok.c, bj, aa, hU, hZ] at e1 e2 e3 ⊢
    generalize ax ts = es at *
    simp [S42, hN, hT, hL, hb, e1, e2, e3]
abbrev bX (x : X) : PV := .agg x.enc
abbrev z9 : List PV := [.v (.int .i64 0), .v (.int .i64 0), .v (.int .u64 0), .v (.int .i64 0), str [], str [], .sl [] .nil, .v (.int .i64 0), .v (.int .i64 0)]
theorem mU (x : X) : x.enc.take 9 = x.enc := List.take_of_length_le (by rw [X.len]; omega)
structure mb (ts : List Tok) (n : Nat) : Prop where
 atom : ∀ d l x, d ≤ 12 → Sfx ts l → iA n d l = some x → Rd 171 [] ts d d l bX x
 pre : ∀ d l x, d ≤ 12 → Sfx ts l → ff n d l = some x → Rd 155 [] ts d d l bX x
 chain : ∀ lv d l x, lv ≤ 3 → d ≤ 12 → Sfx ts l → cN n lv d l = some x → Rd 137 [.v (.int .i64 (lv : Int))] ts d d l bX x
section
variable {ts : List Tok} (hr : Row ts) {n : Nat} (ih : mb ts n)
include hr ih
theorem kv {d : Nat} {l : List Tok} {x : PR X} (hd12 : d ≤ 12) (h : Sfx ts l) (hx : cN n 0 d l = some x) : Rd 119 [] ts d d l bX x := by
 have h1 := ih.chain 0 d l x (by omega) hd12 h hx
 cases x with
 | bad e q =>
  obtain ⟨a', d'', e1⟩ := bn h1 rfl; refine ⟨a', d'', fun b Y hb => ?_⟩; have e1 := e1 hb; rw [xi]; obtain ⟨N, T, Lb, hN, hT, hL⟩ := lens3 Y; rw [hN] at hb
  conv => lhs; rw [← ak (Y.af false b (pc ts l d))]
  simp only [pc, pcf, ic] at e1 ⊢
  generalize ax ts = es at *
  simp [DW, hN, hT, hL, hb, e1]
 | ok a l' =>
  refine ⟨br h1 rfl, fun b Y hb => ?_⟩; have e1 := aK h1 rfl hb; rw [xi]; obtain ⟨N, T, Lb, hN, hT, hL⟩ := lens3 Y; rw [hN] at hb
  conv => lhs; rw [← ak (Y.af false b (pc ts l d))]
  simp only [pc, pcf, bX, ic] at e1 ⊢
  generalize ax ts = es at *
  simp [DW, hN, hT, hL, hb, e1, X.len, mU, X.okc, X.can, X.kJ, X.fl, je]
theorem Cm : ∀ d l x, d ≤ 12 → Sfx ts l → iA (n + 1) d l = some x → Rd 171 [] ts d d l bX x := by
 intro d l x hd12 h hx; have s1 := h.next hr
 have e151 := fun b (Y : St) hb => ay (kA hr h d (b := b)) (s := Y) hb
 simp only [iA] at hx
 by_cases k3 : (hd l).kind = 3
 · rw [if_pos k3] at hx
   obtain rfl := Option.some.inj hx; refine ⟨s1, fun b Y hb => ?_⟩; have e151 := e151 b Y hb; rw [gU]; obtain ⟨N, T, Lb, hN, hT, hL⟩ := lens3 Y; rw [hN] at hb
   conv => lhs; rw [← ak (Y.af false b (pc ts l d))]
   simp only [pc, pcf, bX, atX, Tok.c, bj, aa] at e151 ⊢
   generalize hd l = t at *
   generalize ax ts = es at *
   simp [nu, hN, hT, hL, hb, e151, k3, X.enc, et]
 rw [if_neg k3] at hx
 have k3' : ¬ (((hd l).kind : Int) = 3) := by omega
 by_cases k4 : (hd l).kind = 4
 · rw [if_pos k4] at hx
   obtain rfl := Option.some.inj hx; refine ⟨s1, fun b Y hb => ?_⟩; have e151 := e151 b Y hb; rw [gU]; obtain ⟨N, T, Lb, hN, hT, hL⟩ := lens3 Y; rw [hN] at hb
   conv => lhs; rw [← ak (Y.af false b (pc ts l d))]
   simp only [pc, pcf, bX, atX, Tok.c, bj, aa] at e151 ⊢
   generalize hd l = t at *
   generalize ax ts = es at *
   simp [nu, hN, hT, hL, hb, e151, k4, X.enc, et]
 rw [if_neg k4] at hx
 have k4' : ¬ (((hd l).kind : Int) = 4) := by omega
 by_cases k1 : (hd l).kind = 1
 · rw [if_pos k1] at hx
   obtain rfl := Option.some.inj hx; refine ⟨s1, fun b Y hb => ?_⟩; have e151 := e151 b Y hb; rw [gU]; obtain ⟨N, T, Lb, hN, hT, hL⟩ := lens3 Y; rw [hN] at hb
   conv => lhs; rw [← ak (Y.af false b (pc ts l d))]
   simp only [pc, pcf, bX, atX, Tok.c, bj, aa] at e151 ⊢
   generalize hd l = t at *
   generalize ax ts = es at *
   simp [nu, hN, hT, hL, hb, e151, k1, X.enc, et]
 rw [if_neg k1] at hx
 have k1' : ¬ (((hd l).kind : Int) = 1) := by omega
 by_cases ki : (hd l).kind = 2 ∧ (hd l).text = [105, 110, 112, 117, 116]
 · rw [if_pos ki] at hx
   obtain ⟨k2, kt⟩ := ki; have h1 := gK hr s1 d 3
   cases x1 : eM 3 (cP l) with
   | bad e q =>
    simp only [x1, PR.map] at hx; obtain rfl := Option.some.inj hx; obtain ⟨a', d'', e1⟩ := bn h1 x1; refine ⟨a', d'', fun b Y hb => ?_⟩; have e1 := e1 hb; have e151 := e151 b Y hb; rw [gU]; obtain ⟨N, T, Lb, hN, hT, hL⟩ := lens3 Y; rw [hN] at hb
    conv => lhs; rw [← ak (Y.af false b (pc ts l d))]
    simp only [pc, pcf, bX, atX, Tok.c, bj, aa] at e151 e1 ⊢
    generalize hd l = t at *
    generalize ax ts = es at *
    simp [nu, hN, hT, hL, hb, e151, e1, k2, kt]
   | ok u l1 =>
    simp only [x1, PR.map] at hx; obtain rfl := Option.some.inj hx; refine ⟨br h1 x1, fun b Y hb => ?_⟩; have e1 := aK h1 x1 hb; have e151 := e151 b Y hb; rw [gU]; obtain ⟨N, T, Lb, hN, hT, hL⟩ := lens3 Y; rw [hN] at hb
    conv => lhs; rw [← ak (Y.af false b (pc ts l d))]
    simp only [pc, pcf, bX, aJ, atX, Tok.c, bj, aa] at e151 e1 ⊢
    generalize hd l = t at *
    generalize ax ts = es at *
    simp [nu, hN, hT, hL, hb, e151, e1, k2, kt, pw, X.enc, et]
 rw [if_neg ki] at hx
 by_cases kn : (hd l).kind = 2 ∧ (hd l).text = [110, 105, 108]
 · rw [if_pos kn] at hx
   obtain ⟨k2, kt⟩ := kn
   have e68 := fun b (Y : St) hb => ay (aB hr s1 d [105, 110, 116, 115] (b := b)) (s := Y) hb
   cases hi : isT (cP l) [105, 110, 116, 115] with
   | true =>
    rw [hi] at hx e68; simp only [if_true] at hx e68; obtain rfl := Option.some.inj hx; refine ⟨s1.isT hr hi, fun b Y hb => ?_⟩; have e68 := e68 b Y hb; have e151 := e151 b Y hb; rw [gU]; obtain ⟨N, T, Lb, hN, hT, hL⟩ := lens3 Y; rw [hN] at hb
    conv => lhs; rw [← ak (Y.af false b (pc ts l d))]
    simp only [pc, pcf, bX, aJ, atX, Tok.c, bj, aa] at e151 e68 ⊢
    generalize hd l = t at *
    generalize ax ts = es at *
    simp [nu, hN, hT, hL, hb, e151, e68, k2, kt, X.enc, et]
   | false =>
    rw [hi] at hx e68; simp only [ab, if_false] at hx e68; have h1 := gK hr s1 d 1
    cases x1 : eM 1 (cP l) with
    | bad e q =>
     simp only [x1, PR.map] at hx; obtain rfl := Option.some.inj hx; obtain ⟨a', d'', e1⟩ := bn h1 x1; refine ⟨a', d'', fun b Y hb => ?_⟩; have e1 := e1 hb; have e68 := e68 b Y hb; have e151 := e151 b Y hb; rw [gU]; obtain ⟨N, T, Lb, hN, hT, hL⟩ := lens3 Y; rw [hN] at hb
     conv => lhs; rw [← ak (Y.af false b (pc ts l d))]
     simp only [pc, pcf, bX, atX, Tok.c, bj, aa] at e151 e68 e1 ⊢
     generalize hd l = t at *
     generalize ax ts = es at *
     simp [nu, hN, hT, hL, hb, e151, e68, e1, k2, kt]
    | ok u l1 =>
     simp only [x1, PR.map] at hx; obtain rfl := Option.some.inj hx; refine ⟨br h1 x1, fun b Y hb => ?_⟩; have e1 := aK h1 x1 hb; have e68 := e68 b Y hb; have e151 := e151 b Y hb; rw [gU]; obtain ⟨N, T, Lb, hN, hT, hL⟩ := lens3 Y; rw [hN] at hb
     conv => lhs; rw [← ak (Y.af false b (pc ts l d))]
     simp only [pc, pcf, bX, aJ, atX, Tok.c, bj, aa] at e151 e68 e1 ⊢
     generalize hd l = t at *
     generalize ax ts = es at *
     simp [nu, hN, hT, hL, hb, e151, e68, e1, k2, kt, nc, X.enc, et]
 rw [if_neg kn] at hx
 have ki' : (hd l).kind = 2 → (hd l).text ≠ [105, 110, 112, 117, 116] := fun a b => ki ⟨a, b⟩
 have kn' : (hd l).kind = 2 → (hd l).text ≠ [110, 105, 108] := fun a b => kn ⟨a, b⟩
 by_cases kp : (hd l).kind = 5 ∧ (hd l).text = [40]
 · rw [if_pos kp] at hx
   obtain ⟨k5, kt⟩ := kp; have h1 := tG s1 d (hd l) (by omega); unfold mq at hx
   by_cases hdd : 12 < d + 1
   · rw [if_pos hdd] at hx h1
     obtain rfl := Option.some.inj hx; obtain ⟨a', d'', e1⟩ := bn h1 rfl; refine ⟨a', d'', fun b Y hb => ?_⟩; have e1 := e1 hb; have e151 := e151 b Y hb; rw [gU]; obtain ⟨N, T, Lb, hN, hT, hL⟩ := lens3 Y; rw [hN] at hb
     conv => lhs; rw [← ak (Y.af false b (pc ts l d))]
     simp only [pc, pcf, bX, atX, Tok.c, bj, k5, kt, aa] at e151 e1 ⊢
     generalize hd l = t at *
     generalize ax ts = es at *
     simp [nu, hN, hT, hL, hb, e151, e1, k5, kt]
   · rw [if_neg hdd] at hx h1
     obtain ⟨y, hy⟩ := dw hx; rw [hy] at hx; have h2 := kv hr ih (d := d + 1) (by omega) s1 hy
     have w1 : IntKind.i64.wrap (((d + 1 : Nat) : Int) - 1) = (d : Int) := by rw [IntWalk.i64_in _ (by omega)]; omega
     cases y with
     | bad e q =>
      obtain rfl := bJ hx rfl; obtain ⟨a', d'', e2⟩ := bn h2 rfl; refine ⟨a', d'', fun b Y hb => ?_⟩; have e2 := e2 hb; have e1 := aK h1 rfl hb; have e151 := e151 b Y hb; rw [gU]; obtain ⟨N, T, Lb, hN, hT, hL⟩ := lens3 Y; rw [hN] at hb
      conv => lhs; rw [← ak (Y.af false b (pc ts l d))]
      simp only [pc, pcf, bX, atX, Tok.c, bj, k5, kt, aa] at e151 e1 e2 ⊢
      generalize ((d + 1 : Nat) : Int) = d1 at *
      generalize hd l = t at *
      generalize ax ts = es at *
      simp [nu, hN, hT, hL, hb, e151, e1, e2, k5, kt]
     | ok v l1 =>
      have hx := cx hx rfl; have s2 := br h2 rfl; have h3 := eI hr s2 (d + 1) [41]
      cases x3 : cF [41] l1 with
      | bad e q =>
       obtain rfl := bJ hx x3; obtain ⟨a', d'', e3⟩ := bn h3 x3; refine ⟨a', d'', fun b Y hb => ?_⟩; have e3 := e3 hb; have e2 := aK h2 rfl hb; have e1 := aK h1 rfl hb; have e151 := e151 b Y hb; rw [gU]; obtain ⟨N, T, Lb, hN, hT, hL⟩ := lens3 Y; rw [hN] at hb
       conv => lhs; rw [← ak (Y.af false b (pc ts l d))]
       simp only [pc, pcf, bX, aJ, atX, Tok.c, bj, k5, kt, aa] at e151 e1 e2 e3 ⊢
       generalize ((d + 1 : Nat) : Int) = d1 at *
       generalize hd l = t at *
       generalize ax ts = es at *
       simp [nu, hN, hT, hL, hb, e151, e1, e2, e3, k5, kt, X.len, mU, X.okc, X.can, je]
      | ok u l2 =>
       obtain rfl := Option.some.inj (cx hx x3); refine ⟨br h3 x3, fun b Y hb => ?_⟩; have e3 := aK h3 x3 hb; have e2 := aK h2 rfl hb; have e1 := aK h1 rfl hb; have e151 := e151 b Y hb; rw [gU]; obtain ⟨N, T, Lb, hN, hT, hL⟩ := lens3 Y; rw [hN] at hb
       conv => lhs; rw [← ak (Y.af false b (pc ts l d))]
       simp only [pc, pcf, bX, aJ, atX, Tok.c, bj, k5, kt, aa] at e151 e1 e2 e3 ⊢
       generalize ((d + 1 : Nat) : Int) = d1 at *
       generalize hd l = t at *
       generalize ax ts = es at *
       simp [nu, hN, hT, hL, hb, e151, e1, e2, e3, k5, kt, w1, X.len, mU, X.okc, X.can, X.kJ, X.fl, je]
 rw [if_neg kp] at hx; obtain rfl := Option.some.inj hx; refine ⟨pcA ts (cP l), d, fun b Y hb => ?_⟩; have e74 := ay (nb (ax ts) (pcA ts (cP l)) d 4 (hd l) (b := b)) hb; have e151 := e151 b Y hb; rw [gU]; obtain ⟨N, T, Lb, hN, hT, hL⟩ := lens3 Y; rw [hN] at hb
 conv => lhs; rw [← ak (Y.af false b (pc ts l d))]
 by_cases k2 : (hd l).kind = 2
 · have ki := ki' k2
   have kn := kn' k2; simp only [pc, pcf, bX, atX, Tok.c, bj, k2, aa] at e151 e74 ⊢
   generalize hd l = t at *
   generalize ax ts = es at *
   simp [nu, hN, hT, hL, hb, e151, e74, k2, ki, kn]
 · have k2' : ¬ (((hd l).kind : Int) = 2) := by omega
   by_cases k5 : (hd l).kind = 5
   · have kt : (hd l).text ≠ [40] := fun a => kp ⟨k5, a⟩
     simp only [pc, pcf, bX, atX, Tok.c, bj, k5, aa] at e151 e74 ⊢
     generalize hd l = t at *
     generalize ax ts = es at *
     simp [nu, hN, hT, hL, hb, e151, e74, k5, kt]
   · have k5' : ¬ (((hd l).kind : Int) = 5) := by omega
     simp only [pc, pcf, bX, atX, Tok.c, bj, aa] at e151 e74 ⊢
     generalize hd l = t at *
     generalize ax ts = es at *
     simp [nu, hN, hT, hL, hb, e151, e74, k1, k1', k2, k2', k3, k3', k4, k4', k5, k5']
end
section
variable {ts : List Tok} (hr : Row ts) {n : Nat} (ih : mb ts n)
include hr ih
theorem EB : ∀ d l x, d ≤ 12 → Sfx ts l → ff (n + 1) d l = some x → Rd 155 [] ts d d l bX x := by
 intro d l x hd12 h hx; have s1 := h.next hr
 have e67 := fun b (Y : St) hb => ay (dH h d 0 0 0 (b := b)) (s := Y) hb
 have e151 := fun b (Y : St) hb => ay (kA hr h d (b := b)) (s := Y) hb
 simp only [ff] at hx
 by_cases hw : (hd l).kind = 2 ∨ (hd l).kind = 5
 · have e197 : ∀ Z, E L (.func 170) [str (hd l).text] Z = some (.v (.int .i64 (eS (hd l))), Z) := fun Z => by
    rw [BN, eS, if_pos hw]
   by_cases hu : eS (hd l) = 0
   · rw [if_pos hu] at hx
     have h1 := ih.atom d l x hd12 h hx; rw [hu] at e197
     cases x with
     | bad e q =>
      obtain ⟨a', d'', e1⟩ := bn h1 rfl; refine ⟨a', d'', fun b Y hb => ?_⟩; have e1 := e1 hb; have e67 := e67 b Y hb; rw [lB]; obtain ⟨N, T, Lb, hN, hT, hL⟩ := lens3 Y; rw [hN] at hb
      conv => lhs; rw [← ak (Y.af false b (pc ts l d))]
      rcases hw with k | k
      · simp only [pc, pcf, bX, Tok.c, bj, k, aa] at e67 e1 ⊢
        generalize hd l = t at *
        generalize ax ts = es at *
        simp [ph, hN, hT, hL, hb, e67, e1, e197]
      · simp only [pc, pcf, bX, Tok.c, bj, k, aa] at e67 e1 ⊢
        generalize hd l = t at *
        generalize ax ts = es at *
        simp [ph, hN, hT, hL, hb, e67, e1, e197]
     | ok v l1 =>
      refine ⟨br h1 rfl, fun b Y hb => ?_⟩; have e1 := aK h1 rfl hb; have e67 := e67 b Y hb; rw [lB]; obtain ⟨N, T, Lb, hN, hT, hL⟩ := lens3 Y; rw [hN] at hb
      conv => lhs; rw [← ak (Y.af false b (pc ts l d))]
      rcases hw with k | k
      · simp only [pc, pcf, bX, Tok.c, bj, k, aa] at e67 e1 ⊢
        generalize hd l = t at *
        generalize ax ts = es at *
        simp [ph, hN, hT, hL, hb, e67, e1, e197, X.len, mU, X.okc, X.can, X.kJ, X.fl, je]
      · simp only [pc, pcf, bX, Tok.c, bj, k, aa] at e67 e1 ⊢
        generalize hd l = t at *
        generalize ax ts = es at *
        simp [ph, hN, hT, hL, hb, e67, e1, e197, X.len, mU, X.okc, X.can, X.kJ, X.fl, je]
   · rw [if_neg hu] at hx
     have h1 := tG s1 d (hd l) (by omega); unfold mq at hx
     by_cases hdd : 12 < d + 1
     · rw [if_pos hdd] at hx h1
       obtain rfl := Option.some.inj hx; obtain ⟨a', d'', e1⟩ := bn h1 rfl; refine ⟨a', d'', fun b Y hb => ?_⟩; have e1 := e1 hb; have e67 := e67 b Y hb; have e151 := e151 b Y hb; rw [lB]; obtain ⟨N, T, Lb, hN, hT, hL⟩ := lens3 Y; rw [hN] at hb
       conv => lhs; rw [← ak (Y.af false b (pc ts l d))]
       rcases hw with k | k
       · simp only [pc, pcf, bX, Tok.c, bj, k, aa] at e67 e151 e1 ⊢
         generalize eS (hd l) = u at *
         generalize hd l = t at *
         generalize ax ts = es at *
         simp [ph, hN, hT, hL, hb, e67, e151, e1, e197, hu]
       · simp only [pc, pcf, bX, Tok.c, bj, k, aa] at e67 e151 e1 ⊢
         generalize eS (hd l) = u at *
         generalize hd l = t at *
         generalize ax ts = es at *
         simp [ph, hN, hT, hL, hb, e67, e151, e1, e197, hu]
     · rw [if_neg hdd] at hx h1
       obtain ⟨y, hy⟩ := dw hx; rw [hy] at hx; have h2 := ih.pre (d + 1) (cP l) y (by omega) s1 hy
       have w1 : IntKind.i64.wrap (((d + 1 : Nat) : Int) - 1) = (d : Int) := by rw [IntWalk.i64_in _ (by omega)]; omega
       cases y with
       | bad e q =>
        obtain rfl := bJ hx rfl; obtain ⟨a', d'', e2⟩ := bn h2 rfl; refine ⟨a', d'', fun b Y hb => ?_⟩; have e2 := e2 hb; have e1 := aK h1 rfl hb; have e67 := e67 b Y hb; have e151 := e151 b Y hb; rw [lB]; obtain ⟨N, T, Lb, hN, hT, hL⟩ := lens3 Y; rw [hN] at hb
        conv => lhs; rw [← ak (Y.af false b (pc ts l d))]
        rcases hw with k | k
        · simp only [pc, pcf, bX, Tok.c, bj, k, aa] at e67 e151 e1 e2 ⊢
          generalize ((d + 1 : Nat) : Int) = d1 at *
          generalize eS (hd l) = u at *
          generalize hd l = t at *
          generalize ax ts = es at *
          simp [ph, hN, hT, hL, hb, e67, e151, e1, e2, e197, hu]
        · simp only [pc, pcf, bX, Tok.c, bj, k, aa] at e67 e151 e1 e2 ⊢
          generalize ((d + 1 : Nat) : Int) = d1 at *
          generalize eS (hd l) = u at *
          generalize hd l = t at *
          generalize ax ts = es at *
          simp [ph, hN, hT, hL, hb, e67, e151, e1, e2, e197, hu]
       | ok v l1 =>
        obtain rfl := Option.some.inj (cx hx rfl); refine ⟨br h2 rfl, fun b Y hb => ?_⟩; have e2 := aK h2 rfl hb; have e1 := aK h1 rfl hb; have e67 := e67 b Y hb; have e151 := e151 b Y hb; rw [lB]; obtain ⟨N, T, Lb, hN, hT, hL⟩ := lens3 Y; rw [hN] at hb
        conv => lhs; rw [← ak (Y.af false b (pc ts l d))]
        rcases hw with k | k
        · simp only [pc, pcf, bX, Tok.c, bj, k, aa] at e67 e151 e1 e2 ⊢
          generalize ((d + 1 : Nat) : Int) = d1 at *
          generalize eS (hd l) = u at *
          generalize hd l = t at *
          generalize ax ts = es at *
          simp [ph, hN, hT, hL, hb, e67, e151, e1, e2, e197, hu, w1, aY, jt, fT, AM.cy, AM.eL, chunks, X.len, mU, X.okc, X.can, X.kJ, X.fl, X.pl, X.enc, et, je]
        · simp only [pc, pcf, bX, Tok.c, bj, k, aa] at e67 e151 e1 e2 ⊢
          generalize ((d + 1 : Nat) : Int) = d1 at *
          generalize eS (hd l) = u at *
          generalize hd l = t at *
          generalize ax ts = es at *
          simp [ph, hN, hT, hL, hb, e67, e151, e1, e2, e197, hu, w1, aY, jt, fT, AM.cy, AM.eL, chunks, X.len, mU, X.okc, X.can, X.kJ, X.fl, X.pl, X.enc, et, je]
 · have hu : eS (hd l) = 0 := by rw [eS, if_neg hw]
   rw [if_pos hu] at hx; have h1 := ih.atom d l x hd12 h hx
   have k2 : ¬ (((hd l).kind : Int) = 2) := by omega
   have k5 : ¬ (((hd l).kind : Int) = 5) := by omega
   have k2' : ¬ ((hd l).kind = 2) := by omega
   have k5' : ¬ ((hd l).kind = 5) := by omega
   cases x with
   | bad e q =>
    obtain ⟨a', d'', e1⟩ := bn h1 rfl; refine ⟨a', d'', fun b Y hb => ?_⟩; have e1 := e1 hb; have e67 := e67 b Y hb; rw [lB]; obtain ⟨N, T, Lb, hN, hT, hL⟩ := lens3 Y; rw [hN] at hb
    conv => lhs; rw [← ak (Y.af false b (pc ts l d))]
    simp only [pc, pcf, bX, Tok.c, bj, aa] at e67 e1 ⊢
    generalize hd l = t at *
    generalize ax ts = es at *
    simp [ph, hN, hT, hL, hb, e67, e1, k2, k5, k2', k5']
   | ok v l1 =>
    refine ⟨br h1 rfl, fun b Y hb => ?_⟩; have e1 := aK h1 rfl hb; have e67 := e67 b Y hb; rw [lB]; obtain ⟨N, T, Lb, hN, hT, hL⟩ := lens3 Y; rw [hN] at hb
    conv => lhs; rw [← ak (Y.af false b (pc ts l d))]
    simp only [pc, pcf, bX, Tok.c, bj, aa] at e67 e1 ⊢
    generalize hd l = t at *
    generalize ax ts = es at *
    simp [ph, hN, hT, hL, hb, e67, e1, k2, k5, k2', k5', X.len, mU, X.okc, X.can, X.kJ, X.fl, je]
end
end Go.Proofs.YtlhlijaondmccaaDoor.S
namespace Go.Proofs.YtlhlijaondmccaaDoor.S
open Go Go.AM Go.Proofs
theorem iE {b : List PV → St → Option (Ex × List PV × St)} {vs vs' : List PV} {st st' : St} {t : TypeId} {v : Value} (h : b vs st = some (.pan t v, vs', st')) : itE b vs st = some (.pan t v, vs', st') := by
 rw [nT, h]; rfl
theorem zs {P : Program} {cst : Bool} {t : TypeId} {a b : List UInt8} (h : a.length + b.length < 4611686018427387904) : aW P cst .add t (str a) (str b) = some (str (a ++ b)) := by
 rw [qI _ _ _ _ _ (by rw [cm, cm]; omega), mY]
theorem qj : ∀ {l m l' m' : List PV}, cy l = some l' → cy m = some m' → cy (l ++ m) = some (l' ++ m')
 | [], m, l', m', hl, hm => by obtain rfl := Option.some.inj hl; exact hm
 | a :: l, m, l', m', hl, hm => by
  simp only [cy] at hl
  cases ha : eL a with
  | none => rw [ha] at hl; cases hl
  | some a' =>
   rw [ha] at hl
   cases hl' : cy l with
   | none => rw [hl'] at hl; cases hl
   | some l2 =>
    rw [hl'] at hl; obtain rfl := Option.some.inj hl; simp only [aw, cy, ha, qj hl' hm, ag]
theorem Dv {sz : Nat} {z cs ds cs' ds' : List PV} (hz : z.length = sz) (hc : cs.length = sz) (hd : ds.length = sz) (hp : cy cs = some cs') (hq : cy ds = some ds') (hc' : cs'.length = sz) (hd' : ds'.length = sz) : aY sz z 2 [(0, .agg cs), (1, .agg ds)] = some (.sl [cs', ds'] .full) := by
 have h1 : laid (fT 2 z) 0 cs = cs ++ z := by
  have := laidB [] z z cs (by omega); simpa [fT] using this
 have h1' : laid (cs ++ z) sz ds = cs ++ ds := by
  have := laidB cs z [] ds (by omega); simpa [hc] using this
 have h2 : dr (0 + sz) (fT 2 z).length = true := by simp [fT, hz]
 have h2' : dr (1 * sz + sz) (cs ++ z).length = true := by simp [hz, hc]
 have h3 : ai cs.length sz = true := by rw [hc]; exact Nat.beq_refl _
 have h3' : ai ds.length sz = true := by rw [hd]; exact Nat.beq_refl _
 simp only [aY, jt, cv, AM.cellsOf, h3, Nat.zero_mul, h2, h3', bq, cond_true, h1, ag, Nat.one_mul] at h2' ⊢; simp only [h2', h1', bq, cond_true, cv, ag, qj hp hq, chunks]; rw [List.take_append_of_le_length (by omega), List.take_of_length_le (by omega), List.drop_append_of_le_length (by omega), List.drop_of_length_le (by omega)]; simp [List.take_of_length_le, hd']
attribute [local simp] da cD bT bU cE fc fw ef dj ec dh ed di fv bV gZ dW hI gV gO AM.ae aQ aR bg aP aD AM.onG fP cc eB Ex.bh cond_true cond_false cW cV cU cT cS cY cR cZ cX eg dm dp cC db AM.dt AM.cellsOf AM.an bQ beq_true cM al aF bf bz bS decide_true decide_false bL bB bq bA ba aC az aZ aw dc de ft aA bK bu bR cz dV dZ cK eA ew set_set eD dD fM dE cI bD dC dB cH dA eC eE fG fH bE cm ep fF dP aL aU aE AM.aT ah cQ bO aX aS aO aN AM.part bm aM cf cj cg cd cd.eO AM.dM bC cr dI fE aL laid aH bc cv
attribute [-simp] ag
attribute [local congr] dJ
def X.jP (x : X) (c : Cap) : List PV := [.v (.int .i64 x.op), .v (.int .i64 x.bin), .v (.int .u64 x.n), .v (.int .i64 x.kd), .v (.string x.rc), .v (.string x.name), .sl (et x.kids) c, .v (.int .i64 x.line), .v (.int .i64 x.col)]
theorem yU (x : X) (c : Cap) : laid z9 0 (x.jP c) = x.jP c := je _ _ rfl
theorem pr (x : X) : laid z9 0 x.enc = x.enc := je _ _ (X.len x).symm
theorem sy (x : X) (c : Cap) (a0 a1 a2 a3 a4 a5 a6 a7 a8 : PV) : (((((((((x.jP c).set 0 a0).set 1 a1).set 2 a2).set 3 a3).set 4 a4).set 5 a5).set 6 a6).set 7 a7).set 8 a8 = [a0, a1, a2, a3, a4, a5, a6, a7, a8] := rfl
abbrev B4 (c : Cap) : Prop := c = .dead ∨ c = .full
theorem sx (x : X) : x.jP .dead = x.enc := by rw [X.cO]; rfl
theorem i7 (x : X) (c : Cap) : (x.jP c).length = 9 := rfl
theorem jF (x : X) (c : Cap) : (x.jP c).take 9 = x.jP c := rfl
theorem kW (x : X) (c : Cap) : aH (x.jP c) = true := rfl
theorem xz (x : X) (c : Cap) : cy (x.jP c) = some x.enc := by rw [X.cO]; rfl
theorem Cx (x : X) (c : Cap) : (x.jP c).all dM = true := rfl
theorem yT (x : X) (c : Cap) : (x.jP c).map bO = x.enc := by rw [X.cO]; rfl
theorem tI (x : X) {c : Cap} (hc : B4 c) (m : Nat) : (x.jP c).all (sf true m 4) = true := by rcases hc with rfl | rfl <;> rfl
abbrev mkB (e k : X) (b : Int) (t : Tok) : X := ⟨9, b, 0, 0, bs [], bs [], [e, k], t.p.1, t.p.2⟩
theorem As (e k : X) (b : Int) (t : Tok) (c : Cap) : (mkB e k b t).jP c = [.v (.int .i64 9), .v (.int .i64 b), .v (.int .u64 0), .v (.int .i64 0), str [], str [], .sl [e.enc, k.enc] c, .v (.int .i64 (t.p.1 : Int)), .v (.int .i64 (t.p.2 : Int))] := by
 simp only [X.jP, mkB, X.op, X.bin, X.n, X.kd, X.rc, X.name, X.kids, X.line, X.col, et]
def xg (ts : List Tok) (lv d : Nat) (e : X) (l : List Tok) (x : PR X) : Prop := match x with
 | .ok a l' => Sfx ts l' ∧ ∀ b (Y : St), b < Y.stk.length → ∀ N T Lb, Y.stk.length = N → Y.tk.length = T → Y.lp.length = Lb → ∀ c, B4 c → ∃ c1 c2,
  itE (nt.b0 (E L) itE N Lb) [.ptr false b 0, .v (.int .i64 (lv : Int)), .ptr false N 0, .ptr false (N + 1) 0] ((Y.af false b (pc ts l d)).app [⟨z9, []⟩, ⟨e.jP c, []⟩] [] []) =
   some (.ret, [.ptr false b 0, .v (.int .i64 (lv : Int)), .ptr false N 0, .ptr false (N + 1) 0], (Y.af false b (pc ts l' d)).app [⟨a.jP c2, []⟩, ⟨c1, []⟩] [] [])
 | .bad er q => ∃ a' d'', ∀ b (Y : St), b < Y.stk.length → ∀ N T Lb, Y.stk.length = N → Y.tk.length = T → Y.lp.length = Lb → ∀ c, B4 c → ∃ c1 c2,
  itE (nt.b0 (E L) itE N Lb) [.ptr false b 0, .v (.int .i64 (lv : Int)), .ptr false N 0, .ptr false (N + 1) 0] ((Y.af false b (pc ts l d)).app [⟨z9, []⟩, ⟨e.jP c, []⟩] [] []) =
   some (.pan 92 (.agg #[]), [.ptr false b 0, .v (.int .i64 (lv : Int)), .ptr false N 0, .ptr false (N + 1) 0], (Y.af false b (pcf (ax ts) a' d'' er q.1 q.2)).app [⟨c1, []⟩, ⟨c2, []⟩] [] [])
section
variable {ts : List Tok} (hr : Row ts) {n : Nat} (ih : mb ts n)
include hr ih
theorem C5 (ihr : ∀ lv d e l x, lv < 3 → d ≤ 12 → Sfx ts l → gD n lv d e l = some x → xg ts lv d e l x) : ∀ lv d e l x, lv < 3 → d ≤ 12 → Sfx ts l → gD (n + 1) lv d e l = some x → xg ts lv d e l x := by
 intro lv d e l x hlv hd12 h hx; have elz := yU e; have s1 := h.next hr
 have e67 := fun b (Y : St) hb => ay (dH h d 0 0 0 (b := b)) (s := Y) hb
 have e151 := fun b (Y : St) hb => ay (kA hr h d (b := b)) (s := Y) hb
 have e188 := Bu lv hlv
 have hmem : hd l ∈ ts := by
  obtain ⟨t, r, rfl⟩ := h.cons; obtain ⟨_, dn, rfl⟩ := h; simp [hd]
 have htx := hr.txt _ hmem
 have sg1 : aW Tryd.prog true .add 9 (str [32]) (str (hd l).text) = some (str (32 :: (hd l).text)) := by
  rw [zs (by simp only [bG]; omega)]; rfl
 have sg2 : aW Tryd.prog true .add 9 (str (32 :: (hd l).text)) (str [32]) = some (str (32 :: ((hd l).text ++ [32]))) := by
  rw [zs (by simp only [bG, al, aF]; omega)]; rfl
 have e189 := En (hd l).text; simp only [gD] at hx
 by_cases k5 : (hd l).kind = 5
 · have e169 : ∀ Z, E L (.func 133) [str (32 :: ir (fV lv)), str (32 :: ((hd l).text ++ [32]))] Z = some (.v (.bool ((fV lv).contains (hd l).text)), Z) := fun Z => by
    rw [td (by
     obtain rfl | rfl | rfl : lv = 0 ∨ lv = 1 ∨ lv = 2 := by omega
     all_goals simp [fV, ir]), zw (hr.sign _ hmem k5)]
   cases hc0 : (fV lv).contains (hd l).text with
   | false =>
    rw [hc0] at e169; rw [gI, if_neg (by rw [hc0]; simp)] at hx; obtain rfl := Option.some.inj hx; refine ⟨h, fun b Y hb N T Lb hN hT hL c hc => ⟨e.jP c, c, ?_⟩⟩; have e67 := e67 b Y hb
    have hb2 : b < N + 2 := by omega
    have hsf := tI e hc; simp only [pc, pcf, bX, Tok.c, bj, k5, aa] at e67 ⊢
    generalize ir (fV lv) = sg at *
    generalize hd l = t at *
    generalize ax ts = es at *
    apply eK; simp [nt.b0, hN, hT, hL, hb, hb2, elz, e67, e188, sg1, sg2, e169, i7, jF, kW, hsf, je, fm, fc]
   | true =>
    rw [hc0] at e169; rw [gI, if_pos ⟨k5, hc0⟩] at hx; simp only at hx; obtain ⟨y, hy⟩ := dw hx; rw [hy] at hx; have h1 := ih.chain (lv + 1) d (cP l) y (by omega) hd12 s1 hy
    have w1 : IntKind.i64.wrap ((lv : Int) + 1) = ((lv + 1 : Nat) : Int) := by rw [IntWalk.i64_in _ (by omega)]; omega
    cases y with
    | bad er q =>
     obtain rfl := bJ hx rfl; obtain ⟨a', d'', e1⟩ := bn h1 rfl; refine ⟨a', d'', fun b Y hb N T Lb hN hT hL c hc => ⟨z9, e.jP c, ?_⟩⟩; have e1 := e1 hb; have e67 := e67 b Y hb; have e151 := e151 b Y hb
     have hb2 : b < N + 2 := by omega
     have hsf := tI e hc; simp only [pc, pcf, bX, Tok.c, bj, k5, aa] at e67 e151 e1 ⊢
     generalize ((lv + 1 : Nat) : Int) = lv1 at *
     generalize ir (fV lv) = sg at *
     generalize uA (hd l).text = bt at *
     generalize hd l = t at *
     generalize ax ts = es at *
     apply iE; simp [nt.b0, hN, hT, hL, hb, hb2, elz, e67, e151, e188, e189, e1, sg1, sg2, e169, w1, i7, jF, kW, hsf, je, fm, fc]
    | ok k l1 =>
     have hx := cx hx rfl; have s2 := br h1 rfl
     by_cases h0 : lv = 0
     · subst h0
       simp only [if_true] at hx; obtain rfl := Option.some.inj hx; refine ⟨s2, fun b Y hb N T Lb hN hT hL c hc => ⟨(mkB e k (uA (hd l).text) (hd l)).jP .full, .full, ?_⟩⟩; have e1 := aK h1 rfl hb; have e67 := e67 b Y hb; have e151 := e151 b Y hb
       have hb2 : b < N + 2 := by omega
       have hl2 := Dv (sz := 9) (z := z9) rfl (i7 e c) (X.len k) (xz e c) (X.pl k) (X.len e) (X.len k); simp only [pc, pcf, bX, As, Tok.c, bj, k5, ic, aa] at e67 e151 e1 e188 w1 ⊢
       generalize ((0 + 1 : Nat) : Int) = lv1 at *
       generalize ir (fV 0) = sg at *
       generalize uA (hd l).text = bt at *
       generalize hd l = t at *
       generalize ax ts = es at *
       apply eK; simp only [Int.zero_add] at w1; simp [nt.b0, hN, hT, hL, hb, hb2, elz, e67, e151, e188, e189, e1, sg1, sg2, e169, w1, sy, hl2, i7, jF, kW, je, fm, fc]
     · rw [if_neg h0] at hx
       have h2 := ihr lv d _ l1 x hlv hd12 s2 hx
       have h0' : ¬ ((lv : Int) = 0) := by omega
       have stp : ∀ b (Y : St), b < Y.stk.length → ∀ N T Lb, Y.stk.length = N → Y.tk.length = T → Y.lp.length = Lb → ∀ c, B4 c →
        nt.b0 (E L) itE N Lb [.ptr false b 0, .v (.int .i64 (lv : Int)), .ptr false N 0, .ptr false (N + 1) 0] ((Y.af false b (pc ts l d)).app [⟨z9, []⟩, ⟨e.jP c, []⟩] [] []) =
         some (.normal, [.ptr false b 0, .v (.int .i64 (lv : Int)), .ptr false N 0, .ptr false (N + 1) 0], (Y.af false b (pc ts l1 d)).app [⟨z9, []⟩, ⟨(mkB e k (uA (hd l).text) (hd l)).jP .full, []⟩] [] []) := by
        intro b Y hb N T Lb hN hT hL c hc; have e1 := aK h1 rfl hb; have e67 := e67 b Y hb; have e151 := e151 b Y hb
        have hb2 : b < N + 2 := by omega
        have hl2 := Dv (sz := 9) (z := z9) rfl (i7 e c) (X.len k) (xz e c) (X.pl k) (X.len e) (X.len k); simp only [pc, pcf, bX, As, Tok.c, bj, k5, aa] at e67 e151 e1 ⊢
        generalize ((lv + 1 : Nat) : Int) = lv1 at *
        generalize ir (fV lv) = sg at *
        generalize uA (hd l).text = bt at *
        generalize hd l = t at *
        generalize ax ts = es at *
        simp [nt.b0, hN, hT, hL, hb, hb2, elz, e67, e151, e188, e189, e1, sg1, sg2, e169, w1, h0, h0', sy, hl2, i7, jF, kW, je, fm, fc]
       cases x with
       | ok a l2 =>
        refine ⟨h2.1, fun b Y hb N T Lb hN hT hL c hc => ?_⟩; obtain ⟨c1, c2, hit⟩ := h2.2 b Y hb N T Lb hN hT hL .full (.inr rfl); exact ⟨c1, c2, (bW (stp b Y hb N T Lb hN hT hL c hc)).trans hit⟩
       | bad er q =>
        obtain ⟨a', d'', h2⟩ := h2; refine ⟨a', d'', fun b Y hb N T Lb hN hT hL c hc => ?_⟩; obtain ⟨c1, c2, hit⟩ := h2 b Y hb N T Lb hN hT hL .full (.inr rfl); exact ⟨c1, c2, (bW (stp b Y hb N T Lb hN hT hL c hc)).trans hit⟩
 · rw [gI, if_neg (fun q => k5 q.1)] at hx
   obtain rfl := Option.some.inj hx; refine ⟨h, fun b Y hb N T Lb hN hT hL c hc => ⟨e.jP c, c, ?_⟩⟩; have e67 := e67 b Y hb
   have hb2 : b < N + 2 := by omega
   have hsf := tI e hc
   have k5' : ¬ (((hd l).kind : Int) = 5) := by omega
   simp only [pc, pcf, bX, Tok.c, bj, aa] at e67 ⊢
   generalize hd l = t at *
   generalize ax ts = es at *
   apply eK; simp [nt.b0, hN, hT, hL, hb, hb2, elz, e67, k5, k5', i7, jF, kW, hsf, je, fm, fc]
end
end Go.Proofs.YtlhlijaondmccaaDoor.S
namespace Go.Proofs.YtlhlijaondmccaaDoor.S
open Go Go.AM Go.Proofs
attribute [local simp] da cD bT bU cE fc fw ef dj ec dh ed di fv bV gZ dW hI gV gO AM.ae aQ aR bg aP aD AM.onG fP cc eB Ex.bh cond_true cond_false cW cV cU cT cS cY cR cZ cX eg dm dp cC db AM.dt AM.cellsOf AM.an bQ beq_true cM al aF bf bz bS decide_true decide_false bL bB bq bA ba aC az aZ aw dc de ft aA bK bu bR cz dV dZ cK eA ew set_set eD dD fM dE cI bD dC dB cH dA eC eE fG fH bE cm ep fF dP aL aU aE AM.aT ah cQ bO aX aS aO aN AM.part bm aM cf cj cg cd cd.eO AM.dM bC cr dI fE aL laid aH bc cv
attribute [-simp] ag
attribute [local congr] dJ
section
variable {ts : List Tok} (hr : Row ts) {n : Nat} (ih : mb ts n)
include hr ih
theorem An (ihr : ∀ lv d e l x, lv < 3 → d ≤ 12 → Sfx ts l → gD n lv d e l = some x → xg ts lv d e l x) : ∀ lv d l x, lv ≤ 3 → d ≤ 12 → Sfx ts l → cN (n + 1) lv d l = some x → Rd 137 [.v (.int .i64 (lv : Int))] ts d d l bX x := by
 intro lv d l x hlv hd12 h hx; simp only [cN] at hx
 by_cases k3 : lv = 3
 · subst k3
   rw [if_pos rfl] at hx; have h1 := ih.pre d l x hd12 h hx
   cases x with
   | bad er q =>
    obtain ⟨a', d'', e1⟩ := bn h1 rfl; refine ⟨a', d'', fun b Y hb => ?_⟩; have e1 := e1 hb; rw [og]; obtain ⟨N, T, Lb, hN, hT, hL⟩ := lens3 Y; rw [hN] at hb
    conv => lhs; rw [← ak (Y.af false b (pc ts l d))]
    simp only [pc, pcf, bX, aa] at e1 ⊢
    generalize ax ts = es at *
    simp [nt, hN, hT, hL, hb, e1]
   | ok a l' =>
    refine ⟨br h1 rfl, fun b Y hb => ?_⟩; have e1 := aK h1 rfl hb; rw [og]; obtain ⟨N, T, Lb, hN, hT, hL⟩ := lens3 Y; rw [hN] at hb
    conv => lhs; rw [← ak (Y.af false b (pc ts l d))]
    simp only [pc, pcf, bX, aa] at e1 ⊢
    generalize ax ts = es at *
    simp [nt, hN, hT, hL, hb, e1, X.len, mU, X.okc, X.can, X.kJ, X.fl, pr]
 rw [if_neg k3] at hx; obtain ⟨y, hy⟩ := dw hx; rw [hy] at hx; have h1 := ih.chain (lv + 1) d l y (by omega) hd12 h hy
 have w1 : IntKind.i64.wrap ((lv : Int) + 1) = ((lv + 1 : Nat) : Int) := by rw [IntWalk.i64_in _ (by omega)]; omega
 have k3' : ¬ ((lv : Int) = 3) := by omega
 cases y with
 | bad er q =>
  obtain rfl := bJ hx rfl; obtain ⟨a', d'', e1⟩ := bn h1 rfl; refine ⟨a', d'', fun b Y hb => ?_⟩; have e1 := e1 hb; rw [og]; obtain ⟨N, T, Lb, hN, hT, hL⟩ := lens3 Y; rw [hN] at hb
  conv => lhs; rw [← ak (Y.af false b (pc ts l d))]
  simp only [pc, pcf, bX, aa] at e1 ⊢
  generalize ((lv + 1 : Nat) : Int) = lv1 at *
  generalize ax ts = es at *
  simp [nt, hN, hT, hL, hb, e1, w1, k3, k3']
 | ok e l1 =>
  have hx := cx hx rfl; have s1 := br h1 rfl; have h2 := ihr lv d e l1 x (by omega) hd12 s1 hx
  cases x with
  | bad er q =>
   obtain ⟨a', d'', h2⟩ := h2; refine ⟨a', d'', fun b Y hb => ?_⟩; have e1 := aK h1 rfl hb; obtain ⟨c1, c2, hit⟩ := h2 b Y hb _ _ _ rfl rfl rfl .dead (.inl rfl); rw [sx] at hit; rw [og]; obtain ⟨N, T, Lb, hN, hT, hL⟩ := lens3 Y; rw [hN] at hb; rw [hN] at hit
   conv => lhs; rw [← ak (Y.af false b (pc ts l d))]
   rw [hL] at hit
   have hb2 : b < N + 2 := by omega
   simp only [pc, pcf, bX, aa] at e1 hit ⊢
   generalize ((lv + 1 : Nat) : Int) = lv1 at *
   generalize ax ts = es at *
   simp [nt, hN, hT, hL, hb, hb2, e1, w1, k3, k3', X.len, mU, X.okc, X.can, X.kJ, X.fl, pr, hit, Ex.bh]
  | ok a l2 =>
   refine ⟨h2.1, fun b Y hb => ?_⟩; have e1 := aK h1 rfl hb; obtain ⟨c1, c2, hit⟩ := h2.2 b Y hb _ _ _ rfl rfl rfl .dead (.inl rfl); have hfl := Cx a c2; rw [sx] at hit; rw [og]; obtain ⟨N, T, Lb, hN, hT, hL⟩ := lens3 Y; rw [hN] at hb; rw [hN] at hit
   conv => lhs; rw [← ak (Y.af false b (pc ts l d))]
   rw [hL] at hit
   have hb2 : b < N + 2 := by omega
   simp only [pc, pcf, bX, aa] at e1 hit ⊢
   generalize ((lv + 1 : Nat) : Int) = lv1 at *
   generalize ax ts = es at *
   simp [nt, hN, hT, hL, hb, hb2, e1, w1, k3, k3', X.len, mU, X.okc, X.can, X.kJ, X.fl, pr, hit, Ex.bh, i7, jF, kW, hfl, yT]
end
theorem xD {ts : List Tok} (hr : Row ts) : ∀ n, mb ts n ∧ ∀ lv d e l x, lv < 3 → d ≤ 12 → Sfx ts l → gD n lv d e l = some x → xg ts lv d e l x
 | 0 => by
  refine ⟨⟨?_, ?_, ?_⟩, ?_⟩
  · intro d l x _ _ h; simp [iA] at h
  · intro d l x _ _ h; simp [ff] at h
  · intro lv d l x _ _ _ h; simp [cN] at h
  · intro lv d e l x _ _ _ h; simp [gD] at h
 | n + 1 => by
  obtain ⟨i, r⟩ := xD hr n; exact ⟨⟨Cm hr i, EB hr i, An hr i r⟩, C5 hr i r⟩
abbrev dY (x : Pl) : PV := .agg x.enc
abbrev eJ (x : Rt) : PV := .agg x.enc
theorem fC (a b c d e : PV) : gd Tryd.prog 122 (.agg [a, b, c, d, e]) 1 = some b := by kernel_rfl
theorem sQ {ts : List Tok} (hr : Row ts) {n : Nat} (ih : mb ts n) {d : Nat} {l : List Tok} {x : PR Pl} (hd12 : d ≤ 12) (h : Sfx ts l) (hx : nX n d l = some x) : Rd 118 [] ts d d l dY x := by
 unfold nX at hx; have h1 := gK hr h d 1
 cases x1 : eM 1 l with
 | bad e q =>
  obtain rfl := bJ hx x1; obtain ⟨a', d'', eb⟩ := bn h1 x1; refine ⟨a', d'', fun b Y hb => ?_⟩; have eb := eb hb; rw [lA]; obtain ⟨N, T, Lb, hN, hT, hL⟩ := lens3 Y; rw [hN] at hb
  conv => lhs; rw [← ak (Y.af false b (pc ts l d))]
  simp only [pc, pcf, aJ, Tok.c, bj, aa, if_true, if_false, ab, bX, dY] at eb ⊢
  generalize ax ts = es at *
  simp [uj, hN, hT, hL, hb, eb, Pl.enc, X.enc, et, x0, fC]
 | ok t1 l1 =>
  have hx := cx hx x1
  try dsimp only at hx
  have s1 := br h1 x1
  cases i2 : isT l1 [46] with
  | true =>
   rw [if_pos i2] at hx; have s2 := s1.isT hr i2; have h3 := gK hr s2 d 1
   cases x3 : eM 1 l1.tail with
   | bad e q =>
    obtain rfl := bJ hx x3; obtain ⟨a', d'', eb⟩ := bn h3 x3; refine ⟨a', d'', fun b Y hb => ?_⟩; have eb := eb hb; have e1 := aK h1 x1 hb; have e2 := ay (aB hr s1 d [46] (b := b)) (s := Y) hb; rw [lA]; obtain ⟨N, T, Lb, hN, hT, hL⟩ := lens3 Y; rw [hN] at hb
    conv => lhs; rw [← ak (Y.af false b (pc ts l d))]
    simp only [pc, pcf, aJ, Tok.c, bj, aa, if_true, if_false, ab, bX, dY, i2] at e1 e2 eb ⊢
    generalize ax ts = es at *
    simp [uj, hN, hT, hL, hb, e1, e2, eb, i2, Pl.enc, X.enc, et, x0, fC]
   | ok t3 l3 =>
    have hx := cx hx x3
    try dsimp only at hx
    have s3 := br h3 x3; obtain rfl := Option.some.inj hx; refine ⟨s3, fun b Y hb => ?_⟩; have e1 := aK h1 x1 hb; have e2 := ay (aB hr s1 d [46] (b := b)) (s := Y) hb; have e3 := aK h3 x3 hb; rw [lA]; obtain ⟨N, T, Lb, hN, hT, hL⟩ := lens3 Y; rw [hN] at hb
    conv => lhs; rw [← ak (Y.af false b (pc ts l d))]
    simp only [pc, pcf, aJ, Tok.c, bj, aa, if_true, if_false, ab, bX, dY, i2] at e1 e2 e3 ⊢
    generalize ax ts = es at *
    simp [uj, hN, hT, hL, hb, e1, e2, e3, i2, Pl.enc, X.enc, et, x0, fC]
  | false =>
   rw [if_neg (by rw [i2]; decide)] at hx
   cases i4 : isT l1 [91] with
   | true =>
    rw [if_pos i4] at hx; have s4 := s1.isT hr i4; obtain ⟨y5, hy5⟩ := dw hx; rw [hy5] at hx; have h5 := kv hr ih hd12 s4 hy5
    cases y5 with
    | bad e q =>
     obtain rfl := bJ hx rfl; obtain ⟨a', d'', eb⟩ := bn h5 rfl; refine ⟨a', d'', fun b Y hb => ?_⟩; have eb := eb hb; have e1 := aK h1 x1 hb; have e2 := ay (aB hr s1 d [46] (b := b)) (s := Y) hb; have e4 := ay (aB hr s1 d [91] (b := b)) (s := Y) hb; rw [lA]; obtain ⟨N, T, Lb, hN, hT, hL⟩ := lens3 Y; rw [hN] at hb
     conv => lhs; rw [← ak (Y.af false b (pc ts l d))]
     simp only [pc, pcf, aJ, Tok.c, bj, aa, if_true, if_false, ab, bX, dY, i2, i4] at e1 e2 e4 eb ⊢
     generalize ax ts = es at *
     simp [uj, hN, hT, hL, hb, e1, e2, e4, eb, i2, i4, Pl.enc, X.enc, et, x0, fC]
    | ok x5 l5 =>
     have hx := cx hx rfl
     try dsimp only at hx
     have s5 := br h5 rfl; have h6 := eI hr s5 d [93]
     cases x6 : cF [93] l5 with
     | bad e q =>
      obtain rfl := bJ hx x6; obtain ⟨a', d'', eb⟩ := bn h6 x6; refine ⟨a', d'', fun b Y hb => ?_⟩; have eb := eb hb; have e1 := aK h1 x1 hb; have e2 := ay (aB hr s1 d [46] (b := b)) (s := Y) hb; have e4 := ay (aB hr s1 d [91] (b := b)) (s := Y) hb; have e5 := aK h5 rfl hb; rw [lA]; obtain ⟨N, T, Lb, hN, hT, hL⟩ := lens3 Y; rw [hN] at hb
      conv => lhs; rw [← ak (Y.af false b (pc ts l d))]
      simp only [pc, pcf, aJ, Tok.c, bj, aa, if_true, if_false, ab, bX, dY, i2, i4] at e1 e2 e4 e5 eb ⊢; cases x5
      generalize ax ts = es at *
      simp [uj, hN, hT, hL, hb, e1, e2, e4, e5, eb, i2, i4, Pl.enc, X.enc, et, x0, fC]
     | ok u6 l6 =>
      have hx := cx hx x6
      try dsimp only at hx
      have s6 := br h6 x6; obtain rfl := Option.some.inj hx; refine ⟨s6, fun b Y hb => ?_⟩; have e1 := aK h1 x1 hb; have e2 := ay (aB hr s1 d [46] (b := b)) (s := Y) hb; have e4 := ay (aB hr s1 d [91] (b := b)) (s := Y) hb; have e5 := aK h5 rfl hb; have e6 := aK h6 x6 hb; rw [lA]; obtain ⟨N, T, Lb, hN, hT, hL⟩ := lens3 Y; rw [hN] at hb
      conv => lhs; rw [← ak (Y.af false b (pc ts l d))]
      simp only [pc, pcf, aJ, Tok.c, bj, aa, if_true, if_false, ab, bX, dY, i2, i4] at e1 e2 e4 e5 e6 ⊢; cases x5
      generalize ax ts = es at *
      simp [uj, hN, hT, hL, hb, e1, e2, e4, e5, e6, i2, i4, Pl.enc, X.enc, et, x0, fC]
   | false =>
    rw [if_neg (by rw [i4]; decide)] at hx; obtain rfl := Option.some.inj hx; refine ⟨s1, fun b Y hb => ?_⟩; have e1 := aK h1 x1 hb; have e2 := ay (aB hr s1 d [46] (b := b)) (s := Y) hb; have e4 := ay (aB hr s1 d [91] (b := b)) (s := Y) hb; rw [lA]; obtain ⟨N, T, Lb, hN, hT, hL⟩ := lens3 Y; rw [hN] at hb
    conv => lhs; rw [← ak (Y.af false b (pc ts l d))]
    simp only [pc, pcf, aJ, Tok.c, bj, aa, if_true, if_false, ab, bX, dY, i2, i4] at e1 e2 e4 ⊢
    generalize ax ts = es at *
    simp [uj, hN, hT, hL, hb, e1, e2, e4, i2, i4, Pl.enc, X.enc, et, x0, fC]
theorem pO {ts : List Tok} (hr : Row ts) {n : Nat} (ih : mb ts n) {d : Nat} {l : List Tok} {x : PR Rt} (hd12 : d ≤ 12) (h : Sfx ts l) (hx : j6 n d l = some x) : Rd 117 [] ts d d l eJ x := by
 have e67 := fun b (Y : St) hb => ay (dH h d 0 0 0 (b := b)) (s := Y) hb
 simp only [j6] at hx
 cases i1 : isT l [108, 111, 97, 100] with
 | true =>
  rw [if_pos i1] at hx; have s1 := h.isT hr i1; obtain ⟨y2, hy2⟩ := dw hx; rw [hy2] at hx; have h2 := sQ hr ih hd12 s1 hy2
  cases y2 with
  | bad e q =>
   obtain rfl := bJ hx rfl; obtain ⟨a', d'', eb⟩ := bn h2 rfl; refine ⟨a', d'', fun b Y hb => ?_⟩; have eb := eb hb; have e67 := e67 b Y hb; have e1 := ay (aB hr h d [108, 111, 97, 100] (b := b)) (s := Y) hb; rw [iR]; obtain ⟨N, T, Lb, hN, hT, hL⟩ := lens3 Y; rw [hN] at hb
   conv => lhs; rw [← ak (Y.af false b (pc ts l d))]
   simp only [pc, pcf, aJ, Tok.c, bj, aa, if_true, if_false, ab, bX, dY, eJ, i1] at e67 e1 eb ⊢
   generalize ax ts = es at *
   simp [qM, hN, hT, hL, hb, e67, e1, eb, i1, Rt.enc, Pl.enc, X.enc, et, x0, pl0, fC]
  | ok p2 l2 =>
   have hx := cx hx rfl
   try dsimp only at hx
   have s2 := br h2 rfl; obtain rfl := Option.some.inj hx; refine ⟨s2, fun b Y hb => ?_⟩; have e67 := e67 b Y hb; have e1 := ay (aB hr h d [108, 111, 97, 100] (b := b)) (s := Y) hb; have e2 := aK h2 rfl hb; rw [iR]; obtain ⟨N, T, Lb, hN, hT, hL⟩ := lens3 Y; rw [hN] at hb
   conv => lhs; rw [← ak (Y.af false b (pc ts l d))]
   simp only [pc, pcf, aJ, Tok.c, bj, aa, if_true, if_false, ab, bX, dY, eJ, i1] at e67 e1 e2 ⊢; obtain ⟨_, _, _, ⟨⟩, _, _⟩ := p2
   generalize ax ts = es at *
   simp [qM, hN, hT, hL, hb, e67, e1, e2, i1, Rt.enc, Pl.enc, X.enc, et, x0, pl0, fC]
 | false =>
  rw [if_neg (by rw [i1]; decide)] at hx
  cases i3 : isT l [115, 105, 122, 101] with
  | true =>
   rw [if_pos i3] at hx; have s3 := h.isT hr i3; have h4 := gK hr s3 d 1
   cases x4 : eM 1 l.tail with
   | bad e q =>
    obtain rfl := bJ hx x4; obtain ⟨a', d'', eb⟩ := bn h4 x4; refine ⟨a', d'', fun b Y hb => ?_⟩; have eb := eb hb; have e67 := e67 b Y hb; have e1 := ay (aB hr h d [108, 111, 97, 100] (b := b)) (s := Y) hb; have e3 := ay (aB hr h d [115, 105, 122, 101] (b := b)) (s := Y) hb; rw [iR]; obtain ⟨N, T, Lb, hN, hT, hL⟩ := lens3 Y; rw [hN] at hb
    conv => lhs; rw [← ak (Y.af false b (pc ts l d))]
    simp only [pc, pcf, aJ, Tok.c, bj, aa, if_true, if_false, ab, bX, dY, eJ, i1, i3] at e67 e1 e3 eb ⊢
    generalize ax ts = es at *
    simp [qM, hN, hT, hL, hb, e67, e1, e3, eb, i1, i3, Rt.enc, Pl.enc, X.enc, et, x0, pl0, fC]
   | ok t4 l4 =>
    have hx := cx hx x4
    try dsimp only at hx
    have s4 := br h4 x4; obtain rfl := Option.some.inj hx; refine ⟨s4, fun b Y hb => ?_⟩; have e67 := e67 b Y hb; have e1 := ay (aB hr h d [108, 111, 97, 100] (b := b)) (s := Y) hb; have e3 := ay (aB hr h d [115, 105, 122, 101] (b := b)) (s := Y) hb; have e4 := aK h4 x4 hb; rw [iR]; obtain ⟨N, T, Lb, hN, hT, hL⟩ := lens3 Y; rw [hN] at hb
    conv => lhs; rw [← ak (Y.af false b (pc ts l d))]
    simp only [pc, pcf, aJ, Tok.c, bj, aa, if_true, if_false, ab, bX, dY, eJ, i1, i3] at e67 e1 e3 e4 ⊢
    generalize ax ts = es at *
    simp [qM, hN, hT, hL, hb, e67, e1, e3, e4, i1, i3, Rt.enc, Pl.enc, X.enc, et, x0, pl0, fC]
  | false =>
   rw [if_neg (by rw [i3]; decide)] at hx
   cases i5 : isT l [110, 101, 119] with
   | true =>
    rw [if_pos i5] at hx; have s5 := h.isT hr i5
    cases i6 : isT l.tail [105, 110, 116, 115] with
    | true =>
     rw [if_pos i6] at hx; have s6 := s5.isT hr i6; obtain ⟨y7, hy7⟩ := dw hx; rw [hy7] at hx; have h7 := kv hr ih hd12 s6 hy7
     cases y7 with
     | bad e q =>
      obtain rfl := bJ hx rfl; obtain ⟨a', d'', eb⟩ := bn h7 rfl; refine ⟨a', d'', fun b Y hb => ?_⟩; have eb := eb hb; have e67 := e67 b Y hb; have e1 := ay (aB hr h d [108, 111, 97, 100] (b := b)) (s := Y) hb; have e3 := ay (aB hr h d [115, 105, 122, 101] (b := b)) (s := Y) hb; have e5 := ay (aB hr h d [110, 101, 119] (b := b)) (s := Y) hb; have e6 := ay (aB hr s5 d [105, 110, 116, 115] (b := b)) (s := Y) hb; rw [iR]; obtain ⟨N, T, Lb, hN, hT, hL⟩ := lens3 Y; rw [hN] at hb
      conv => lhs; rw [← ak (Y.af false b (pc ts l d))]
      simp only [pc, pcf, aJ, Tok.c, bj, aa, if_true, if_false, ab, bX, dY, eJ, i1, i3, i5, i6] at e67 e1 e3 e5 e6 eb ⊢
      generalize ax ts = es at *
      simp [qM, hN, hT, hL, hb, e67, e1, e3, e5, e6, eb, i1, i3, i5, i6, Rt.enc, Pl.enc, X.enc, et, x0, pl0, fC]
     | ok x7 l7 =>
      have hx := cx hx rfl
      try dsimp only at hx
      have s7 := br h7 rfl; obtain rfl := Option.some.inj hx; refine ⟨s7, fun b Y hb => ?_⟩; have e67 := e67 b Y hb; have e1 := ay (aB hr h d [108, 111, 97, 100] (b := b)) (s := Y) hb; have e3 := ay (aB hr h d [115, 105, 122, 101] (b := b)) (s := Y) hb; have e5 := ay (aB hr h d [110, 101, 119] (b := b)) (s := Y) hb; have e6 := ay (aB hr s5 d [105, 110, 116, 115] (b := b)) (s := Y) hb; have e7 := aK h7 rfl hb; rw [iR]; obtain ⟨N, T, Lb, hN, hT, hL⟩ := lens3 Y; rw [hN] at hb
      conv => lhs; rw [← ak (Y.af false b (pc ts l d))]
      simp only [pc, pcf, aJ, Tok.c, bj, aa, if_true, if_false, ab, bX, dY, eJ, i1, i3, i5, i6] at e67 e1 e3 e5 e6 e7 ⊢; cases x7
      generalize ax ts = es at *
      simp [qM, hN, hT, hL, hb, e67, e1, e3, e5, e6, e7, i1, i3, i5, i6, Rt.enc, Pl.enc, X.enc, et, x0, pl0, fC]
    | false =>
     rw [if_neg (by rw [i6]; decide)] at hx; have h8 := gK hr s5 d 1
     cases x8 : eM 1 l.tail with
     | bad e q =>
      obtain rfl := bJ hx x8; obtain ⟨a', d'', eb⟩ := bn h8 x8; refine ⟨a', d'', fun b Y hb => ?_⟩; have eb := eb hb; have e67 := e67 b Y hb; have e1 := ay (aB hr h d [108, 111, 97, 100] (b := b)) (s := Y) hb; have e3 := ay (aB hr h d [115, 105, 122, 101] (b := b)) (s := Y) hb; have e5 := ay (aB hr h d [110, 101, 119] (b := b)) (s := Y) hb; have e6 := ay (aB hr s5 d [105, 110, 116, 115] (b := b)) (s := Y) hb; rw [iR]; obtain ⟨N, T, Lb, hN, hT, hL⟩ := lens3 Y; rw [hN] at hb
      conv => lhs; rw [← ak (Y.af false b (pc ts l d))]
      simp only [pc, pcf, aJ, Tok.c, bj, aa, if_true, if_false, ab, bX, dY, eJ, i1, i3, i5, i6] at e67 e1 e3 e5 e6 eb ⊢
      generalize ax ts = es at *
      simp [qM, hN, hT, hL, hb, e67, e1, e3, e5, e6, eb, i1, i3, i5, i6, Rt.enc, Pl.enc, X.enc, et, x0, pl0, fC]
     | ok t8 l8 =>
      have hx := cx hx x8
      try dsimp only at hx
      have s8 := br h8 x8; obtain rfl := Option.some.inj hx; refine ⟨s8, fun b Y hb => ?_⟩; have e67 := e67 b Y hb; have e1 := ay (aB hr h d [108, 111, 97, 100] (b := b)) (s := Y) hb; have e3 := ay (aB hr h d [115, 105, 122, 101] (b := b)) (s := Y) hb; have e5 := ay (aB hr h d [110, 101, 119] (b := b)) (s := Y) hb; have e6 := ay (aB hr s5 d [105, 110, 116, 115] (b := b)) (s := Y) hb; have e8 := aK h8 x8 hb; rw [iR]; obtain ⟨N, T, Lb, hN, hT, hL⟩ := lens3 Y; rw [hN] at hb
      conv => lhs; rw [← ak (Y.af false b (pc ts l d))]
      simp only [pc, pcf, aJ, Tok.c, bj, aa, if_true, if_false, ab, bX, dY, eJ, i1, i3, i5, i6] at e67 e1 e3 e5 e6 e8 ⊢
      generalize ax ts = es at *
      simp [qM, hN, hT, hL, hb, e67, e1, e3, e5, e6, e8, i1, i3, i5, i6, Rt.enc, Pl.enc, X.enc, et, x0, pl0, fC]
   | false =>
    rw [if_neg (by rw [i5]; decide)] at hx; obtain ⟨y9, hy9⟩ := dw hx; rw [hy9] at hx; have h9 := kv hr ih hd12 h hy9
    cases y9 with
    | bad e q =>
     obtain rfl := bJ hx rfl; obtain ⟨a', d'', eb⟩ := bn h9 rfl; refine ⟨a', d'', fun b Y hb => ?_⟩; have eb := eb hb; have e67 := e67 b Y hb; have e1 := ay (aB hr h d [108, 111, 97, 100] (b := b)) (s := Y) hb; have e3 := ay (aB hr h d [115, 105, 122, 101] (b := b)) (s := Y) hb; have e5 := ay (aB hr h d [110, 101, 119] (b := b)) (s := Y) hb; rw [iR]; obtain ⟨N, T, Lb, hN, hT, hL⟩ := lens3 Y; rw [hN] at hb
     conv => lhs; rw [← ak (Y.af false b (pc ts l d))]
     simp only [pc, pcf, aJ, Tok.c, bj, aa, if_true, if_false, ab, bX, dY, eJ, i1, i3, i5] at e67 e1 e3 e5 eb ⊢
     generalize ax ts = es at *
     simp [qM, hN, hT, hL, hb, e67, e1, e3, e5, eb, i1, i3, i5, Rt.enc, Pl.enc, X.enc, et, x0, pl0, fC]
    | ok x9 l9 =>
     have hx := cx hx rfl
     try dsimp only at hx
     have s9 := br h9 rfl; obtain rfl := Option.some.inj hx; refine ⟨s9, fun b Y hb => ?_⟩; have e67 := e67 b Y hb; have e1 := ay (aB hr h d [108, 111, 97, 100] (b := b)) (s := Y) hb; have e3 := ay (aB hr h d [115, 105, 122, 101] (b := b)) (s := Y) hb; have e5 := ay (aB hr h d [110, 101, 119] (b := b)) (s := Y) hb; have e9 := aK h9 rfl hb; rw [iR]; obtain ⟨N, T, Lb, hN, hT, hL⟩ := lens3 Y; rw [hN] at hb
     conv => lhs; rw [← ak (Y.af false b (pc ts l d))]
     simp only [pc, pcf, aJ, Tok.c, bj, aa, if_true, if_false, ab, bX, dY, eJ, i1, i3, i5] at e67 e1 e3 e5 e9 ⊢; cases x9
     generalize ax ts = es at *
     simp [qM, hN, hT, hL, hb, e67, e1, e3, e5, e9, i1, i3, i5, Rt.enc, Pl.enc, X.enc, et, x0, pl0, fC]
end Go.Proofs.YtlhlijaondmccaaDoor.S
namespace Go.Proofs.YtlhlijaondmccaaDoor.S
open Go Go.AM Go.Proofs
def fZ (o : Int) (nm : ByteArray) (rt pl e : List PV) (n : Int) (ar : List (List PV)) (ca : Cap) (bo : List (List PV)) (cb : Cap) (el : List (List PV)) (ce : Cap) (ln cl : Int) : List PV :=
 .v (.int .i64 o) :: .v (.string nm) :: (rt ++ (pl ++ (e ++ [.v (.int .i64 n), .sl ar ca, .sl bo cb, .sl el ce, .v (.int .i64 ln), .v (.int .i64 cl)])))
def y9 : List PV := z9
def y14 : List PV := [.v (.int .i64 0), str [], str []] ++ z9 ++ [.v (.int .i64 0), .v (.int .i64 0)]
def y27 : List PV := [.v (.int .i64 0)] ++ z9 ++ y14 ++ [str [], .v (.int .i64 0), .v (.int .i64 0)]
def y58 (ln cl : Int) : List PV := fZ 0 (bs []) y27 y14 y9 0 [] .nil [] .nil [] .nil ln cl
theorem BR : y9.length = 9 := by decide
theorem yx : y14.length = 14 := by decide
theorem yA : y27.length = 27 := by decide
theorem BS : aH y9 = true := by decide
theorem yy : aH y14 = true := by decide
theorem yB : aH y27 = true := by decide
theorem DE : y9.all dM = true := by decide
theorem BO : y14.all dM = true := by decide
theorem BP : y27.all dM = true := by decide
theorem BQ : y9.map bO = x0.enc := by rw [X.cO]; rfl
theorem yw : y14.map bO = pl0.enc := by rw [Pl.enc, X.cO]; rfl
theorem yz : y27.map bO = rt0.enc := by rw [Rt.enc, Pl.enc, X.cO, X.cO]; rfl
theorem w7 : [PV.v (.int .i64 0), .v (.string (bs [])), .v (.int .i64 0), .v (.int .i64 0), .v (.int .i64 0), .v (.int .u64 0), .v (.int .i64 0), .v (.string (bs [])), .v (.string (bs [])), .sl [] .nil, .v (.int .i64 0), .v (.int .i64 0), .v (.int .i64 0), .v (.string (bs [])), .v (.string (bs [])), .v (.int .i64 0), .v (.int .i64 0), .v (.int .u64 0), .v (.int .i64 0), .v (.string (bs [])), .v (.string (bs [])), .sl [] .nil, .v (.int .i64 0), .v (.int .i64 0), .v (.int .i64 0), .v (.int .i64 0), .v (.string (bs [])), .v (.int .i64 0), .v (.int .i64 0), .v (.int .i64 0), .v (.string (bs [])), .v (.string (bs [])), .v (.int .i64 0), .v (.int .i64 0), .v (.int .u64 0), .v (.int .i64 0), .v (.string (bs [])), .v (.string (bs [])), .sl [] .nil, .v (.int .i64 0), .v (.int .i64 0), .v (.int .i64 0), .v (.int .i64 0), .v (.int .i64 0), .v (.int .i64 0), .v (.int .u64 0), .v (.int .i64 0), .v (.string (bs [])), .v (.string (bs [])), .sl [] .nil, .v (.int .i64 0), .v (.int .i64 0), .v (.int .i64 0), .sl [] .nil, .sl [] .nil, .sl [] .nil, .v (.int .i64 0), .v (.int .i64 0)] = y58 0 0 := rfl
theorem yC (a b : Int) : bc [(0, 1), (1, 1), (2, 27), (29, 14), (43, 9), (52, 1), (53, 1), (54, 1), (55, 1), (56, 1), (57, 1)] (y58 0 0) [(9, .v (.int .i64 a)), (10, .v (.int .i64 b))] = some (.agg (fZ 0 (bs []) y27 y14 y9 0 [] .nil [] .nil [] .nil a b)) := rfl
theorem yE (a b : Int) : ((y58 0 0).set 56 (.v (.int .i64 a))).set 57 (.v (.int .i64 b)) = fZ 0 (bs []) y27 y14 y9 0 [] .nil [] .nil [] .nil a b := rfl
theorem yD (a b : Int) : (y58 a b).length = 58 := rfl
theorem vN (a b : Int) (cs : List PV) (h : cs.length = 58) : laid (y58 a b) 0 cs = cs := je _ _ (by rw [h]; rfl)
section
variable {o : Int} {nm : ByteArray} {rt pl e : List PV} {n : Int} {ar : List (List PV)} {ca : Cap} {bo : List (List PV)} {cb : Cap} {el : List (List PV)} {ce : Cap} {ln cl : Int}
theorem vZ (h1 : rt.length = 27) (h2 : pl.length = 14) (h3 : e.length = 9) : (fZ o nm rt pl e n ar ca bo cb el ce ln cl).length = 58 := by simp [fZ, h1, h2, h3]
theorem xp (a : Int) : (fZ o nm rt pl e n ar ca bo cb el ce ln cl).set 0 (.v (.int .i64 a)) = fZ a nm rt pl e n ar ca bo cb el ce ln cl := rfl
theorem xq (a : ByteArray) : (fZ o nm rt pl e n ar ca bo cb el ce ln cl).set 1 (.v (.string a)) = fZ o a rt pl e n ar ca bo cb el ce ln cl := rfl
theorem tv (h1 : rt.length = 27) (h2 : pl.length = 14) (h3 : e.length = 9) (k : Nat) (v : PV) : (fZ o nm rt pl e n ar ca bo cb el ce ln cl).set (52 + k) v =
 .v (.int .i64 o) :: .v (.string nm) :: (rt ++ (pl ++ (e ++ [.v (.int .i64 n), .sl ar ca, .sl bo cb, .sl el ce, .v (.int .i64 ln), .v (.int .i64 cl)].set k v))) := by
 unfold fZ; rw [show 52 + k = (50 + k) + 1 + 1 by omega, List.set_cons_succ, List.set_cons_succ, List.set_append_right _ _ (by omega), List.set_append_right _ _ (by omega), List.set_append_right _ _ (by omega), show 50 + k - rt.length - pl.length - e.length = k by omega]
theorem uv (h1 : rt.length = 27) (h2 : pl.length = 14) (h3 : e.length = 9) (a : Int) : (fZ o nm rt pl e n ar ca bo cb el ce ln cl).set 52 (.v (.int .i64 a)) = fZ o nm rt pl e a ar ca bo cb el ce ln cl := tv h1 h2 h3 0 _
theorem uw (h1 : rt.length = 27) (h2 : pl.length = 14) (h3 : e.length = 9) (a : List (List PV)) (c : Cap) : (fZ o nm rt pl e n ar ca bo cb el ce ln cl).set 53 (.sl a c) = fZ o nm rt pl e n a c bo cb el ce ln cl := tv h1 h2 h3 1 _
theorem ux (h1 : rt.length = 27) (h2 : pl.length = 14) (h3 : e.length = 9) (a : List (List PV)) (c : Cap) : (fZ o nm rt pl e n ar ca bo cb el ce ln cl).set 54 (.sl a c) = fZ o nm rt pl e n ar ca a c el ce ln cl := tv h1 h2 h3 2 _
theorem uy (h1 : rt.length = 27) (h2 : pl.length = 14) (h3 : e.length = 9) (a : List (List PV)) (c : Cap) : (fZ o nm rt pl e n ar ca bo cb el ce ln cl).set 55 (.sl a c) = fZ o nm rt pl e n ar ca bo cb a c ln cl := tv h1 h2 h3 3 _
theorem Di (h1 : rt.length = 27) (cs : List PV) (hc : cs.length = 27) : laid (fZ o nm rt pl e n ar ca bo cb el ce ln cl) 2 cs = fZ o nm cs pl e n ar ca bo cb el ce ln cl := by
 have := laidB [.v (.int .i64 o), .v (.string nm)] rt (pl ++ (e ++ [.v (.int .i64 n), .sl ar ca, .sl bo cb, .sl el ce, .v (.int .i64 ln), .v (.int .i64 cl)])) cs (by omega); simpa [fZ] using this
theorem Ad (h1 : rt.length = 27) (h2 : pl.length = 14) (cs : List PV) (hc : cs.length = 14) : laid (fZ o nm rt pl e n ar ca bo cb el ce ln cl) 29 cs = fZ o nm rt cs e n ar ca bo cb el ce ln cl := by
 have := laidB (.v (.int .i64 o) :: .v (.string nm) :: rt) pl (e ++ [.v (.int .i64 n), .sl ar ca, .sl bo cb, .sl el ce, .v (.int .i64 ln), .v (.int .i64 cl)]) cs (by omega); simpa [fZ, h1] using this
theorem Ae (h1 : rt.length = 27) (h2 : pl.length = 14) (h3 : e.length = 9) (cs : List PV) (hc : cs.length = 9) : laid (fZ o nm rt pl e n ar ca bo cb el ce ln cl) 43 cs = fZ o nm rt pl cs n ar ca bo cb el ce ln cl := by
 have := laidB (.v (.int .i64 o) :: .v (.string nm) :: (rt ++ pl)) e [.v (.int .i64 n), .sl ar ca, .sl bo cb, .sl el ce, .v (.int .i64 ln), .v (.int .i64 cl)] cs (by omega); simpa [fZ, h1, h2] using this
theorem xr (h1 : rt.length = 27) (h2 : pl.length = 14) (h3 : e.length = 9) : (fZ o nm rt pl e n ar ca bo cb el ce ln cl).take 58 = fZ o nm rt pl e n ar ca bo cb el ce ln cl := List.take_of_length_le (by rw [vZ h1 h2 h3]; omega)
theorem yc : ∀ (a b : List PV), aH (a ++ b) = (aH a && aH b)
 | [], b => rfl
 | x :: a, b => by
  have := yc a b
  cases x <;> first | exact this | rfl
theorem Af (h1 : aH rt = true) (h2 : aH pl = true) (h3 : aH e = true) : aH (fZ o nm rt pl e n ar ca bo cb el ce ln cl) = true := by
 simp [fZ, aH, yc, h1, h2, h3]
theorem Dh (h1 : rt.all dM = true) (h2 : pl.all dM = true) (h3 : e.all dM = true) : (fZ o nm rt pl e n ar ca bo cb el ce ln cl).all dM = true := by
 simp only [fZ, bC, List.all_append, h1, h2, h3, cr]; rfl
theorem v7 : (fZ o nm rt pl e n ar ca bo cb el ce ln cl).map bO = fZ o nm (rt.map bO) (pl.map bO) (e.map bO) n ar .dead bo .dead el .dead ln cl := by
 simp only [fZ, aX, List.map_append, aS]; rfl
theorem Ac : ah (.agg (fZ o nm rt pl e n ar ca bo cb el ce ln cl)) = .agg (fZ o nm (rt.map bO) (pl.map bO) (e.map bO) n ar .dead bo .dead el .dead ln cl) := by
 rw [← v7]; rfl
end
theorem S.xA (op : Int) (name : ByteArray) (r : Rt) (p : Pl) (e : X) (n : Int) (args : List X) (body els : List S) (ln cl : Int) : S.enc ⟨op, name, r, p, e, n, args, body, els, ln, cl⟩ = fZ op name r.enc p.enc e.enc n (et args) .dead (fg body) .dead (fg els) .dead ln cl := by
 simp only [S.enc, fZ, List.append_assoc, aw, aZ]
end Go.Proofs.YtlhlijaondmccaaDoor.S
namespace Go.Proofs.YtlhlijaondmccaaDoor.S
open Go Go.AM Go.Proofs
attribute [local simp] da cD bT bU cE fc fw ef dj ec dh ed di fv bV gZ dW hI gV gO AM.ae aQ aR bg aP aD AM.onG fP cc eB Ex.bh cond_true cond_false cW cV cU cT cS cY cR cZ cX eg dm dp cC db AM.dt AM.cellsOf AM.an bQ beq_true cM al aF bf bz bS decide_true decide_false bL bB bq bA ba aC az aZ aw dc de ft aA bK bu bR cz dV dZ cK eA ew set_set eD dD fM dE cI bD dC dB cH dA eC eE fG fH bE cm ep fF dP aL aU aE AM.aT ah cQ bO aX aS aO aN AM.part bm aM cf cj cg cd cd.eO AM.dM bC cr dI fE aL laid aH bc cv
attribute [-simp] ag
attribute [local congr] dJ
abbrev dR (s : S) : PV := .agg s.enc
abbrev cq (xs : List S) : PV := .sl (fg xs) .dead
abbrev fo (xs : List X) : PV := .sl (et xs) .dead
abbrev eY (t : Tok) (name : ByteArray) : PV := .agg (fZ 0 name rt0.enc pl0.enc x0.enc 0 [] .dead [] .dead [] .dead t.p.1 t.p.2)
theorem Ap (n : Int) : eZ Tryd.prog 45 3 (.v (.int .u64 n)) = some (.v (.int .i64 (IntKind.i64.wrap n))) := by kernel_rfl
theorem S.take (x : S) : x.enc.take 58 = x.enc := List.take_of_length_le (by rw [S.len]; omega)
structure qO (ts : List Tok) (n : Nat) : Prop where
 blk : ∀ d l x, d ≤ 12 → Sfx ts l → fk n d l = some x → Rd 45 [] ts d d l cq x
 lp : ∀ d t name l x, d ≤ 12 → Sfx ts l → ky n d t name l = some x → Rd 115 [eY t name] ts d d l dR x
 st : ∀ d l x, d ≤ 12 → Sfx ts l → lY n d l = some x → Rd 82 [] ts d d l dR x
attribute [local simp] vZ xp xq uv uw ux uy Di Ad Ae xr Af Dh v7 Ac w7 yC yE yD vN BR yx yA BS yy yB DE BO BP BQ yw yz X.len Pl.len Rt.len X.okc Pl.okc Rt.okc X.fl Pl.fl Rt.fl X.kJ Pl.kJ Rt.kJ S.xA S.len S.okc S.fl S.kJ S.can S.take fC pw Ap et fg
section
variable {ts : List Tok} (hr : Row ts) {n : Nat} (ihe : mb ts n) (ih : qO ts n)
include hr ih
theorem CR (d : Nat) (t : Tok) (name : ByteArray) (l : List Tok) (x : PR S) (hd12 : d ≤ 12) (h : Sfx ts l) (hx : ky (n + 1) d t name l = some x) : Rd 115 [eY t name] ts d d l dR x := by
 simp only [ky] at hx; have h1 := gK hr h d 3
 cases x1 : eM 3 l with
 | bad e q =>
  obtain rfl := bJ hx x1; obtain ⟨a', d'', eb⟩ := bn h1 x1; refine ⟨a', d'', fun b Y hb => ?_⟩; have eb := eb hb; rw [tj]; obtain ⟨N, T, Lb, hN, hT, hL⟩ := lens3 Y; rw [hN] at hb
  conv => lhs; rw [← ak (Y.af false b (pc ts l d))]
  simp only [pc, pcf, aJ, Tok.c, bj, aa, if_true, if_false, ab, bX, dY, eJ, dR, cq, eY] at eb ⊢
  generalize ax ts = es at *
  simp (maxDischargeDepth := 8) [Cb, hN, hT, hL, hb, eb]
 | ok u1 l1 =>
  have hx := cx hx x1
  try dsimp only at hx
  have s1 := br h1 x1; obtain ⟨y2, hy2⟩ := dw hx; rw [hy2] at hx; have h2 := ih.blk _ _ _ hd12 s1 hy2
  cases y2 with
  | bad e q =>
   obtain rfl := bJ hx rfl; obtain ⟨a', d'', eb⟩ := bn h2 rfl; refine ⟨a', d'', fun b Y hb => ?_⟩; have eb := eb hb; have e1 := aK h1 x1 hb; rw [tj]; obtain ⟨N, T, Lb, hN, hT, hL⟩ := lens3 Y; rw [hN] at hb
   conv => lhs; rw [← ak (Y.af false b (pc ts l d))]
   simp only [pc, pcf, aJ, Tok.c, bj, aa, if_true, if_false, ab, bX, dY, eJ, dR, cq, eY] at e1 eb ⊢
   generalize ax ts = es at *
   simp (maxDischargeDepth := 8) [Cb, hN, hT, hL, hb, e1, eb]
  | ok b2 l2 =>
   have hx := cx hx rfl
   try dsimp only at hx
   have s2 := br h2 rfl; obtain rfl := Option.some.inj hx; refine ⟨s2, fun b Y hb => ?_⟩; have e1 := aK h1 x1 hb; have e2 := aK h2 rfl hb; rw [tj]; obtain ⟨N, T, Lb, hN, hT, hL⟩ := lens3 Y; rw [hN] at hb
   conv => lhs; rw [← ak (Y.af false b (pc ts l d))]
   simp only [pc, pcf, aJ, Tok.c, bj, aa, if_true, if_false, ab, bX, dY, eJ, dR, cq, eY] at e1 e2 ⊢
   generalize ax ts = es at *
   simp (maxDischargeDepth := 8) [Cb, hN, hT, hL, hb, e1, e2]
include ihe
theorem yO (d : Nat) (l : List Tok) (x : PR S) (hd12 : d ≤ 12) (h : Sfx ts l)
 (hx : (if isT (cP l) [58] then pb (some (cF [108, 111, 111, 112] (cP l).tail)) fun _ l1 => ky n d (hd l) (bs (hd l).text) l1
  else pb (some (cF [61] (cP l))) fun _ l1 => pb (j6 n d l1) fun r l2 => fI (mkS (hd l) 3 (bs (hd l).text) r pl0 x0 0 [] [] []) l2) = some x) : Rd 114 [eY (hd l) (bs [])] ts d d l dR x := by
 have s0 := h.next hr
 have e151 := fun b (Y : St) hb => ay (kA hr h d (b := b)) (s := Y) hb
 cases i1 : isT (cP l) [58] with
 | true =>
  rw [if_pos i1] at hx; have s1 := s0.isT hr i1; have h2 := eI hr s1 d [108, 111, 111, 112]
  cases x2 : cF [108, 111, 111, 112] (cP l).tail with
  | bad e q =>
   obtain rfl := bJ hx x2; obtain ⟨a', d'', eb⟩ := bn h2 x2; refine ⟨a', d'', fun b Y hb => ?_⟩; have eb := eb hb; have e151 := e151 b Y hb; have e1 := ay (aB hr s0 d [58] (b := b)) (s := Y) hb; rw [lz]; obtain ⟨N, T, Lb, hN, hT, hL⟩ := lens3 Y; rw [hN] at hb
   conv => lhs; rw [← ak (Y.af false b (pc ts l d))]
   simp only [pc, pcf, aJ, Tok.c, bj, aa, if_true, if_false, ab, bX, dY, eJ, dR, cq, eY, i1] at e151 e1 eb ⊢
   generalize ax ts = es at *
   simp (maxDischargeDepth := 8) [ui, hN, hT, hL, hb, e151, e1, eb, i1]
  | ok u2 l2 =>
   have hx := cx hx x2
   try dsimp only at hx
   have s2 := br h2 x2; have h3 := ih.lp _ _ _ _ _ hd12 s2 hx
   cases x with
   | bad e q =>
    obtain ⟨a', d'', eb⟩ := bn h3 rfl; refine ⟨a', d'', fun b Y hb => ?_⟩; have eb := eb hb; have e151 := e151 b Y hb; have e1 := ay (aB hr s0 d [58] (b := b)) (s := Y) hb; have e2 := aK h2 x2 hb; rw [lz]; obtain ⟨N, T, Lb, hN, hT, hL⟩ := lens3 Y; rw [hN] at hb
    conv => lhs; rw [← ak (Y.af false b (pc ts l d))]
    simp only [pc, pcf, aJ, Tok.c, bj, aa, if_true, if_false, ab, bX, dY, eJ, dR, cq, eY, i1] at e151 e1 e2 eb ⊢
    generalize ax ts = es at *
    simp (maxDischargeDepth := 8) [ui, hN, hT, hL, hb, e151, e1, e2, eb, i1]
   | ok v3 l3 =>
    refine ⟨br h3 rfl, fun b Y hb => ?_⟩; have e151 := e151 b Y hb; have e1 := ay (aB hr s0 d [58] (b := b)) (s := Y) hb; have e2 := aK h2 x2 hb; have e3 := aK h3 rfl hb; rw [lz]; obtain ⟨N, T, Lb, hN, hT, hL⟩ := lens3 Y; rw [hN] at hb
    conv => lhs; rw [← ak (Y.af false b (pc ts l d))]
    simp only [pc, pcf, aJ, Tok.c, bj, aa, if_true, if_false, ab, bX, dY, eJ, dR, cq, eY, i1] at e151 e1 e2 e3 ⊢
    generalize ax ts = es at *
    simp (maxDischargeDepth := 8) [ui, hN, hT, hL, hb, e151, e1, e2, e3, i1]
 | false =>
  rw [if_neg (by rw [i1]; decide)] at hx; have h4 := eI hr s0 d [61]
  cases x4 : cF [61] (cP l) with
  | bad e q =>
   obtain rfl := bJ hx x4; obtain ⟨a', d'', eb⟩ := bn h4 x4; refine ⟨a', d'', fun b Y hb => ?_⟩; have eb := eb hb; have e151 := e151 b Y hb; have e1 := ay (aB hr s0 d [58] (b := b)) (s := Y) hb; rw [lz]; obtain ⟨N, T, Lb, hN, hT, hL⟩ := lens3 Y; rw [hN] at hb
   conv => lhs; rw [← ak (Y.af false b (pc ts l d))]
   simp only [pc, pcf, aJ, Tok.c, bj, aa, if_true, if_false, ab, bX, dY, eJ, dR, cq, eY, i1] at e151 e1 eb ⊢
   generalize ax ts = es at *
   simp (maxDischargeDepth := 8) [ui, hN, hT, hL, hb, e151, e1, eb, i1]
  | ok u4 l4 =>
   have hx := cx hx x4
   try dsimp only at hx
   have s4 := br h4 x4; obtain ⟨y5, hy5⟩ := dw hx; rw [hy5] at hx; have h5 := pO hr ihe hd12 s4 hy5
   cases y5 with
   | bad e q =>
    obtain rfl := bJ hx rfl; obtain ⟨a', d'', eb⟩ := bn h5 rfl; refine ⟨a', d'', fun b Y hb => ?_⟩; have eb := eb hb; have e151 := e151 b Y hb; have e1 := ay (aB hr s0 d [58] (b := b)) (s := Y) hb; have e4 := aK h4 x4 hb; rw [lz]; obtain ⟨N, T, Lb, hN, hT, hL⟩ := lens3 Y; rw [hN] at hb
    conv => lhs; rw [← ak (Y.af false b (pc ts l d))]
    simp only [pc, pcf, aJ, Tok.c, bj, aa, if_true, if_false, ab, bX, dY, eJ, dR, cq, eY, i1] at e151 e1 e4 eb ⊢
    generalize ax ts = es at *
    simp (maxDischargeDepth := 8) [ui, hN, hT, hL, hb, e151, e1, e4, eb, i1]
   | ok r5 l5 =>
    have hx := cx hx rfl
    try dsimp only at hx
    have s5 := br h5 rfl; unfold fI at hx; have h6 := eI hr s5 d [59]
    cases x6 : cF [59] l5 with
    | bad e q =>
     obtain rfl := bJ hx x6; obtain ⟨a', d'', eb⟩ := bn h6 x6; refine ⟨a', d'', fun b Y hb => ?_⟩; have eb := eb hb; have e151 := e151 b Y hb; have e1 := ay (aB hr s0 d [58] (b := b)) (s := Y) hb; have e4 := aK h4 x4 hb; have e5 := aK h5 rfl hb; rw [lz]; obtain ⟨N, T, Lb, hN, hT, hL⟩ := lens3 Y; rw [hN] at hb
     conv => lhs; rw [← ak (Y.af false b (pc ts l d))]
     simp only [pc, pcf, aJ, Tok.c, bj, aa, if_true, if_false, ab, bX, dY, eJ, dR, cq, eY, i1] at e151 e1 e4 e5 eb ⊢
     generalize ax ts = es at *
     simp (maxDischargeDepth := 8) [ui, hN, hT, hL, hb, e151, e1, e4, e5, eb, i1]
    | ok u6 l6 =>
     have hx := cx hx x6
     try dsimp only at hx
     have s6 := br h6 x6; obtain rfl := Option.some.inj hx; refine ⟨s6, fun b Y hb => ?_⟩; have e151 := e151 b Y hb; have e1 := ay (aB hr s0 d [58] (b := b)) (s := Y) hb; have e4 := aK h4 x4 hb; have e5 := aK h5 rfl hb; have e6 := aK h6 x6 hb; rw [lz]; obtain ⟨N, T, Lb, hN, hT, hL⟩ := lens3 Y; rw [hN] at hb
     conv => lhs; rw [← ak (Y.af false b (pc ts l d))]
     simp only [pc, pcf, aJ, Tok.c, bj, aa, if_true, if_false, ab, bX, dY, eJ, dR, cq, eY, i1] at e151 e1 e4 e5 e6 ⊢
     generalize ax ts = es at *
     simp (maxDischargeDepth := 8) [ui, hN, hT, hL, hb, e151, e1, e4, e5, e6, i1]
theorem yM (d : Nat) (t : Tok) (l : List Tok) (x : PR S) (hd12 : d ≤ 12) (h : Sfx ts l)
 (hx : (pb (cN n 0 d l) fun e l1 => pb (fk n d l1) fun b l2 =>
  (if isT l2 [101, 108, 115, 101] then pb (fk n d l2.tail) fun c l3 => some (.ok (mkS t 6 (bs []) rt0 pl0 e 0 [] b c) l3) else some (.ok (mkS t 6 (bs []) rt0 pl0 e 0 [] b []) l2))) = some x) : Rd 116 [eY t (bs [])] ts d d l dR x := by
 obtain ⟨y1, hy1⟩ := dw hx; rw [hy1] at hx; have h1 := kv hr ihe hd12 h hy1
 cases y1 with
 | bad e q =>
  obtain rfl := bJ hx rfl; obtain ⟨a', d'', eb⟩ := bn h1 rfl; refine ⟨a', d'', fun b Y hb => ?_⟩; have eb := eb hb; rw [od]; obtain ⟨N, T, Lb, hN, hT, hL⟩ := lens3 Y; rw [hN] at hb
  conv => lhs; rw [← ak (Y.af false b (pc ts l d))]
  simp only [pc, pcf, aJ, Tok.c, bj, aa, if_true, if_false, ab, bX, dY, eJ, dR, cq, eY] at eb ⊢
  generalize ax ts = es at *
  simp (maxDischargeDepth := 8) [yG, hN, hT, hL, hb, eb]
 | ok x1 l1 =>
  have hx := cx hx rfl
  try dsimp only at hx
  have s1 := br h1 rfl; obtain ⟨y2, hy2⟩ := dw hx; rw [hy2] at hx; have h2 := ih.blk _ _ _ hd12 s1 hy2
  cases y2 with
  | bad e q =>
   obtain rfl := bJ hx rfl; obtain ⟨a', d'', eb⟩ := bn h2 rfl; refine ⟨a', d'', fun b Y hb => ?_⟩; have eb := eb hb; have e1 := aK h1 rfl hb; rw [od]; obtain ⟨N, T, Lb, hN, hT, hL⟩ := lens3 Y; rw [hN] at hb
   conv => lhs; rw [← ak (Y.af false b (pc ts l d))]
   simp only [pc, pcf, aJ, Tok.c, bj, aa, if_true, if_false, ab, bX, dY, eJ, dR, cq, eY] at e1 eb ⊢
   generalize ax ts = es at *
   simp (maxDischargeDepth := 8) [yG, hN, hT, hL, hb, e1, eb]
  | ok b2 l2 =>
   have hx := cx hx rfl
   try dsimp only at hx
   have s2 := br h2 rfl
   cases i3 : isT l2 [101, 108, 115, 101] with
   | true =>
    rw [if_pos i3] at hx; have s3 := s2.isT hr i3; obtain ⟨y4, hy4⟩ := dw hx; rw [hy4] at hx; have h4 := ih.blk _ _ _ hd12 s3 hy4
    cases y4 with
    | bad e q =>
     obtain rfl := bJ hx rfl; obtain ⟨a', d'', eb⟩ := bn h4 rfl; refine ⟨a', d'', fun b Y hb => ?_⟩; have eb := eb hb; have e1 := aK h1 rfl hb; have e2 := aK h2 rfl hb; have e3 := ay (aB hr s2 d [101, 108, 115, 101] (b := b)) (s := Y) hb; rw [od]; obtain ⟨N, T, Lb, hN, hT, hL⟩ := lens3 Y; rw [hN] at hb
     conv => lhs; rw [← ak (Y.af false b (pc ts l d))]
     simp only [pc, pcf, aJ, Tok.c, bj, aa, if_true, if_false, ab, bX, dY, eJ, dR, cq, eY, i3] at e1 e2 e3 eb ⊢
     generalize ax ts = es at *
     simp (maxDischargeDepth := 8) [yG, hN, hT, hL, hb, e1, e2, e3, eb, i3]
    | ok b4 l4 =>
     have hx := cx hx rfl
     try dsimp only at hx
     have s4 := br h4 rfl; obtain rfl := Option.some.inj hx; refine ⟨s4, fun b Y hb => ?_⟩; have e1 := aK h1 rfl hb; have e2 := aK h2 rfl hb; have e3 := ay (aB hr s2 d [101, 108, 115, 101] (b := b)) (s := Y) hb; have e4 := aK h4 rfl hb; rw [od]; obtain ⟨N, T, Lb, hN, hT, hL⟩ := lens3 Y; rw [hN] at hb
     conv => lhs; rw [← ak (Y.af false b (pc ts l d))]
     simp only [pc, pcf, aJ, Tok.c, bj, aa, if_true, if_false, ab, bX, dY, eJ, dR, cq, eY, i3] at e1 e2 e3 e4 ⊢
     generalize ax ts = es at *
     simp (maxDischargeDepth := 8) [yG, hN, hT, hL, hb, e1, e2, e3, e4, i3]
   | false =>
    rw [if_neg (by rw [i3]; decide)] at hx; obtain rfl := Option.some.inj hx; refine ⟨s2, fun b Y hb => ?_⟩; have e1 := aK h1 rfl hb; have e2 := aK h2 rfl hb; have e3 := ay (aB hr s2 d [101, 108, 115, 101] (b := b)) (s := Y) hb; rw [od]; obtain ⟨N, T, Lb, hN, hT, hL⟩ := lens3 Y; rw [hN] at hb
    conv => lhs; rw [← ak (Y.af false b (pc ts l d))]
    simp only [pc, pcf, aJ, Tok.c, bj, aa, if_true, if_false, ab, bX, dY, eJ, dR, cq, eY, i3] at e1 e2 e3 ⊢
    generalize ax ts = es at *
    simp (maxDischargeDepth := 8) [yG, hN, hT, hL, hb, e1, e2, e3, i3]
end
end Go.Proofs.YtlhlijaondmccaaDoor.S
namespace Go.Proofs.YtlhlijaondmccaaDoor.S
open Go Go.AM Go.Proofs
def gB (T : Nat) (tk : List (Nat × Nat)) (c : Cap) (n sz : Nat) : Prop := (c = .nil ∨ c = .full) ∨ ∃ j, c = .own .fr (T + j) n ∧ tk[j]? = some (n, sz)
theorem gB.grow {T : Nat} {tk : List (Nat × Nat)} {c : Cap} {sz bytes : Nat} {es ys : List (List PV)} (h : gB T tk c es.length sz) {b : Nat} {cs : List PV} {Y : St} (hT : Y.tk.length = T)
 (h1 : (es.length + ys.length) * bytes ≤ dz) (h2 : cM sz es = true) (h3 : cM sz ys = true) (h4 : sz ≠ 0) (h5 : bytes ≠ 0) :
 ∃ c' tk', (∀ (bl : List Blk) (lp : List Aux) (base : Nat) (z : List PV), dX base z sz bytes (.sl es c) ys ((Y.af false b cs).app bl tk lp) = some (.sl (es ++ ys) c', (Y.af false b cs).app bl tk' lp)) ∧ gB T tk' c' (es ++ ys).length sz := by
 subst hT; exact qE (s := Y.af false b cs) h h1 h2 h3 h4 h5
theorem Du {sz : Nat} {z cs cs' : List PV} (hz : z.length = sz) (hc : cs.length = sz) (hp : cy cs = some cs') (hc' : cs'.length = sz) : aY sz z 1 [(0, .agg cs)] = some (.sl [cs'] .full) := by
 have h1 : laid (fT 1 z) 0 cs = cs := by
  have := laidB [] z [] cs (by omega); simpa [fT] using this
 have h2 : dr (0 + sz) (fT 1 z).length = true := by simp [fT, hz]
 have h3 : ai cs.length sz = true := by rw [hc]; exact Nat.beq_refl _
 simp only [aY, jt, cv, AM.cellsOf, h3, Nat.zero_mul, h2, bq, cond_true, h1, ag, hp, chunks]; rw [List.take_of_length_le (by omega)]
theorem xC (l : List X) : cM 9 (et l) = true := by rw [mw]; exact jf _ X.len l
theorem At (a b : List X) : et (a ++ b) = et a ++ et b := by simp only [mw, List.map_append]
theorem vr (l : List S) : cM 58 (fg l) = true := by rw [np]; exact jf _ S.len l
theorem zt (a b : List S) : fg (a ++ b) = fg a ++ fg b := by simp only [np, List.map_append]
attribute [local simp] da cD bT bU cE fc fw ef dj ec dh ed di fv bV gZ dW hI gV gO AM.ae aQ aR bg aP aD AM.onG fP cc eB Ex.bh cond_true cond_false cW cV cU cT cS cY cR cZ cX eg dm dp cC db AM.dt AM.cellsOf AM.an bQ beq_true cM al aF bf bz bS decide_true decide_false bL bB bq bA ba aC az aZ aw dc de ft aA bK bu bR cz dV dZ cK eA ew set_set eD dD fM dE cI bD dC dB cH dA eC eE fG fH bE cm ep fF dP aL aU aE AM.aT ah cQ bO aX aS aO aN AM.part bm aM cf cj cg cd cd.eO AM.dM bC cr dI fE aL laid aH bc cv
attribute [-simp] ag
attribute [local congr] dJ
def ER (ts : List Tok) (d : Nat) (acc : List X) (l : List Tok) (x : PR (List X)) : Prop := match x with
 | .ok xs l' => Sfx ts l' ∧ ∀ b (Y : St), b < Y.stk.length → ∀ N T Lb, Y.stk.length = N → Y.tk.length = T → Y.lp.length = Lb → ∀ c tk q, gB T tk c acc.length 9 → ∃ c' tk',
  itE (oe.b0 (E L) itE N Lb) [.ptr false b 0, q, .sl (et acc) c] ((Y.af false b (pc ts l d)).app [] tk []) = some (.ret, [.ptr false b 0, .sl (et xs) c', .sl (et xs) c'], (Y.af false b (pc ts l' d)).app [] tk' [])
 | .bad er p => ∃ a' d'', ∀ b (Y : St), b < Y.stk.length → ∀ N T Lb, Y.stk.length = N → Y.tk.length = T → Y.lp.length = Lb → ∀ c tk q, gB T tk c acc.length 9 → ∃ y z tk',
  itE (oe.b0 (E L) itE N Lb) [.ptr false b 0, q, .sl (et acc) c] ((Y.af false b (pc ts l d)).app [] tk []) = some (.pan 92 (.agg #[]), [.ptr false b 0, y, z], (Y.af false b (pcf (ax ts) a' d'' er p.1 p.2)).app [] tk' [])
section
variable {ts : List Tok} (hr : Row ts) {m : Nat} (ihe : mb ts m)
include hr ihe
theorem vY {d : Nat} (hd12 : d ≤ 12) : ∀ n acc l x, acc.length + n ≤ 1000000 → Sfx ts l → nw n m d acc l = some x → ER ts d acc l x := by
 intro n
 induction n with
 | zero => intro acc l x _ _ hx; simp [nw] at hx
 | succ n ih =>
  intro acc l x hac h hx; simp only [nw] at hx; obtain ⟨y, hy⟩ := dw hx; rw [hy] at hx; have h1 := kv hr ihe hd12 h hy
  cases y with
  | bad er q =>
   obtain rfl := bJ hx rfl; obtain ⟨a', d'', e1⟩ := bn h1 rfl; refine ⟨a', d'', fun b Y hb N T Lb hN hT hL c tk q ho => ⟨q, .sl (et acc) c, tk, ?_⟩⟩; have e1 := e1 hb; simp only [pc, pcf] at e1 ⊢
   generalize ax ts = es at *
   apply iE; simp [oe.b0, hN, hT, hL, hb, e1]
  | ok e l1 =>
   have hx := cx hx rfl
   try dsimp only at hx
   have s1 := br h1 rfl
   have own : ∀ (b : Nat) (Y : St) (T : Nat), Y.tk.length = T → ∀ c tk, gB T tk c acc.length 9 → ∃ c' tk', (∀ (bl : List Blk) (lp : List Aux) (base : Nat) (z : List PV), dX base z 9 104 (.sl (et acc) c) [e.enc] ((Y.af false b (pc ts l1 d)).app bl tk lp) = some (.sl (et (acc ++ [e])) c', (Y.af false b (pc ts l1 d)).app bl tk' lp)) ∧ gB T tk' c' (acc ++ [e]).length 9 := by
    intro b Y T hT c tk ho; rw [← ja] at ho; have := ho.grow (ys := [e.enc]) (bytes := 104) (b := b) (cs := pc ts l1 d) hT (by rw [ja, bG]; unfold dz; omega) (xC _) (by simpa [et] using xC [e]) (by omega) (by omega); simpa [At, et, ja] using this
   have hl := Du (sz := 9) (z := z9) rfl (X.len e) (X.pl e) (X.len e)
   cases i2 : isT l1 [41] with
   | true =>
    rw [if_pos i2] at hx; obtain rfl := Option.some.inj hx; refine ⟨s1.isT hr i2, fun b Y hb N T Lb hN hT hL c tk q ho => ?_⟩; obtain ⟨c', tk', ea, _⟩ := own b Y T hT c tk ho; refine ⟨c', tk', ?_⟩; have e1 := aK h1 rfl hb; have e2 := ay (aB hr s1 d [41] (b := b)) (s := Y) hb; simp only [pc, pcf, bX, i2, if_true] at e1 e2 ea ⊢
    generalize ax ts = es at *
    apply eK; simp [oe.b0, hN, hT, hL, hb, e1, e2, hl, cu, ea, i2]
   | false =>
    rw [if_neg (by rw [i2]; decide)] at hx; have h3 := eI hr s1 d [44]
    cases x3 : cF [44] l1 with
    | bad er q =>
     obtain rfl := bJ hx x3; obtain ⟨a', d'', eb⟩ := bn h3 x3; refine ⟨a', d'', fun b Y hb N T Lb hN hT hL c tk q ho => ?_⟩; obtain ⟨c', tk', ea, _⟩ := own b Y T hT c tk ho; refine ⟨q, .sl (et (acc ++ [e])) c', tk', ?_⟩; have e1 := aK h1 rfl hb; have e2 := ay (aB hr s1 d [41] (b := b)) (s := Y) hb; have eb := eb hb; simp only [pc, pcf, bX, aJ, i2, if_false, ab] at e1 e2 ea eb ⊢
     generalize ax ts = es at *
     apply iE; simp [oe.b0, hN, hT, hL, hb, e1, e2, hl, cu, ea, eb, i2]
    | ok u l3 =>
     have hx := cx hx x3
     try dsimp only at hx
     have s3 := br h3 x3; have h4 := ih (acc ++ [e]) l3 x (by simp only [bM, bG]; omega) s3 hx
     have stp : ∀ b (Y : St), b < Y.stk.length → ∀ N T Lb, Y.stk.length = N → Y.tk.length = T → Y.lp.length = Lb → ∀ c tk q, gB T tk c acc.length 9 → ∃ c' tk', gB T tk' c' (acc ++ [e]).length 9 ∧
      oe.b0 (E L) itE N Lb [.ptr false b 0, q, .sl (et acc) c] ((Y.af false b (pc ts l d)).app [] tk []) = some (.normal, [.ptr false b 0, q, .sl (et (acc ++ [e])) c'], (Y.af false b (pc ts l3 d)).app [] tk' []) := by
      intro b Y hb N T Lb hN hT hL c tk q ho; obtain ⟨c', tk', ea, ho'⟩ := own b Y T hT c tk ho; refine ⟨c', tk', ho', ?_⟩; have e1 := aK h1 rfl hb; have e2 := ay (aB hr s1 d [41] (b := b)) (s := Y) hb; have e3 := aK h3 x3 hb; simp only [pc, pcf, bX, aJ, i2, if_false, ab] at e1 e2 e3 ea ⊢
      generalize ax ts = es at *
      simp [oe.b0, hN, hT, hL, hb, e1, e2, e3, hl, cu, ea, i2]
     cases x with
     | ok xs l' =>
      refine ⟨h4.1, fun b Y hb N T Lb hN hT hL c tk q ho => ?_⟩; obtain ⟨c1, tk1, ho1, hs⟩ := stp b Y hb N T Lb hN hT hL c tk q ho; obtain ⟨c', tk', hit⟩ := h4.2 b Y hb N T Lb hN hT hL c1 tk1 q ho1; exact ⟨c', tk', (bW hs).trans hit⟩
     | bad er p =>
      obtain ⟨a', d'', h4⟩ := h4; refine ⟨a', d'', fun b Y hb N T Lb hN hT hL c tk q ho => ?_⟩; obtain ⟨c1, tk1, ho1, hs⟩ := stp b Y hb N T Lb hN hT hL c tk q ho; obtain ⟨y, z, tk', hit⟩ := h4 b Y hb N T Lb hN hT hL c1 tk1 q ho1; exact ⟨y, z, tk', (bW hs).trans hit⟩
theorem Cl {d : Nat} {l : List Tok} {x : PR (List X)} (hd12 : d ≤ 12) (hm : m ≤ 1000000) (h : Sfx ts l) (hx : sn m d l = some x) : Rd 121 [] ts d d l fo x := by
 unfold sn at hx; have h1 := eI hr h d [40]
 cases x1 : cF [40] l with
 | bad e q =>
  obtain rfl := bJ hx x1; obtain ⟨a', d'', eb⟩ := bn h1 x1; refine ⟨a', d'', fun b Y hb => ?_⟩; have eb := eb hb; rw [qA]; obtain ⟨N, T, Lb, hN, hT, hL⟩ := lens3 Y; rw [hN] at hb
  conv => lhs; rw [← ak (Y.af false b (pc ts l d))]
  simp only [pc, pcf, aJ] at eb ⊢
  generalize ax ts = es at *
  simp [oe, hN, hT, hL, hb, eb]
 | ok u l1 =>
  have hx := cx hx x1
  try dsimp only at hx
  have s1 := br h1 x1
  cases i2 : isT l1 [41] with
  | true =>
   rw [if_pos i2] at hx; obtain rfl := Option.some.inj hx; refine ⟨s1.isT hr i2, fun b Y hb => ?_⟩; have e1 := aK h1 x1 hb; have e2 := ay (aB hr s1 d [41] (b := b)) (s := Y) hb; rw [qA]; obtain ⟨N, T, Lb, hN, hT, hL⟩ := lens3 Y; rw [hN] at hb
   conv => lhs; rw [← ak (Y.af false b (pc ts l d))]
   simp only [pc, pcf, aJ, i2, if_true] at e1 e2 ⊢
   generalize ax ts = es at *
   simp [oe, hN, hT, hL, hb, e1, e2, i2, et]
  | false =>
   rw [if_neg (by rw [i2]; decide)] at hx; have h3 := vY hr ihe hd12 m [] l1 x (by simpa using hm) s1 hx
   cases x with
   | bad er q =>
    obtain ⟨a', d'', h3⟩ := h3; refine ⟨a', d'', fun b Y hb => ?_⟩; have e1 := aK h1 x1 hb; have e2 := ay (aB hr s1 d [41] (b := b)) (s := Y) hb; obtain ⟨y, z, tk', hit⟩ := h3 b Y hb _ _ _ rfl rfl rfl .nil [] (.sl [] .nil) (.inl (.inl rfl)); rw [qA]; obtain ⟨N, T, Lb, hN, hT, hL⟩ := lens3 Y; rw [hN] at hb; rw [hN] at hit
    conv => lhs; rw [← ak (Y.af false b (pc ts l d))]
    rw [hL] at hit; simp only [pc, pcf, aJ, et, i2, if_false, ab] at e1 e2 hit ⊢
    generalize ax ts = es at *
    simp [oe, hN, hT, hL, hb, e1, e2, i2, hit, Ex.bh]
   | ok xs l3 =>
    refine ⟨h3.1, fun b Y hb => ?_⟩; have e1 := aK h1 x1 hb; have e2 := ay (aB hr s1 d [41] (b := b)) (s := Y) hb; obtain ⟨c', tk', hit⟩ := h3.2 b Y hb _ _ _ rfl rfl rfl .nil [] (.sl [] .nil) (.inl (.inl rfl)); rw [qA]; obtain ⟨N, T, Lb, hN, hT, hL⟩ := lens3 Y; rw [hN] at hb; rw [hN] at hit
    conv => lhs; rw [← ak (Y.af false b (pc ts l d))]
    rw [hL] at hit; simp only [pc, pcf, aJ, et, i2, if_false, ab] at e1 e2 hit ⊢
    generalize ax ts = es at *
    simp [oe, hN, hT, hL, hb, e1, e2, i2, hit, Ex.bh]
end
end Go.Proofs.YtlhlijaondmccaaDoor.S
namespace Go.Proofs.YtlhlijaondmccaaDoor.S
open Go Go.AM Go.Proofs
attribute [local simp] da cD bT bU cE fc fw ef dj ec dh ed di fv bV gZ dW hI gV gO AM.ae aQ aR bg aP aD AM.onG fP cc eB Ex.bh cond_true cond_false cW cV cU cT cS cY cR cZ cX eg dm dp cC db AM.dt AM.cellsOf AM.an bQ beq_true cM al aF bf bz bS decide_true decide_false bL bB bq bA ba aC az aZ aw dc de ft aA bK bu bR cz dV dZ cK eA ew set_set eD dD fM dE cI bD dC dB cH dA eC eE fG fH bE cm ep fF dP aL aU aE AM.aT ah cQ bO aX aS aO aN AM.part bm aM cf cj cg cd cd.eO AM.dM bC cr dI fE aL laid aH bc cv
attribute [-simp] ag
attribute [local congr] dJ
def B5 (ts : List Tok) (d : Nat) (acc : List S) (l : List Tok) (x : PR (List S)) : Prop := match x with
 | .ok xs l' => Sfx ts l' ∧ ∀ b (Y : St), b < Y.stk.length → ∀ N T Lb, Y.stk.length = N → Y.tk.length = T → Y.lp.length = Lb → ∀ c tk, gB T tk c acc.length 58 → ∃ c' tk',
  itE (S45.b0 (E L) itE N Lb) [.ptr false b 0, .sl (fg acc) c] ((Y.af false b (pc ts l d)).app [] tk []) = some (.exit 0, [.ptr false b 0, .sl (fg xs) c'], (Y.af false b (pc ts l' d)).app [] tk' [])
 | .bad er p => ∃ a' d'', ∀ b (Y : St), b < Y.stk.length → ∀ N T Lb, Y.stk.length = N → Y.tk.length = T → Y.lp.length = Lb → ∀ c tk, gB T tk c acc.length 58 → ∃ z tk',
  itE (S45.b0 (E L) itE N Lb) [.ptr false b 0, .sl (fg acc) c] ((Y.af false b (pc ts l d)).app [] tk []) = some (.pan 92 (.agg #[]), [.ptr false b 0, z], (Y.af false b (pcf (ax ts) a' d'' er p.1 p.2)).app [] tk' [])
section
variable {ts : List Tok} (hr : Row ts) {n : Nat} (ih : qO ts n)
include hr ih
theorem ED (ihr : ∀ d acc l x, d ≤ 12 → acc.length + n ≤ 1000000 → Sfx ts l → kP n d acc l = some x → B5 ts d acc l x) :
 ∀ d acc l x, d ≤ 12 → acc.length + (n + 1) ≤ 1000000 → Sfx ts l → kP (n + 1) d acc l = some x → B5 ts d acc l x := by
 intro d acc l x hd12 hac h hx; simp only [kP] at hx
 cases i1 : isT l [125] with
 | true =>
  rw [if_pos i1] at hx; obtain rfl := Option.some.inj hx; refine ⟨h.isT hr i1, fun b Y hb N T Lb hN hT hL c tk ho => ⟨c, tk, ?_⟩⟩; have e1 := ay (aB hr h d [125] (b := b)) (s := Y) hb; simp only [pc, pcf, i1, if_true] at e1 ⊢
  generalize ax ts = es at *
  apply iD; simp [S45.b0, hN, hT, hL, hb, e1, i1]
 | false =>
  rw [if_neg (by rw [i1]; decide)] at hx; obtain ⟨y, hy⟩ := dw hx; rw [hy] at hx; have h2 := ih.st d l y hd12 h hy
  cases y with
  | bad er q =>
   obtain rfl := bJ hx rfl; obtain ⟨a', d'', eb⟩ := bn h2 rfl; refine ⟨a', d'', fun b Y hb N T Lb hN hT hL c tk ho => ⟨.sl (fg acc) c, tk, ?_⟩⟩; have e1 := ay (aB hr h d [125] (b := b)) (s := Y) hb; have eb := eb hb; simp only [pc, pcf, dR, i1, if_false, ab] at e1 eb ⊢
   generalize ax ts = es at *
   apply iE; simp [S45.b0, hN, hT, hL, hb, e1, eb, i1]
  | ok s l1 =>
   have hx := cx hx rfl
   try dsimp only at hx
   have s1 := br h2 rfl
   have own : ∀ (b : Nat) (Y : St) (T : Nat), Y.tk.length = T → ∀ c tk, gB T tk c acc.length 58 → ∃ c' tk', (∀ (bl : List Blk) (lp : List Aux) (base : Nat) (z : List PV), dX base z 58 688 (.sl (fg acc) c) [s.enc] ((Y.af false b (pc ts l1 d)).app bl tk lp) = some (.sl (fg (acc ++ [s])) c', (Y.af false b (pc ts l1 d)).app bl tk' lp)) ∧ gB T tk' c' (acc ++ [s]).length 58 := by
    intro b Y T hT c tk ho; rw [← lQ] at ho; have := ho.grow (ys := [s.enc]) (bytes := 688) (b := b) (cs := pc ts l1 d) hT (by rw [lQ, bG]; unfold dz; omega) (vr _) (by simpa [fg] using vr [s]) (by omega) (by omega); simpa [zt, fg, lQ] using this
   have hl := Du (sz := 58) (z := y58 0 0) rfl (S.len s) (S.pl s) (S.len s); have h4 := ihr d (acc ++ [s]) l1 x hd12 (by simp only [bM, bG]; omega) s1 hx
   have stp : ∀ b (Y : St), b < Y.stk.length → ∀ N T Lb, Y.stk.length = N → Y.tk.length = T → Y.lp.length = Lb → ∀ c tk, gB T tk c acc.length 58 → ∃ c' tk', gB T tk' c' (acc ++ [s]).length 58 ∧
    S45.b0 (E L) itE N Lb [.ptr false b 0, .sl (fg acc) c] ((Y.af false b (pc ts l d)).app [] tk []) = some (.normal, [.ptr false b 0, .sl (fg (acc ++ [s])) c'], (Y.af false b (pc ts l1 d)).app [] tk' []) := by
    intro b Y hb N T Lb hN hT hL c tk ho; obtain ⟨c', tk', ea, ho'⟩ := own b Y T hT c tk ho; refine ⟨c', tk', ho', ?_⟩; have e1 := ay (aB hr h d [125] (b := b)) (s := Y) hb; have e2 := aK h2 rfl hb; simp only [pc, pcf, dR, i1, if_false, ab] at e1 e2 ea ⊢
    generalize ax ts = es at *
    simp [S45.b0, hN, hT, hL, hb, e1, e2, w7, hl, cu, ea, i1]
   cases x with
   | ok xs l' =>
    refine ⟨h4.1, fun b Y hb N T Lb hN hT hL c tk ho => ?_⟩; obtain ⟨c1, tk1, ho1, hs⟩ := stp b Y hb N T Lb hN hT hL c tk ho; obtain ⟨c', tk', hit⟩ := h4.2 b Y hb N T Lb hN hT hL c1 tk1 ho1; exact ⟨c', tk', (bW hs).trans hit⟩
   | bad er p =>
    obtain ⟨a', d'', h4⟩ := h4; refine ⟨a', d'', fun b Y hb N T Lb hN hT hL c tk ho => ?_⟩; obtain ⟨c1, tk1, ho1, hs⟩ := stp b Y hb N T Lb hN hT hL c tk ho; obtain ⟨z, tk', hit⟩ := h4 b Y hb N T Lb hN hT hL c1 tk1 ho1; exact ⟨z, tk', (bW hs).trans hit⟩
end
theorem Al {ts : List Tok} (hr : Row ts) {n : Nat} (hn : n ≤ 1000000) (ihr : ∀ d acc l x, d ≤ 12 → acc.length + n ≤ 1000000 → Sfx ts l → kP n d acc l = some x → B5 ts d acc l x) :
 ∀ d l x, d ≤ 12 → Sfx ts l → fk (n + 1) d l = some x → Rd 45 [] ts d d l cq x := by
 intro d l x hd12 h hx; simp only [fk] at hx; have h1 := eI hr h d [123]
 cases x1 : cF [123] l with
 | bad e q =>
  obtain rfl := bJ hx x1; obtain ⟨a', d'', eb⟩ := bn h1 x1; refine ⟨a', d'', fun b Y hb => ?_⟩; have eb := eb hb; rw [tp]; obtain ⟨N, T, Lb, hN, hT, hL⟩ := lens3 Y; rw [hN] at hb
  conv => lhs; rw [← ak (Y.af false b (pc ts l d))]
  simp only [pc, pcf, aJ] at eb ⊢
  generalize ax ts = es at *
  simp [S45, hN, hT, hL, hb, eb]
 | ok t l1 =>
  have hx := cx hx x1
  try dsimp only at hx
  have s1 := br h1 x1; have h2 := tG s1 d t (by omega); unfold mq at hx
  by_cases hdd : 12 < d + 1
  · rw [if_pos hdd] at hx h2
    obtain rfl := Option.some.inj hx; obtain ⟨a', d'', eb⟩ := bn h2 rfl; refine ⟨a', d'', fun b Y hb => ?_⟩; have e1 := aK h1 x1 hb; have eb := eb hb; rw [tp]; obtain ⟨N, T, Lb, hN, hT, hL⟩ := lens3 Y; rw [hN] at hb
    conv => lhs; rw [← ak (Y.af false b (pc ts l d))]
    simp only [pc, pcf, aJ, Tok.c, bj] at e1 eb ⊢
    generalize ax ts = es at *
    simp [S45, hN, hT, hL, hb, e1, eb]
  · rw [if_neg hdd] at hx h2
    have h3 := ihr (d + 1) [] l1 x (by omega) (by simpa using hn) s1 hx
    have w1 : IntKind.i64.wrap (((d + 1 : Nat) : Int) - 1) = (d : Int) := by rw [IntWalk.i64_in _ (by omega)]; omega
    cases x with
    | bad er q =>
     obtain ⟨a', d'', h3⟩ := h3; refine ⟨a', d'', fun b Y hb => ?_⟩; have e1 := aK h1 x1 hb; have e2 := aK h2 rfl hb; obtain ⟨z, tk', hit⟩ := h3 b Y hb _ _ _ rfl rfl rfl .nil [] (.inl (.inl rfl)); rw [tp]; obtain ⟨N, T, Lb, hN, hT, hL⟩ := lens3 Y; rw [hN] at hb; rw [hN] at hit
     conv => lhs; rw [← ak (Y.af false b (pc ts l d))]
     rw [hL] at hit; simp only [pc, pcf, aJ, Tok.c, bj, fg] at e1 e2 hit ⊢
     generalize ((d + 1 : Nat) : Int) = d1 at *
     generalize ax ts = es at *
     simp [S45, hN, hT, hL, hb, e1, e2, hit, Ex.bh]
    | ok xs l3 =>
     refine ⟨h3.1, fun b Y hb => ?_⟩; have e1 := aK h1 x1 hb; have e2 := aK h2 rfl hb; obtain ⟨c', tk', hit⟩ := h3.2 b Y hb _ _ _ rfl rfl rfl .nil [] (.inl (.inl rfl)); rw [tp]; obtain ⟨N, T, Lb, hN, hT, hL⟩ := lens3 Y; rw [hN] at hb; rw [hN] at hit
     conv => lhs; rw [← ak (Y.af false b (pc ts l d))]
     rw [hL] at hit; simp only [pc, pcf, aJ, Tok.c, bj, fg] at e1 e2 hit ⊢
     generalize ((d + 1 : Nat) : Int) = d1 at *
     generalize ax ts = es at *
     simp [S45, hN, hT, hL, hb, e1, e2, hit, w1, Ex.bh]
end Go.Proofs.YtlhlijaondmccaaDoor.S
namespace Go.Proofs.YtlhlijaondmccaaDoor.S
open Go Go.AM Go.Proofs
attribute [local simp] da cD bT bU cE fc fw ef dj ec dh ed di fv bV gZ dW hI gV gO AM.ae aQ aR bg aP aD AM.onG fP cc eB Ex.bh cond_true cond_false cW cV cU cT cS cY cR cZ cX eg dm dp cC db AM.dt AM.cellsOf AM.an bQ beq_true cM al aF bf bz bS decide_true decide_false bL bB bq bA ba aC az aZ aw dc de ft aA bK bu bR cz dV dZ cK eA ew set_set eD dD fM dE cI bD dC dB cH dA eC eE fG fH bE cm ep fF dP aL aU aE AM.aT ah cQ bO aX aS aO aN AM.part bm aM cf cj cg cd cd.eO AM.dM bC cr dI fE aL laid aH bc cv
attribute [-simp] ag
attribute [local congr] dJ
attribute [local simp] vZ xp xq uv uw ux uy Di Ad Ae xr Af Dh v7 Ac w7 yC yE yD vN BR yx yA BS yy yB DE BO BP BQ yw yz X.len Pl.len Rt.len X.okc Pl.okc Rt.okc X.fl Pl.fl Rt.fl X.kJ Pl.kJ Rt.kJ S.xA S.len S.okc S.fl S.kJ S.can S.take fC pw Ap et fg
theorem oJ {l : List Tok} {s : List UInt8} (h : isT l s = true) : (hd l).text = s := by
 unfold isT at h; simp only [ao, decide_eq_true_eq] at h; exact h.2
theorem Sfx.label {ts l : List Tok} (hr : Row ts) (h : Sfx ts l) : Sfx ts (gz l).2 := by
 unfold gz; split
 · exact h.next hr
 · exact h
section
variable {ts : List Tok} (hr : Row ts) {n : Nat} (hn : n ≤ 1000000) (ihe : mb ts n) (ih : qO ts n)
include hr hn ihe ih
theorem zE {d : Nat} {l : List Tok} {x : PR S} (hd12 : d ≤ 12) (h : Sfx ts l) (k1 : (hd l).kind = 1) (hx : (if isT (cP l) [58] then pb (some (cF [108, 111, 111, 112] (cP l).tail)) fun _ l1 => ky n d (hd l) (bs (hd l).text) l1
 else pb (some (cF [61] (cP l))) fun _ l1 => pb (j6 n d l1) fun r l2 => fI (mkS (hd l) 3 (bs (hd l).text) r pl0 x0 0 [] [] []) l2) = some x) : Rd 82 [] ts d d l dR x := by
 have e67 := fun b (Y : St) hb => ay (dH h d 0 0 0 (b := b)) (s := Y) hb
 have h1 := yO hr ihe ih d l x hd12 h hx
 cases x with
 | bad e q =>
  obtain ⟨a', d'', eb⟩ := bn h1 rfl; refine ⟨a', d'', fun b Y hb => ?_⟩; have eb := eb hb; have e67 := e67 b Y hb; rw [dO]; obtain ⟨N, T, Lb, hN, hT, hL⟩ := lens3 Y; rw [hN] at hb
  conv => lhs; rw [← ak (Y.af false b (pc ts l d))]
  simp only [pc, pcf, aJ, Tok.c, bj, aa, if_true, if_false, ab, bX, dY, eJ, dR, cq, eY, k1] at e67 eb ⊢
  generalize ax ts = es at *
  simp (maxDischargeDepth := 8) [S82, hN, hT, hL, hb, e67, eb, k1]
 | ok v1 l1 =>
  refine ⟨br h1 rfl, fun b Y hb => ?_⟩; have e67 := e67 b Y hb; have e1 := aK h1 rfl hb; rw [dO]; obtain ⟨N, T, Lb, hN, hT, hL⟩ := lens3 Y; rw [hN] at hb
  conv => lhs; rw [← ak (Y.af false b (pc ts l d))]
  simp only [pc, pcf, aJ, Tok.c, bj, aa, if_true, if_false, ab, bX, dY, eJ, dR, cq, eY, k1] at e67 e1 ⊢
  generalize ax ts = es at *
  simp (maxDischargeDepth := 8) [S82, hN, hT, hL, hb, e67, e1, k1]
theorem zD {d : Nat} {l : List Tok} {x : PR S} (hd12 : d ≤ 12) (h : Sfx ts l) (k1 : (hd l).kind ≠ 1)  (pk : isT l [108, 111, 111, 112] = true) (hx : ky n d (hd l) (bs []) l.tail = some x) : Rd 82 [] ts d d l dR x := by
 have e67 := fun b (Y : St) hb => ay (dH h d 0 0 0 (b := b)) (s := Y) hb
 have g0 := fun b (Y : St) hb => ay (aB hr h d [108, 111, 111, 112] (b := b)) (s := Y) hb
 have k1' : ¬ (((hd l).kind : Int) = 1) := by omega
 have s0 := h.isT hr pk; have h1 := ih.lp _ _ _ _ _ hd12 s0 hx
 cases x with
 | bad e q =>
  obtain ⟨a', d'', eb⟩ := bn h1 rfl; refine ⟨a', d'', fun b Y hb => ?_⟩; have eb := eb hb; have e67 := e67 b Y hb; have f0 := g0 b Y hb; rw [dO]; obtain ⟨N, T, Lb, hN, hT, hL⟩ := lens3 Y; rw [hN] at hb
  conv => lhs; rw [← ak (Y.af false b (pc ts l d))]
  simp only [pc, pcf, aJ, Tok.c, bj, aa, if_true, if_false, ab, bX, dY, eJ, dR, cq, eY, fo, pk] at e67 f0 eb ⊢
  generalize ax ts = es at *
  simp (maxDischargeDepth := 8) [S82, hN, hT, hL, hb, e67, f0, eb, pk, k1, k1']
 | ok v1 l1 =>
  refine ⟨br h1 rfl, fun b Y hb => ?_⟩; have e67 := e67 b Y hb; have f0 := g0 b Y hb; have e1 := aK h1 rfl hb; rw [dO]; obtain ⟨N, T, Lb, hN, hT, hL⟩ := lens3 Y; rw [hN] at hb
  conv => lhs; rw [← ak (Y.af false b (pc ts l d))]
  simp only [pc, pcf, aJ, Tok.c, bj, aa, if_true, if_false, ab, bX, dY, eJ, dR, cq, eY, fo, pk] at e67 f0 e1 ⊢
  generalize ax ts = es at *
  simp (maxDischargeDepth := 8) [S82, hN, hT, hL, hb, e67, f0, e1, pk, k1, k1']
theorem C9 {d : Nat} {l : List Tok} {x : PR S} (hd12 : d ≤ 12) (h : Sfx ts l) (k1 : (hd l).kind ≠ 1) (p0 : isT l [108, 111, 111, 112] = false) (pk : isT l [105, 102] = true) (hx : (pb (cN n 0 d l.tail) fun e l1 => pb (fk n d l1) fun b l2 =>
 (if isT l2 [101, 108, 115, 101] then pb (fk n d l2.tail) fun c l3 => some (.ok (mkS (hd l) 6 (bs []) rt0 pl0 e 0 [] b c) l3) else some (.ok (mkS (hd l) 6 (bs []) rt0 pl0 e 0 [] b []) l2))) = some x) : Rd 82 [] ts d d l dR x := by
 have e67 := fun b (Y : St) hb => ay (dH h d 0 0 0 (b := b)) (s := Y) hb
 have g0 := fun b (Y : St) hb => ay (aB hr h d [108, 111, 111, 112] (b := b)) (s := Y) hb
 have g1 := fun b (Y : St) hb => ay (aB hr h d [105, 102] (b := b)) (s := Y) hb
 have k1' : ¬ (((hd l).kind : Int) = 1) := by omega
 have s0 := h.isT hr pk; have h1 := yM hr ihe ih d (hd l) l.tail x hd12 s0 hx
 cases x with
 | bad e q =>
  obtain ⟨a', d'', eb⟩ := bn h1 rfl; refine ⟨a', d'', fun b Y hb => ?_⟩; have eb := eb hb; have e67 := e67 b Y hb; have f0 := g0 b Y hb; have f1 := g1 b Y hb; rw [dO]; obtain ⟨N, T, Lb, hN, hT, hL⟩ := lens3 Y; rw [hN] at hb
  conv => lhs; rw [← ak (Y.af false b (pc ts l d))]
  simp only [pc, pcf, aJ, Tok.c, bj, aa, if_true, if_false, ab, bX, dY, eJ, dR, cq, eY, fo, p0, pk] at e67 f0 f1 eb ⊢
  generalize ax ts = es at *
  simp (maxDischargeDepth := 8) [S82, hN, hT, hL, hb, e67, f0, f1, eb, p0, pk, k1, k1']
 | ok v1 l1 =>
  refine ⟨br h1 rfl, fun b Y hb => ?_⟩; have e67 := e67 b Y hb; have f0 := g0 b Y hb; have f1 := g1 b Y hb; have e1 := aK h1 rfl hb; rw [dO]; obtain ⟨N, T, Lb, hN, hT, hL⟩ := lens3 Y; rw [hN] at hb
  conv => lhs; rw [← ak (Y.af false b (pc ts l d))]
  simp only [pc, pcf, aJ, Tok.c, bj, aa, if_true, if_false, ab, bX, dY, eJ, dR, cq, eY, fo, p0, pk] at e67 f0 f1 e1 ⊢
  generalize ax ts = es at *
  simp (maxDischargeDepth := 8) [S82, hN, hT, hL, hb, e67, f0, f1, e1, p0, pk, k1, k1']
theorem vA {d : Nat} {l : List Tok} {x : PR S} (hd12 : d ≤ 12) (h : Sfx ts l) (k1 : (hd l).kind ≠ 1) (p0 : isT l [108, 111, 111, 112] = false) (p1 : isT l [105, 102] = false) (pk : isT l [97, 116, 111, 109, 105, 99] = true) (hx : (pb (fk n d l.tail) fun b l1 => some (.ok (mkS (hd l) 10 (bs []) rt0 pl0 x0 0 [] b []) l1)) = some x) : Rd 82 [] ts d d l dR x := by
 have e67 := fun b (Y : St) hb => ay (dH h d 0 0 0 (b := b)) (s := Y) hb
 have g0 := fun b (Y : St) hb => ay (aB hr h d [108, 111, 111, 112] (b := b)) (s := Y) hb
 have g1 := fun b (Y : St) hb => ay (aB hr h d [105, 102] (b := b)) (s := Y) hb
 have g2 := fun b (Y : St) hb => ay (aB hr h d [97, 116, 111, 109, 105, 99] (b := b)) (s := Y) hb
 have k1' : ¬ (((hd l).kind : Int) = 1) := by omega
 have s0 := h.isT hr pk; obtain ⟨y1, hy1⟩ := dw hx; rw [hy1] at hx; have h1 := ih.blk _ _ _ hd12 s0 hy1
 cases y1 with
 | bad e q =>
  obtain rfl := bJ hx rfl; obtain ⟨a', d'', eb⟩ := bn h1 rfl; refine ⟨a', d'', fun b Y hb => ?_⟩; have eb := eb hb; have e67 := e67 b Y hb; have f0 := g0 b Y hb; have f1 := g1 b Y hb; have f2 := g2 b Y hb; rw [dO]; obtain ⟨N, T, Lb, hN, hT, hL⟩ := lens3 Y; rw [hN] at hb
  conv => lhs; rw [← ak (Y.af false b (pc ts l d))]
  simp only [pc, pcf, aJ, Tok.c, bj, aa, if_true, if_false, ab, bX, dY, eJ, dR, cq, eY, fo, p0, p1, pk] at e67 f0 f1 f2 eb ⊢
  generalize ax ts = es at *
  simp (maxDischargeDepth := 8) [S82, hN, hT, hL, hb, e67, f0, f1, f2, eb, p0, p1, pk, k1, k1']
 | ok b1 l1 =>
  have hx := cx hx rfl
  try dsimp only at hx
  have s1 := br h1 rfl; obtain rfl := Option.some.inj hx; refine ⟨s1, fun b Y hb => ?_⟩; have e67 := e67 b Y hb; have f0 := g0 b Y hb; have f1 := g1 b Y hb; have f2 := g2 b Y hb; have e1 := aK h1 rfl hb; rw [dO]; obtain ⟨N, T, Lb, hN, hT, hL⟩ := lens3 Y; rw [hN] at hb
  conv => lhs; rw [← ak (Y.af false b (pc ts l d))]
  simp only [pc, pcf, aJ, Tok.c, bj, aa, if_true, if_false, ab, bX, dY, eJ, dR, cq, eY, fo, p0, p1, pk] at e67 f0 f1 f2 e1 ⊢
  generalize ax ts = es at *
  simp (maxDischargeDepth := 8) [S82, hN, hT, hL, hb, e67, f0, f1, f2, e1, p0, p1, pk, k1, k1']
theorem BD {d : Nat} {l : List Tok} {x : PR S} (hd12 : d ≤ 12) (h : Sfx ts l) (k1 : (hd l).kind ≠ 1) (p0 : isT l [108, 111, 111, 112] = false) (p1 : isT l [105, 102] = false) (p2 : isT l [97, 116, 111, 109, 105, 99] = false) (pk : isT l [108, 101, 116] = true) (hx : (pb (some (eM 1 (cP l))) fun u l1 => pb (some (cF [61] l1)) fun _ l2 => pb (j6 n d l2) fun r l3 => fI (mkS (hd l) 1 (bs u.text) r pl0 x0 0 [] [] []) l3) = some x) : Rd 82 [] ts d d l dR x := by
 have e67 := fun b (Y : St) hb => ay (dH h d 0 0 0 (b := b)) (s := Y) hb
 have g0 := fun b (Y : St) hb => ay (aB hr h d [108, 111, 111, 112] (b := b)) (s := Y) hb
 have g1 := fun b (Y : St) hb => ay (aB hr h d [105, 102] (b := b)) (s := Y) hb
 have g2 := fun b (Y : St) hb => ay (aB hr h d [97, 116, 111, 109, 105, 99] (b := b)) (s := Y) hb
 have g3 := fun b (Y : St) hb => ay (jy h d 0 0 0 [108, 101, 116] (b := b)) (s := Y) hb
 have k1' : ¬ (((hd l).kind : Int) = 1) := by omega
 have s0 := h.next hr
 have e151 := fun b (Y : St) hb => ay (kA hr h d (b := b)) (s := Y) hb
 have kt := oJ pk; have h1 := gK hr s0 d 1
 cases x1 : eM 1 (cP l) with
 | bad e q =>
  obtain rfl := bJ hx x1; obtain ⟨a', d'', eb⟩ := bn h1 x1; refine ⟨a', d'', fun b Y hb => ?_⟩; have eb := eb hb; have e67 := e67 b Y hb; have f0 := g0 b Y hb; have f1 := g1 b Y hb; have f2 := g2 b Y hb; have f3 := g3 b Y hb; have e151 := e151 b Y hb; rw [dO]; obtain ⟨N, T, Lb, hN, hT, hL⟩ := lens3 Y; rw [hN] at hb
  conv => lhs; rw [← ak (Y.af false b (pc ts l d))]
  simp only [pc, pcf, aJ, Tok.c, bj, aa, if_true, if_false, ab, bX, dY, eJ, dR, cq, eY, fo, p0, p1, p2, pk, kt] at e67 f0 f1 f2 f3 e151 eb ⊢
  generalize ax ts = es at *
  simp (maxDischargeDepth := 8) [S82, hN, hT, hL, hb, e67, f0, f1, f2, f3, e151, eb, p0, p1, p2, pk, kt, k1, k1']
 | ok u1 l1 =>
  have hx := cx hx x1
  try dsimp only at hx
  have s1 := br h1 x1; have h2 := eI hr s1 d [61]
  cases x2 : cF [61] l1 with
  | bad e q =>
   obtain rfl := bJ hx x2; obtain ⟨a', d'', eb⟩ := bn h2 x2; refine ⟨a', d'', fun b Y hb => ?_⟩; have eb := eb hb; have e67 := e67 b Y hb; have f0 := g0 b Y hb; have f1 := g1 b Y hb; have f2 := g2 b Y hb; have f3 := g3 b Y hb; have e151 := e151 b Y hb; have e1 := aK h1 x1 hb; rw [dO]; obtain ⟨N, T, Lb, hN, hT, hL⟩ := lens3 Y; rw [hN] at hb
   conv => lhs; rw [← ak (Y.af false b (pc ts l d))]
   simp only [pc, pcf, aJ, Tok.c, bj, aa, if_true, if_false, ab, bX, dY, eJ, dR, cq, eY, fo, p0, p1, p2, pk, kt] at e67 f0 f1 f2 f3 e151 e1 eb ⊢
   generalize ax ts = es at *
   simp (maxDischargeDepth := 8) [S82, hN, hT, hL, hb, e67, f0, f1, f2, f3, e151, e1, eb, p0, p1, p2, pk, kt, k1, k1']
  | ok u2 l2 =>
   have hx := cx hx x2
   try dsimp only at hx
   have s2 := br h2 x2; obtain ⟨y3, hy3⟩ := dw hx; rw [hy3] at hx; have h3 := pO hr ihe hd12 s2 hy3
   cases y3 with
   | bad e q =>
    obtain rfl := bJ hx rfl; obtain ⟨a', d'', eb⟩ := bn h3 rfl; refine ⟨a', d'', fun b Y hb => ?_⟩; have eb := eb hb; have e67 := e67 b Y hb; have f0 := g0 b Y hb; have f1 := g1 b Y hb; have f2 := g2 b Y hb; have f3 := g3 b Y hb; have e151 := e151 b Y hb; have e1 := aK h1 x1 hb; have e2 := aK h2 x2 hb; rw [dO]; obtain ⟨N, T, Lb, hN, hT, hL⟩ := lens3 Y; rw [hN] at hb
    conv => lhs; rw [← ak (Y.af false b (pc ts l d))]
    simp only [pc, pcf, aJ, Tok.c, bj, aa, if_true, if_false, ab, bX, dY, eJ, dR, cq, eY, fo, p0, p1, p2, pk, kt] at e67 f0 f1 f2 f3 e151 e1 e2 eb ⊢
    generalize ax ts = es at *
    simp (maxDischargeDepth := 8) [S82, hN, hT, hL, hb, e67, f0, f1, f2, f3, e151, e1, e2, eb, p0, p1, p2, pk, kt, k1, k1']
   | ok r3 l3 =>
    have hx := cx hx rfl
    try dsimp only at hx
    have s3 := br h3 rfl; unfold fI at hx; have h4 := eI hr s3 d [59]
    cases x4 : cF [59] l3 with
    | bad e q =>
     obtain rfl := bJ hx x4; obtain ⟨a', d'', eb⟩ := bn h4 x4; refine ⟨a', d'', fun b Y hb => ?_⟩; have eb := eb hb; have e67 := e67 b Y hb; have f0 := g0 b Y hb; have f1 := g1 b Y hb; have f2 := g2 b Y hb; have f3 := g3 b Y hb; have e151 := e151 b Y hb; have e1 := aK h1 x1 hb; have e2 := aK h2 x2 hb; have e3 := aK h3 rfl hb; rw [dO]; obtain ⟨N, T, Lb, hN, hT, hL⟩ := lens3 Y; rw [hN] at hb
     conv => lhs; rw [← ak (Y.af false b (pc ts l d))]
     simp only [pc, pcf, aJ, Tok.c, bj, aa, if_true, if_false, ab, bX, dY, eJ, dR, cq, eY, fo, p0, p1, p2, pk, kt] at e67 f0 f1 f2 f3 e151 e1 e2 e3 eb ⊢
     generalize ax ts = es at *
     simp (maxDischargeDepth := 8) [S82, hN, hT, hL, hb, e67, f0, f1, f2, f3, e151, e1, e2, e3, eb, p0, p1, p2, pk, kt, k1, k1']
    | ok u4 l4 =>
     have hx := cx hx x4
     try dsimp only at hx
     have s4 := br h4 x4; obtain rfl := Option.some.inj hx; refine ⟨s4, fun b Y hb => ?_⟩; have e67 := e67 b Y hb; have f0 := g0 b Y hb; have f1 := g1 b Y hb; have f2 := g2 b Y hb; have f3 := g3 b Y hb; have e151 := e151 b Y hb; have e1 := aK h1 x1 hb; have e2 := aK h2 x2 hb; have e3 := aK h3 rfl hb; have e4 := aK h4 x4 hb; rw [dO]; obtain ⟨N, T, Lb, hN, hT, hL⟩ := lens3 Y; rw [hN] at hb
     conv => lhs; rw [← ak (Y.af false b (pc ts l d))]
     simp only [pc, pcf, aJ, Tok.c, bj, aa, if_true, if_false, ab, bX, dY, eJ, dR, cq, eY, fo, p0, p1, p2, pk, kt] at e67 f0 f1 f2 f3 e151 e1 e2 e3 e4 ⊢
     generalize ax ts = es at *
     simp (maxDischargeDepth := 8) [S82, hN, hT, hL, hb, e67, f0, f1, f2, f3, e151, e1, e2, e3, e4, p0, p1, p2, pk, kt, k1, k1']
theorem BF {d : Nat} {l : List Tok} {x : PR S} (hd12 : d ≤ 12) (h : Sfx ts l) (k1 : (hd l).kind ≠ 1) (p0 : isT l [108, 111, 111, 112] = false) (p1 : isT l [105, 102] = false) (p2 : isT l [97, 116, 111, 109, 105, 99] = false) (p3 : isT l [108, 101, 116] = false) (pk : isT l [118, 97, 114] = true) (hx : (pb (some (eM 1 (cP l))) fun u l1 => pb (some (cF [61] l1)) fun _ l2 => pb (j6 n d l2) fun r l3 => fI (mkS (hd l) 2 (bs u.text) r pl0 x0 0 [] [] []) l3) = some x) : Rd 82 [] ts d d l dR x := by
 have e67 := fun b (Y : St) hb => ay (dH h d 0 0 0 (b := b)) (s := Y) hb
 have g0 := fun b (Y : St) hb => ay (aB hr h d [108, 111, 111, 112] (b := b)) (s := Y) hb
 have g1 := fun b (Y : St) hb => ay (aB hr h d [105, 102] (b := b)) (s := Y) hb
 have g2 := fun b (Y : St) hb => ay (aB hr h d [97, 116, 111, 109, 105, 99] (b := b)) (s := Y) hb
 have g3 := fun b (Y : St) hb => ay (jy h d 0 0 0 [108, 101, 116] (b := b)) (s := Y) hb
 have g4 := fun b (Y : St) hb => ay (jy h d 0 0 0 [118, 97, 114] (b := b)) (s := Y) hb
 have k1' : ¬ (((hd l).kind : Int) = 1) := by omega
 have s0 := h.next hr
 have e151 := fun b (Y : St) hb => ay (kA hr h d (b := b)) (s := Y) hb
 have kt := oJ pk; have h1 := gK hr s0 d 1
 cases x1 : eM 1 (cP l) with
 | bad e q =>
  obtain rfl := bJ hx x1; obtain ⟨a', d'', eb⟩ := bn h1 x1; refine ⟨a', d'', fun b Y hb => ?_⟩; have eb := eb hb; have e67 := e67 b Y hb; have f0 := g0 b Y hb; have f1 := g1 b Y hb; have f2 := g2 b Y hb; have f3 := g3 b Y hb; have f4 := g4 b Y hb; have e151 := e151 b Y hb; rw [dO]; obtain ⟨N, T, Lb, hN, hT, hL⟩ := lens3 Y; rw [hN] at hb
  conv => lhs; rw [← ak (Y.af false b (pc ts l d))]
  simp only [pc, pcf, aJ, Tok.c, bj, aa, if_true, if_false, ab, bX, dY, eJ, dR, cq, eY, fo, p0, p1, p2, p3, pk, kt] at e67 f0 f1 f2 f3 f4 e151 eb ⊢
  generalize ax ts = es at *
  simp (maxDischargeDepth := 8) [S82, hN, hT, hL, hb, e67, f0, f1, f2, f3, f4, e151, eb, p0, p1, p2, p3, pk, kt, k1, k1']
 | ok u1 l1 =>
  have hx := cx hx x1
  try dsimp only at hx
  have s1 := br h1 x1; have h2 := eI hr s1 d [61]
  cases x2 : cF [61] l1 with
  | bad e q =>
   obtain rfl := bJ hx x2; obtain ⟨a', d'', eb⟩ := bn h2 x2; refine ⟨a', d'', fun b Y hb => ?_⟩; have eb := eb hb; have e67 := e67 b Y hb; have f0 := g0 b Y hb; have f1 := g1 b Y hb; have f2 := g2 b Y hb; have f3 := g3 b Y hb; have f4 := g4 b Y hb; have e151 := e151 b Y hb; have e1 := aK h1 x1 hb; rw [dO]; obtain ⟨N, T, Lb, hN, hT, hL⟩ := lens3 Y; rw [hN] at hb
   conv => lhs; rw [← ak (Y.af false b (pc ts l d))]
   simp only [pc, pcf, aJ, Tok.c, bj, aa, if_true, if_false, ab, bX, dY, eJ, dR, cq, eY, fo, p0, p1, p2, p3, pk, kt] at e67 f0 f1 f2 f3 f4 e151 e1 eb ⊢
   generalize ax ts = es at *
   simp (maxDischargeDepth := 8) [S82, hN, hT, hL, hb, e67, f0, f1, f2, f3, f4, e151, e1, eb, p0, p1, p2, p3, pk, kt, k1, k1']
  | ok u2 l2 =>
   have hx := cx hx x2
   try dsimp only at hx
   have s2 := br h2 x2; obtain ⟨y3, hy3⟩ := dw hx; rw [hy3] at hx; have h3 := pO hr ihe hd12 s2 hy3
   cases y3 with
   | bad e q =>
    obtain rfl := bJ hx rfl; obtain ⟨a', d'', eb⟩ := bn h3 rfl; refine ⟨a', d'', fun b Y hb => ?_⟩; have eb := eb hb; have e67 := e67 b Y hb; have f0 := g0 b Y hb; have f1 := g1 b Y hb; have f2 := g2 b Y hb; have f3 := g3 b Y hb; have f4 := g4 b Y hb; have e151 := e151 b Y hb; have e1 := aK h1 x1 hb; have e2 := aK h2 x2 hb; rw [dO]; obtain ⟨N, T, Lb, hN, hT, hL⟩ := lens3 Y; rw [hN] at hb
    conv => lhs; rw [← ak (Y.af false b (pc ts l d))]
    simp only [pc, pcf, aJ, Tok.c, bj, aa, if_true, if_false, ab, bX, dY, eJ, dR, cq, eY, fo, p0, p1, p2, p3, pk, kt] at e67 f0 f1 f2 f3 f4 e151 e1 e2 eb ⊢
    generalize ax ts = es at *
    simp (maxDischargeDepth := 8) [S82, hN, hT, hL, hb, e67, f0, f1, f2, f3, f4, e151, e1, e2, eb, p0, p1, p2, p3, pk, kt, k1, k1']
   | ok r3 l3 =>
    have hx := cx hx rfl
    try dsimp only at hx
    have s3 := br h3 rfl; unfold fI at hx; have h4 := eI hr s3 d [59]
    cases x4 : cF [59] l3 with
    | bad e q =>
     obtain rfl := bJ hx x4; obtain ⟨a', d'', eb⟩ := bn h4 x4; refine ⟨a', d'', fun b Y hb => ?_⟩; have eb := eb hb; have e67 := e67 b Y hb; have f0 := g0 b Y hb; have f1 := g1 b Y hb; have f2 := g2 b Y hb; have f3 := g3 b Y hb; have f4 := g4 b Y hb; have e151 := e151 b Y hb; have e1 := aK h1 x1 hb; have e2 := aK h2 x2 hb; have e3 := aK h3 rfl hb; rw [dO]; obtain ⟨N, T, Lb, hN, hT, hL⟩ := lens3 Y; rw [hN] at hb
     conv => lhs; rw [← ak (Y.af false b (pc ts l d))]
     simp only [pc, pcf, aJ, Tok.c, bj, aa, if_true, if_false, ab, bX, dY, eJ, dR, cq, eY, fo, p0, p1, p2, p3, pk, kt] at e67 f0 f1 f2 f3 f4 e151 e1 e2 e3 eb ⊢
     generalize ax ts = es at *
     simp (maxDischargeDepth := 8) [S82, hN, hT, hL, hb, e67, f0, f1, f2, f3, f4, e151, e1, e2, e3, eb, p0, p1, p2, p3, pk, kt, k1, k1']
    | ok u4 l4 =>
     have hx := cx hx x4
     try dsimp only at hx
     have s4 := br h4 x4; obtain rfl := Option.some.inj hx; refine ⟨s4, fun b Y hb => ?_⟩; have e67 := e67 b Y hb; have f0 := g0 b Y hb; have f1 := g1 b Y hb; have f2 := g2 b Y hb; have f3 := g3 b Y hb; have f4 := g4 b Y hb; have e151 := e151 b Y hb; have e1 := aK h1 x1 hb; have e2 := aK h2 x2 hb; have e3 := aK h3 rfl hb; have e4 := aK h4 x4 hb; rw [dO]; obtain ⟨N, T, Lb, hN, hT, hL⟩ := lens3 Y; rw [hN] at hb
     conv => lhs; rw [← ak (Y.af false b (pc ts l d))]
     simp only [pc, pcf, aJ, Tok.c, bj, aa, if_true, if_false, ab, bX, dY, eJ, dR, cq, eY, fo, p0, p1, p2, p3, pk, kt] at e67 f0 f1 f2 f3 f4 e151 e1 e2 e3 e4 ⊢
     generalize ax ts = es at *
     simp (maxDischargeDepth := 8) [S82, hN, hT, hL, hb, e67, f0, f1, f2, f3, f4, e151, e1, e2, e3, e4, p0, p1, p2, p3, pk, kt, k1, k1']
theorem BE {d : Nat} {l : List Tok} {x : PR S} (hd12 : d ≤ 12) (h : Sfx ts l) (k1 : (hd l).kind ≠ 1) (p0 : isT l [108, 111, 111, 112] = false) (p1 : isT l [105, 102] = false) (p2 : isT l [97, 116, 111, 109, 105, 99] = false) (p3 : isT l [108, 101, 116] = false) (p4 : isT l [118, 97, 114] = false) (pk : isT l [115, 101, 116] = true) (hx : (pb (nX n d l.tail) fun x l1 => pb (some (cF [61] l1)) fun _ l2 => pb (cN n 0 d l2) fun e l3 => fI (mkS (hd l) 4 (bs []) rt0 x e 0 [] [] []) l3) = some x) : Rd 82 [] ts d d l dR x := by
 have e67 := fun b (Y : St) hb => ay (dH h d 0 0 0 (b := b)) (s := Y) hb
 have g0 := fun b (Y : St) hb => ay (aB hr h d [108, 111, 111, 112] (b := b)) (s := Y) hb
 have g1 := fun b (Y : St) hb => ay (aB hr h d [105, 102] (b := b)) (s := Y) hb
 have g2 := fun b (Y : St) hb => ay (aB hr h d [97, 116, 111, 109, 105, 99] (b := b)) (s := Y) hb
 have g3 := fun b (Y : St) hb => ay (jy h d 0 0 0 [108, 101, 116] (b := b)) (s := Y) hb
 have g4 := fun b (Y : St) hb => ay (jy h d 0 0 0 [118, 97, 114] (b := b)) (s := Y) hb
 have g5 := fun b (Y : St) hb => ay (aB hr h d [115, 101, 116] (b := b)) (s := Y) hb
 have k1' : ¬ (((hd l).kind : Int) = 1) := by omega
 have s0 := h.isT hr pk; obtain ⟨y1, hy1⟩ := dw hx; rw [hy1] at hx; have h1 := sQ hr ihe hd12 s0 hy1
 cases y1 with
 | bad e q =>
  obtain rfl := bJ hx rfl; obtain ⟨a', d'', eb⟩ := bn h1 rfl; refine ⟨a', d'', fun b Y hb => ?_⟩; have eb := eb hb; have e67 := e67 b Y hb; have f0 := g0 b Y hb; have f1 := g1 b Y hb; have f2 := g2 b Y hb; have f3 := g3 b Y hb; have f4 := g4 b Y hb; have f5 := g5 b Y hb; rw [dO]; obtain ⟨N, T, Lb, hN, hT, hL⟩ := lens3 Y; rw [hN] at hb
  conv => lhs; rw [← ak (Y.af false b (pc ts l d))]
  simp only [pc, pcf, aJ, Tok.c, bj, aa, if_true, if_false, ab, bX, dY, eJ, dR, cq, eY, fo, p0, p1, p2, p3, p4, pk] at e67 f0 f1 f2 f3 f4 f5 eb ⊢
  generalize ax ts = es at *
  simp (maxDischargeDepth := 8) [S82, hN, hT, hL, hb, e67, f0, f1, f2, f3, f4, f5, eb, p0, p1, p2, p3, p4, pk, k1, k1']
 | ok pl1 l1 =>
  have hx := cx hx rfl
  try dsimp only at hx
  have s1 := br h1 rfl; have h2 := eI hr s1 d [61]
  cases x2 : cF [61] l1 with
  | bad e q =>
   obtain rfl := bJ hx x2; obtain ⟨a', d'', eb⟩ := bn h2 x2; refine ⟨a', d'', fun b Y hb => ?_⟩; have eb := eb hb; have e67 := e67 b Y hb; have f0 := g0 b Y hb; have f1 := g1 b Y hb; have f2 := g2 b Y hb; have f3 := g3 b Y hb; have f4 := g4 b Y hb; have f5 := g5 b Y hb; have e1 := aK h1 rfl hb; rw [dO]; obtain ⟨N, T, Lb, hN, hT, hL⟩ := lens3 Y; rw [hN] at hb
   conv => lhs; rw [← ak (Y.af false b (pc ts l d))]
   simp only [pc, pcf, aJ, Tok.c, bj, aa, if_true, if_false, ab, bX, dY, eJ, dR, cq, eY, fo, p0, p1, p2, p3, p4, pk] at e67 f0 f1 f2 f3 f4 f5 e1 eb ⊢
   generalize ax ts = es at *
   simp (maxDischargeDepth := 8) [S82, hN, hT, hL, hb, e67, f0, f1, f2, f3, f4, f5, e1, eb, p0, p1, p2, p3, p4, pk, k1, k1']
  | ok u2 l2 =>
   have hx := cx hx x2
   try dsimp only at hx
   have s2 := br h2 x2; obtain ⟨y3, hy3⟩ := dw hx; rw [hy3] at hx; have h3 := kv hr ihe hd12 s2 hy3
   cases y3 with
   | bad e q =>
    obtain rfl := bJ hx rfl; obtain ⟨a', d'', eb⟩ := bn h3 rfl; refine ⟨a', d'', fun b Y hb => ?_⟩; have eb := eb hb; have e67 := e67 b Y hb; have f0 := g0 b Y hb; have f1 := g1 b Y hb; have f2 := g2 b Y hb; have f3 := g3 b Y hb; have f4 := g4 b Y hb; have f5 := g5 b Y hb; have e1 := aK h1 rfl hb; have e2 := aK h2 x2 hb; rw [dO]; obtain ⟨N, T, Lb, hN, hT, hL⟩ := lens3 Y; rw [hN] at hb
    conv => lhs; rw [← ak (Y.af false b (pc ts l d))]
    simp only [pc, pcf, aJ, Tok.c, bj, aa, if_true, if_false, ab, bX, dY, eJ, dR, cq, eY, fo, p0, p1, p2, p3, p4, pk] at e67 f0 f1 f2 f3 f4 f5 e1 e2 eb ⊢
    generalize ax ts = es at *
    simp (maxDischargeDepth := 8) [S82, hN, hT, hL, hb, e67, f0, f1, f2, f3, f4, f5, e1, e2, eb, p0, p1, p2, p3, p4, pk, k1, k1']
   | ok x3 l3 =>
    have hx := cx hx rfl
    try dsimp only at hx
    have s3 := br h3 rfl; unfold fI at hx; have h4 := eI hr s3 d [59]
    cases x4 : cF [59] l3 with
    | bad e q =>
     obtain rfl := bJ hx x4; obtain ⟨a', d'', eb⟩ := bn h4 x4; refine ⟨a', d'', fun b Y hb => ?_⟩; have eb := eb hb; have e67 := e67 b Y hb; have f0 := g0 b Y hb; have f1 := g1 b Y hb; have f2 := g2 b Y hb; have f3 := g3 b Y hb; have f4 := g4 b Y hb; have f5 := g5 b Y hb; have e1 := aK h1 rfl hb; have e2 := aK h2 x2 hb; have e3 := aK h3 rfl hb; rw [dO]; obtain ⟨N, T, Lb, hN, hT, hL⟩ := lens3 Y; rw [hN] at hb
     conv => lhs; rw [← ak (Y.af false b (pc ts l d))]
     simp only [pc, pcf, aJ, Tok.c, bj, aa, if_true, if_false, ab, bX, dY, eJ, dR, cq, eY, fo, p0, p1, p2, p3, p4, pk] at e67 f0 f1 f2 f3 f4 f5 e1 e2 e3 eb ⊢
     generalize ax ts = es at *
     simp (maxDischargeDepth := 8) [S82, hN, hT, hL, hb, e67, f0, f1, f2, f3, f4, f5, e1, e2, e3, eb, p0, p1, p2, p3, p4, pk, k1, k1']
    | ok u4 l4 =>
     have hx := cx hx x4
     try dsimp only at hx
     have s4 := br h4 x4; obtain rfl := Option.some.inj hx; refine ⟨s4, fun b Y hb => ?_⟩; have e67 := e67 b Y hb; have f0 := g0 b Y hb; have f1 := g1 b Y hb; have f2 := g2 b Y hb; have f3 := g3 b Y hb; have f4 := g4 b Y hb; have f5 := g5 b Y hb; have e1 := aK h1 rfl hb; have e2 := aK h2 x2 hb; have e3 := aK h3 rfl hb; have e4 := aK h4 x4 hb; rw [dO]; obtain ⟨N, T, Lb, hN, hT, hL⟩ := lens3 Y; rw [hN] at hb
     conv => lhs; rw [← ak (Y.af false b (pc ts l d))]
     simp only [pc, pcf, aJ, Tok.c, bj, aa, if_true, if_false, ab, bX, dY, eJ, dR, cq, eY, fo, p0, p1, p2, p3, p4, pk] at e67 f0 f1 f2 f3 f4 f5 e1 e2 e3 e4 ⊢
     generalize ax ts = es at *
     simp (maxDischargeDepth := 8) [S82, hN, hT, hL, hb, e67, f0, f1, f2, f3, f4, f5, e1, e2, e3, e4, p0, p1, p2, p3, p4, pk, k1, k1']
theorem wT {d : Nat} {l : List Tok} {x : PR S} (hd12 : d ≤ 12) (h : Sfx ts l) (k1 : (hd l).kind ≠ 1) (p0 : isT l [108, 111, 111, 112] = false) (p1 : isT l [105, 102] = false) (p2 : isT l [97, 116, 111, 109, 105, 99] = false) (p3 : isT l [108, 101, 116] = false) (p4 : isT l [118, 97, 114] = false) (p5 : isT l [115, 101, 116] = false) (pk : isT l [112, 114, 105, 110, 116] = true) (hx : (pb (cN n 0 d l.tail) fun e l1 => fI (mkS (hd l) 5 (bs []) rt0 pl0 e 0 [] [] []) l1) = some x) : Rd 82 [] ts d d l dR x := by
 have e67 := fun b (Y : St) hb => ay (dH h d 0 0 0 (b := b)) (s := Y) hb
 have g0 := fun b (Y : St) hb => ay (aB hr h d [108, 111, 111, 112] (b := b)) (s := Y) hb
 have g1 := fun b (Y : St) hb => ay (aB hr h d [105, 102] (b := b)) (s := Y) hb
 have g2 := fun b (Y : St) hb => ay (aB hr h d [97, 116, 111, 109, 105, 99] (b := b)) (s := Y) hb
 have g3 := fun b (Y : St) hb => ay (jy h d 0 0 0 [108, 101, 116] (b := b)) (s := Y) hb
 have g4 := fun b (Y : St) hb => ay (jy h d 0 0 0 [118, 97, 114] (b := b)) (s := Y) hb
 have g5 := fun b (Y : St) hb => ay (aB hr h d [115, 101, 116] (b := b)) (s := Y) hb
 have g6 := fun b (Y : St) hb => ay (aB hr h d [112, 114, 105, 110, 116] (b := b)) (s := Y) hb
 have k1' : ¬ (((hd l).kind : Int) = 1) := by omega
 have s0 := h.isT hr pk; obtain ⟨y1, hy1⟩ := dw hx; rw [hy1] at hx; have h1 := kv hr ihe hd12 s0 hy1
 cases y1 with
 | bad e q =>
  obtain rfl := bJ hx rfl; obtain ⟨a', d'', eb⟩ := bn h1 rfl; refine ⟨a', d'', fun b Y hb => ?_⟩; have eb := eb hb; have e67 := e67 b Y hb; have f0 := g0 b Y hb; have f1 := g1 b Y hb; have f2 := g2 b Y hb; have f3 := g3 b Y hb; have f4 := g4 b Y hb; have f5 := g5 b Y hb; have f6 := g6 b Y hb; rw [dO]; obtain ⟨N, T, Lb, hN, hT, hL⟩ := lens3 Y; rw [hN] at hb
  conv => lhs; rw [← ak (Y.af false b (pc ts l d))]
  simp only [pc, pcf, aJ, Tok.c, bj, aa, if_true, if_false, ab, bX, dY, eJ, dR, cq, eY, fo, p0, p1, p2, p3, p4, p5, pk] at e67 f0 f1 f2 f3 f4 f5 f6 eb ⊢
  generalize ax ts = es at *
  simp (maxDischargeDepth := 8) [S82, hN, hT, hL, hb, e67, f0, f1, f2, f3, f4, f5, f6, eb, p0, p1, p2, p3, p4, p5, pk, k1, k1']
 | ok x1 l1 =>
  have hx := cx hx rfl
  try dsimp only at hx
  have s1 := br h1 rfl; unfold fI at hx; have h2 := eI hr s1 d [59]
  cases x2 : cF [59] l1 with
  | bad e q =>
   obtain rfl := bJ hx x2; obtain ⟨a', d'', eb⟩ := bn h2 x2; refine ⟨a', d'', fun b Y hb => ?_⟩; have eb := eb hb; have e67 := e67 b Y hb; have f0 := g0 b Y hb; have f1 := g1 b Y hb; have f2 := g2 b Y hb; have f3 := g3 b Y hb; have f4 := g4 b Y hb; have f5 := g5 b Y hb; have f6 := g6 b Y hb; have e1 := aK h1 rfl hb; rw [dO]; obtain ⟨N, T, Lb, hN, hT, hL⟩ := lens3 Y; rw [hN] at hb
   conv => lhs; rw [← ak (Y.af false b (pc ts l d))]
   simp only [pc, pcf, aJ, Tok.c, bj, aa, if_true, if_false, ab, bX, dY, eJ, dR, cq, eY, fo, p0, p1, p2, p3, p4, p5, pk] at e67 f0 f1 f2 f3 f4 f5 f6 e1 eb ⊢
   generalize ax ts = es at *
   simp (maxDischargeDepth := 8) [S82, hN, hT, hL, hb, e67, f0, f1, f2, f3, f4, f5, f6, e1, eb, p0, p1, p2, p3, p4, p5, pk, k1, k1']
  | ok u2 l2 =>
   have hx := cx hx x2
   try dsimp only at hx
   have s2 := br h2 x2; obtain rfl := Option.some.inj hx; refine ⟨s2, fun b Y hb => ?_⟩; have e67 := e67 b Y hb; have f0 := g0 b Y hb; have f1 := g1 b Y hb; have f2 := g2 b Y hb; have f3 := g3 b Y hb; have f4 := g4 b Y hb; have f5 := g5 b Y hb; have f6 := g6 b Y hb; have e1 := aK h1 rfl hb; have e2 := aK h2 x2 hb; rw [dO]; obtain ⟨N, T, Lb, hN, hT, hL⟩ := lens3 Y; rw [hN] at hb
   conv => lhs; rw [← ak (Y.af false b (pc ts l d))]
   simp only [pc, pcf, aJ, Tok.c, bj, aa, if_true, if_false, ab, bX, dY, eJ, dR, cq, eY, fo, p0, p1, p2, p3, p4, p5, pk] at e67 f0 f1 f2 f3 f4 f5 f6 e1 e2 ⊢
   generalize ax ts = es at *
   simp (maxDischargeDepth := 8) [S82, hN, hT, hL, hb, e67, f0, f1, f2, f3, f4, f5, f6, e1, e2, p0, p1, p2, p3, p4, p5, pk, k1, k1']
theorem wS {d : Nat} {l : List Tok} {x : PR S} (hd12 : d ≤ 12) (h : Sfx ts l) (k1 : (hd l).kind ≠ 1) (p0 : isT l [108, 111, 111, 112] = false) (p1 : isT l [105, 102] = false) (p2 : isT l [97, 116, 111, 109, 105, 99] = false) (p3 : isT l [108, 101, 116] = false) (p4 : isT l [118, 97, 114] = false) (p5 : isT l [115, 101, 116] = false) (p6 : isT l [112, 114, 105, 110, 116] = false) (pk : isT l [98, 114, 101, 97, 107] = true) (hx : fI (mkS (hd l) 8 (gz l.tail).1 rt0 pl0 x0 0 [] [] []) (gz l.tail).2 = some x) : Rd 82 [] ts d d l dR x := by
 have e67 := fun b (Y : St) hb => ay (dH h d 0 0 0 (b := b)) (s := Y) hb
 have g0 := fun b (Y : St) hb => ay (aB hr h d [108, 111, 111, 112] (b := b)) (s := Y) hb
 have g1 := fun b (Y : St) hb => ay (aB hr h d [105, 102] (b := b)) (s := Y) hb
 have g2 := fun b (Y : St) hb => ay (aB hr h d [97, 116, 111, 109, 105, 99] (b := b)) (s := Y) hb
 have g3 := fun b (Y : St) hb => ay (jy h d 0 0 0 [108, 101, 116] (b := b)) (s := Y) hb
 have g4 := fun b (Y : St) hb => ay (jy h d 0 0 0 [118, 97, 114] (b := b)) (s := Y) hb
 have g5 := fun b (Y : St) hb => ay (aB hr h d [115, 101, 116] (b := b)) (s := Y) hb
 have g6 := fun b (Y : St) hb => ay (aB hr h d [112, 114, 105, 110, 116] (b := b)) (s := Y) hb
 have g7 := fun b (Y : St) hb => ay (aB hr h d [98, 114, 101, 97, 107] (b := b)) (s := Y) hb
 have k1' : ¬ (((hd l).kind : Int) = 1) := by omega
 have s0 := h.isT hr pk; have s1 := s0.label hr
 have e158 := fun b (Y : St) hb => ay (uP hr s0 d b) (s := Y) hb
 unfold fI at hx; have h1 := eI hr s1 d [59]
 cases x1 : cF [59] (gz l.tail).2 with
 | bad e q =>
  obtain rfl := bJ hx x1; obtain ⟨a', d'', eb⟩ := bn h1 x1; refine ⟨a', d'', fun b Y hb => ?_⟩; have eb := eb hb; have e67 := e67 b Y hb; have f0 := g0 b Y hb; have f1 := g1 b Y hb; have f2 := g2 b Y hb; have f3 := g3 b Y hb; have f4 := g4 b Y hb; have f5 := g5 b Y hb; have f6 := g6 b Y hb; have f7 := g7 b Y hb; have e158 := e158 b Y hb; rw [dO]; obtain ⟨N, T, Lb, hN, hT, hL⟩ := lens3 Y; rw [hN] at hb
  conv => lhs; rw [← ak (Y.af false b (pc ts l d))]
  simp only [pc, pcf, aJ, Tok.c, bj, aa, if_true, if_false, ab, bX, dY, eJ, dR, cq, eY, fo, p0, p1, p2, p3, p4, p5, p6, pk] at e67 f0 f1 f2 f3 f4 f5 f6 f7 e158 eb ⊢
  generalize ax ts = es at *
  simp (maxDischargeDepth := 8) [S82, hN, hT, hL, hb, e67, f0, f1, f2, f3, f4, f5, f6, f7, e158, eb, p0, p1, p2, p3, p4, p5, p6, pk, k1, k1']
 | ok u1 l1 =>
  have hx := cx hx x1
  try dsimp only at hx
  have s1 := br h1 x1; obtain rfl := Option.some.inj hx; refine ⟨s1, fun b Y hb => ?_⟩; have e67 := e67 b Y hb; have f0 := g0 b Y hb; have f1 := g1 b Y hb; have f2 := g2 b Y hb; have f3 := g3 b Y hb; have f4 := g4 b Y hb; have f5 := g5 b Y hb; have f6 := g6 b Y hb; have f7 := g7 b Y hb; have e158 := e158 b Y hb; have e1 := aK h1 x1 hb; rw [dO]; obtain ⟨N, T, Lb, hN, hT, hL⟩ := lens3 Y; rw [hN] at hb
  conv => lhs; rw [← ak (Y.af false b (pc ts l d))]
  simp only [pc, pcf, aJ, Tok.c, bj, aa, if_true, if_false, ab, bX, dY, eJ, dR, cq, eY, fo, p0, p1, p2, p3, p4, p5, p6, pk] at e67 f0 f1 f2 f3 f4 f5 f6 f7 e158 e1 ⊢
  generalize ax ts = es at *
  simp (maxDischargeDepth := 8) [S82, hN, hT, hL, hb, e67, f0, f1, f2, f3, f4, f5, f6, f7, e158, e1, p0, p1, p2, p3, p4, p5, p6, pk, k1, k1']
theorem sj {d : Nat} {l : List Tok} {x : PR S} (hd12 : d ≤ 12) (h : Sfx ts l) (k1 : (hd l).kind ≠ 1) (p0 : isT l [108, 111, 111, 112] = false) (p1 : isT l [105, 102] = false) (p2 : isT l [97, 116, 111, 109, 105, 99] = false) (p3 : isT l [108, 101, 116] = false) (p4 : isT l [118, 97, 114] = false) (p5 : isT l [115, 101, 116] = false) (p6 : isT l [112, 114, 105, 110, 116] = false) (p7 : isT l [98, 114, 101, 97, 107] = false) (pk : isT l [99, 111, 110, 116, 105, 110, 117, 101] = true) (hx : fI (mkS (hd l) 9 (gz l.tail).1 rt0 pl0 x0 0 [] [] []) (gz l.tail).2 = some x) : Rd 82 [] ts d d l dR x := by
 have e67 := fun b (Y : St) hb => ay (dH h d 0 0 0 (b := b)) (s := Y) hb
 have g0 := fun b (Y : St) hb => ay (aB hr h d [108, 111, 111, 112] (b := b)) (s := Y) hb
 have g1 := fun b (Y : St) hb => ay (aB hr h d [105, 102] (b := b)) (s := Y) hb
 have g2 := fun b (Y : St) hb => ay (aB hr h d [97, 116, 111, 109, 105, 99] (b := b)) (s := Y) hb
 have g3 := fun b (Y : St) hb => ay (jy h d 0 0 0 [108, 101, 116] (b := b)) (s := Y) hb
 have g4 := fun b (Y : St) hb => ay (jy h d 0 0 0 [118, 97, 114] (b := b)) (s := Y) hb
 have g5 := fun b (Y : St) hb => ay (aB hr h d [115, 101, 116] (b := b)) (s := Y) hb
 have g6 := fun b (Y : St) hb => ay (aB hr h d [112, 114, 105, 110, 116] (b := b)) (s := Y) hb
 have g7 := fun b (Y : St) hb => ay (aB hr h d [98, 114, 101, 97, 107] (b := b)) (s := Y) hb
 have g8 := fun b (Y : St) hb => ay (aB hr h d [99, 111, 110, 116, 105, 110, 117, 101] (b := b)) (s := Y) hb
 have k1' : ¬ (((hd l).kind : Int) = 1) := by omega
 have s0 := h.isT hr pk; have s1 := s0.label hr
 have e158 := fun b (Y : St) hb => ay (uP hr s0 d b) (s := Y) hb
 unfold fI at hx; have h1 := eI hr s1 d [59]
 cases x1 : cF [59] (gz l.tail).2 with
 | bad e q =>
  obtain rfl := bJ hx x1; obtain ⟨a', d'', eb⟩ := bn h1 x1; refine ⟨a', d'', fun b Y hb => ?_⟩; have eb := eb hb; have e67 := e67 b Y hb; have f0 := g0 b Y hb; have f1 := g1 b Y hb; have f2 := g2 b Y hb; have f3 := g3 b Y hb; have f4 := g4 b Y hb; have f5 := g5 b Y hb; have f6 := g6 b Y hb; have f7 := g7 b Y hb; have f8 := g8 b Y hb; have e158 := e158 b Y hb; rw [dO]; obtain ⟨N, T, Lb, hN, hT, hL⟩ := lens3 Y; rw [hN] at hb
  conv => lhs; rw [← ak (Y.af false b (pc ts l d))]
  simp only [pc, pcf, aJ, Tok.c, bj, aa, if_true, if_false, ab, bX, dY, eJ, dR, cq, eY, fo, p0, p1, p2, p3, p4, p5, p6, p7, pk] at e67 f0 f1 f2 f3 f4 f5 f6 f7 f8 e158 eb ⊢
  generalize ax ts = es at *
  simp (maxDischargeDepth := 8) [S82, hN, hT, hL, hb, e67, f0, f1, f2, f3, f4, f5, f6, f7, f8, e158, eb, p0, p1, p2, p3, p4, p5, p6, p7, pk, k1, k1']
 | ok u1 l1 =>
  have hx := cx hx x1
  try dsimp only at hx
  have s1 := br h1 x1; obtain rfl := Option.some.inj hx; refine ⟨s1, fun b Y hb => ?_⟩; have e67 := e67 b Y hb; have f0 := g0 b Y hb; have f1 := g1 b Y hb; have f2 := g2 b Y hb; have f3 := g3 b Y hb; have f4 := g4 b Y hb; have f5 := g5 b Y hb; have f6 := g6 b Y hb; have f7 := g7 b Y hb; have f8 := g8 b Y hb; have e158 := e158 b Y hb; have e1 := aK h1 x1 hb; rw [dO]; obtain ⟨N, T, Lb, hN, hT, hL⟩ := lens3 Y; rw [hN] at hb
  conv => lhs; rw [← ak (Y.af false b (pc ts l d))]
  simp only [pc, pcf, aJ, Tok.c, bj, aa, if_true, if_false, ab, bX, dY, eJ, dR, cq, eY, fo, p0, p1, p2, p3, p4, p5, p6, p7, pk] at e67 f0 f1 f2 f3 f4 f5 f6 f7 f8 e158 e1 ⊢
  generalize ax ts = es at *
  simp (maxDischargeDepth := 8) [S82, hN, hT, hL, hb, e67, f0, f1, f2, f3, f4, f5, f6, f7, f8, e158, e1, p0, p1, p2, p3, p4, p5, p6, p7, pk, k1, k1']
theorem zC {d : Nat} {l : List Tok} {x : PR S} (hd12 : d ≤ 12) (h : Sfx ts l) (k1 : (hd l).kind ≠ 1) (p0 : isT l [108, 111, 111, 112] = false) (p1 : isT l [105, 102] = false) (p2 : isT l [97, 116, 111, 109, 105, 99] = false) (p3 : isT l [108, 101, 116] = false) (p4 : isT l [118, 97, 114] = false) (p5 : isT l [115, 101, 116] = false) (p6 : isT l [112, 114, 105, 110, 116] = false) (p7 : isT l [98, 114, 101, 97, 107] = false) (p8 : isT l [99, 111, 110, 116, 105, 110, 117, 101] = false) (pk : isT l [99, 97, 108, 108] = true) (hx : (pb (some (eM 1 l.tail)) fun u l1 => pb (sn n d l1) fun xs l2 => fI (mkS (hd l) 11 (bs u.text) rt0 pl0 x0 0 xs [] []) l2) = some x) : Rd 82 [] ts d d l dR x := by
 have e67 := fun b (Y : St) hb => ay (dH h d 0 0 0 (b := b)) (s := Y) hb
 have g0 := fun b (Y : St) hb => ay (aB hr h d [108, 111, 111, 112] (b := b)) (s := Y) hb
 have g1 := fun b (Y : St) hb => ay (aB hr h d [105, 102] (b := b)) (s := Y) hb
 have g2 := fun b (Y : St) hb => ay (aB hr h d [97, 116, 111, 109, 105, 99] (b := b)) (s := Y) hb
 have g3 := fun b (Y : St) hb => ay (jy h d 0 0 0 [108, 101, 116] (b := b)) (s := Y) hb
 have g4 := fun b (Y : St) hb => ay (jy h d 0 0 0 [118, 97, 114] (b := b)) (s := Y) hb
 have g5 := fun b (Y : St) hb => ay (aB hr h d [115, 101, 116] (b := b)) (s := Y) hb
 have g6 := fun b (Y : St) hb => ay (aB hr h d [112, 114, 105, 110, 116] (b := b)) (s := Y) hb
 have g7 := fun b (Y : St) hb => ay (aB hr h d [98, 114, 101, 97, 107] (b := b)) (s := Y) hb
 have g8 := fun b (Y : St) hb => ay (aB hr h d [99, 111, 110, 116, 105, 110, 117, 101] (b := b)) (s := Y) hb
 have g9 := fun b (Y : St) hb => ay (aB hr h d [99, 97, 108, 108] (b := b)) (s := Y) hb
 have k1' : ¬ (((hd l).kind : Int) = 1) := by omega
 have s0 := h.isT hr pk; have h1 := gK hr s0 d 1
 cases x1 : eM 1 l.tail with
 | bad e q =>
  obtain rfl := bJ hx x1; obtain ⟨a', d'', eb⟩ := bn h1 x1; refine ⟨a', d'', fun b Y hb => ?_⟩; have eb := eb hb; have e67 := e67 b Y hb; have f0 := g0 b Y hb; have f1 := g1 b Y hb; have f2 := g2 b Y hb; have f3 := g3 b Y hb; have f4 := g4 b Y hb; have f5 := g5 b Y hb; have f6 := g6 b Y hb; have f7 := g7 b Y hb; have f8 := g8 b Y hb; have f9 := g9 b Y hb; rw [dO]; obtain ⟨N, T, Lb, hN, hT, hL⟩ := lens3 Y; rw [hN] at hb
  conv => lhs; rw [← ak (Y.af false b (pc ts l d))]
  simp only [pc, pcf, aJ, Tok.c, bj, aa, if_true, if_false, ab, bX, dY, eJ, dR, cq, eY, fo, p0, p1, p2, p3, p4, p5, p6, p7, p8, pk] at e67 f0 f1 f2 f3 f4 f5 f6 f7 f8 f9 eb ⊢
  generalize ax ts = es at *
  simp (maxDischargeDepth := 8) [S82, hN, hT, hL, hb, e67, f0, f1, f2, f3, f4, f5, f6, f7, f8, f9, eb, p0, p1, p2, p3, p4, p5, p6, p7, p8, pk, k1, k1']
 | ok u1 l1 =>
  have hx := cx hx x1
  try dsimp only at hx
  have s1 := br h1 x1; obtain ⟨y2, hy2⟩ := dw hx; rw [hy2] at hx; have h2 := Cl hr ihe hd12 hn s1 hy2
  cases y2 with
  | bad e q =>
   obtain rfl := bJ hx rfl; obtain ⟨a', d'', eb⟩ := bn h2 rfl; refine ⟨a', d'', fun b Y hb => ?_⟩; have eb := eb hb; have e67 := e67 b Y hb; have f0 := g0 b Y hb; have f1 := g1 b Y hb; have f2 := g2 b Y hb; have f3 := g3 b Y hb; have f4 := g4 b Y hb; have f5 := g5 b Y hb; have f6 := g6 b Y hb; have f7 := g7 b Y hb; have f8 := g8 b Y hb; have f9 := g9 b Y hb; have e1 := aK h1 x1 hb; rw [dO]; obtain ⟨N, T, Lb, hN, hT, hL⟩ := lens3 Y; rw [hN] at hb
   conv => lhs; rw [← ak (Y.af false b (pc ts l d))]
   simp only [pc, pcf, aJ, Tok.c, bj, aa, if_true, if_false, ab, bX, dY, eJ, dR, cq, eY, fo, p0, p1, p2, p3, p4, p5, p6, p7, p8, pk] at e67 f0 f1 f2 f3 f4 f5 f6 f7 f8 f9 e1 eb ⊢
   generalize ax ts = es at *
   simp (maxDischargeDepth := 8) [S82, hN, hT, hL, hb, e67, f0, f1, f2, f3, f4, f5, f6, f7, f8, f9, e1, eb, p0, p1, p2, p3, p4, p5, p6, p7, p8, pk, k1, k1']
  | ok xs2 l2 =>
   have hx := cx hx rfl
   try dsimp only at hx
   have s2 := br h2 rfl; unfold fI at hx; have h3 := eI hr s2 d [59]
   cases x3 : cF [59] l2 with
   | bad e q =>
    obtain rfl := bJ hx x3; obtain ⟨a', d'', eb⟩ := bn h3 x3; refine ⟨a', d'', fun b Y hb => ?_⟩; have eb := eb hb; have e67 := e67 b Y hb; have f0 := g0 b Y hb; have f1 := g1 b Y hb; have f2 := g2 b Y hb; have f3 := g3 b Y hb; have f4 := g4 b Y hb; have f5 := g5 b Y hb; have f6 := g6 b Y hb; have f7 := g7 b Y hb; have f8 := g8 b Y hb; have f9 := g9 b Y hb; have e1 := aK h1 x1 hb; have e2 := aK h2 rfl hb; rw [dO]; obtain ⟨N, T, Lb, hN, hT, hL⟩ := lens3 Y; rw [hN] at hb
    conv => lhs; rw [← ak (Y.af false b (pc ts l d))]
    simp only [pc, pcf, aJ, Tok.c, bj, aa, if_true, if_false, ab, bX, dY, eJ, dR, cq, eY, fo, p0, p1, p2, p3, p4, p5, p6, p7, p8, pk] at e67 f0 f1 f2 f3 f4 f5 f6 f7 f8 f9 e1 e2 eb ⊢
    generalize ax ts = es at *
    simp (maxDischargeDepth := 8) [S82, hN, hT, hL, hb, e67, f0, f1, f2, f3, f4, f5, f6, f7, f8, f9, e1, e2, eb, p0, p1, p2, p3, p4, p5, p6, p7, p8, pk, k1, k1']
   | ok u3 l3 =>
    have hx := cx hx x3
    try dsimp only at hx
    have s3 := br h3 x3; obtain rfl := Option.some.inj hx; refine ⟨s3, fun b Y hb => ?_⟩; have e67 := e67 b Y hb; have f0 := g0 b Y hb; have f1 := g1 b Y hb; have f2 := g2 b Y hb; have f3 := g3 b Y hb; have f4 := g4 b Y hb; have f5 := g5 b Y hb; have f6 := g6 b Y hb; have f7 := g7 b Y hb; have f8 := g8 b Y hb; have f9 := g9 b Y hb; have e1 := aK h1 x1 hb; have e2 := aK h2 rfl hb; have e3 := aK h3 x3 hb; rw [dO]; obtain ⟨N, T, Lb, hN, hT, hL⟩ := lens3 Y; rw [hN] at hb
    conv => lhs; rw [← ak (Y.af false b (pc ts l d))]
    simp only [pc, pcf, aJ, Tok.c, bj, aa, if_true, if_false, ab, bX, dY, eJ, dR, cq, eY, fo, p0, p1, p2, p3, p4, p5, p6, p7, p8, pk] at e67 f0 f1 f2 f3 f4 f5 f6 f7 f8 f9 e1 e2 e3 ⊢
    generalize ax ts = es at *
    simp (maxDischargeDepth := 8) [S82, hN, hT, hL, hb, e67, f0, f1, f2, f3, f4, f5, f6, f7, f8, f9, e1, e2, e3, p0, p1, p2, p3, p4, p5, p6, p7, p8, pk, k1, k1']
theorem zF {d : Nat} {l : List Tok} {x : PR S} (hd12 : d ≤ 12) (h : Sfx ts l) (k1 : (hd l).kind ≠ 1) (p0 : isT l [108, 111, 111, 112] = false) (p1 : isT l [105, 102] = false) (p2 : isT l [97, 116, 111, 109, 105, 99] = false) (p3 : isT l [108, 101, 116] = false) (p4 : isT l [118, 97, 114] = false) (p5 : isT l [115, 101, 116] = false) (p6 : isT l [112, 114, 105, 110, 116] = false) (p7 : isT l [98, 114, 101, 97, 107] = false) (p8 : isT l [99, 111, 110, 116, 105, 110, 117, 101] = false) (p9 : isT l [99, 97, 108, 108] = false)  (hx : some (.bad 4 (hd l).p) = some x) : Rd 82 [] ts d d l dR x := by
 have e67 := fun b (Y : St) hb => ay (dH h d 0 0 0 (b := b)) (s := Y) hb
 have k1' : ¬ (((hd l).kind : Int) = 1) := by omega
 obtain rfl := Option.some.inj hx; refine ⟨pcA ts l, d, fun b Y hb => ?_⟩; have e74 := ay (nb (ax ts) (pcA ts l) d 4 (hd l) (b := b)) hb; have e67 := e67 b Y hb; have f0 := ay (aB hr h d [108, 111, 111, 112] (b := b)) (s := Y) hb; have f1 := ay (aB hr h d [105, 102] (b := b)) (s := Y) hb; have f2 := ay (aB hr h d [97, 116, 111, 109, 105, 99] (b := b)) (s := Y) hb; have f3 := ay (jy h d 0 0 0 [108, 101, 116] (b := b)) (s := Y) hb; have f4 := ay (jy h d 0 0 0 [118, 97, 114] (b := b)) (s := Y) hb; have f5 := ay (aB hr h d [115, 101, 116] (b := b)) (s := Y) hb; have f6 := ay (aB hr h d [112, 114, 105, 110, 116] (b := b)) (s := Y) hb; have f7 := ay (aB hr h d [98, 114, 101, 97, 107] (b := b)) (s := Y) hb; have f8 := ay (aB hr h d [99, 111, 110, 116, 105, 110, 117, 101] (b := b)) (s := Y) hb; have f9 := ay (aB hr h d [99, 97, 108, 108] (b := b)) (s := Y) hb; have e74 := e74; rw [dO]; obtain ⟨N, T, Lb, hN, hT, hL⟩ := lens3 Y; rw [hN] at hb
 conv => lhs; rw [← ak (Y.af false b (pc ts l d))]
 simp only [pc, pcf, aJ, Tok.c, bj, aa, if_true, if_false, ab, bX, dY, eJ, dR, cq, eY, p0, p1, p2, p3, p4, p5, p6, p7, p8, p9] at e67 f0 f1 f2 f3 f4 f5 f6 f7 f8 f9 e74 ⊢
 generalize ax ts = es at *
 simp (maxDischargeDepth := 8) [S82, hN, hT, hL, hb, e67, f0, f1, f2, f3, f4, f5, f6, f7, f8, f9, e74, p0, p1, p2, p3, p4, p5, p6, p7, p8, p9, k1, k1']
end
end Go.Proofs.YtlhlijaondmccaaDoor.S
namespace Go.Proofs.YtlhlijaondmccaaDoor.S
open Go Go.AM Go.Proofs
theorem Da {ts : List Tok} (hr : Row ts) {n : Nat} (hn : n ≤ 1000000) (ihe : mb ts n) (ih : qO ts n) : ∀ d l x, d ≤ 12 → Sfx ts l → lY (n + 1) d l = some x → Rd 82 [] ts d d l dR x := by
 intro d l x hd12 h hx; simp only [lY] at hx
 by_cases k1 : (hd l).kind = 1
 · rw [if_pos k1] at hx
   exact zE hr hn ihe ih hd12 h k1 hx
 rw [if_neg k1] at hx
 cases p0 : isT l [108, 111, 111, 112] with
 | true => rw [if_pos p0] at hx; exact zD hr hn ihe ih hd12 h k1 p0 hx
 | false =>
 rw [if_neg (by rw [p0]; decide)] at hx
 cases p1 : isT l [105, 102] with
 | true => rw [if_pos p1] at hx; exact C9 hr hn ihe ih hd12 h k1 p0 p1 hx
 | false =>
 rw [if_neg (by rw [p1]; decide)] at hx
 cases p2 : isT l [97, 116, 111, 109, 105, 99] with
 | true => rw [if_pos p2] at hx; exact vA hr hn ihe ih hd12 h k1 p0 p1 p2 hx
 | false =>
 rw [if_neg (by rw [p2]; decide)] at hx
 cases p3 : isT l [108, 101, 116] with
 | true =>
  rw [if_pos (cL p3), if_neg (by rw [oJ p3]; decide)] at hx; exact BD hr hn ihe ih hd12 h k1 p0 p1 p2 p3 hx
 | false =>
 cases p4 : isT l [118, 97, 114] with
 | true =>
  rw [if_pos (cG p4), if_pos (oJ p4)] at hx; exact BF hr hn ihe ih hd12 h k1 p0 p1 p2 p3 p4 hx
 | false =>
 rw [if_neg (by rw [p3, p4]; decide)] at hx
 cases p5 : isT l [115, 101, 116] with
 | true => rw [if_pos p5] at hx; exact BE hr hn ihe ih hd12 h k1 p0 p1 p2 p3 p4 p5 hx
 | false =>
 rw [if_neg (by rw [p5]; decide)] at hx
 cases p6 : isT l [112, 114, 105, 110, 116] with
 | true => rw [if_pos p6] at hx; exact wT hr hn ihe ih hd12 h k1 p0 p1 p2 p3 p4 p5 p6 hx
 | false =>
 rw [if_neg (by rw [p6]; decide)] at hx
 cases p7 : isT l [98, 114, 101, 97, 107] with
 | true => rw [if_pos p7] at hx; exact wS hr hn ihe ih hd12 h k1 p0 p1 p2 p3 p4 p5 p6 p7 hx
 | false =>
 rw [if_neg (by rw [p7]; decide)] at hx
 cases p8 : isT l [99, 111, 110, 116, 105, 110, 117, 101] with
 | true => rw [if_pos p8] at hx; exact sj hr hn ihe ih hd12 h k1 p0 p1 p2 p3 p4 p5 p6 p7 p8 hx
 | false =>
 rw [if_neg (by rw [p8]; decide)] at hx
 cases p9 : isT l [99, 97, 108, 108] with
 | true => rw [if_pos p9] at hx; exact zC hr hn ihe ih hd12 h k1 p0 p1 p2 p3 p4 p5 p6 p7 p8 p9 hx
 | false =>
 rw [if_neg (by rw [p9]; decide)] at hx; exact zF hr hn ihe ih hd12 h k1 p0 p1 p2 p3 p4 p5 p6 p7 p8 p9 hx
theorem BA {ts : List Tok} (hr : Row ts) : ∀ n, n ≤ 1000000 → qO ts n ∧ ∀ d acc l x, d ≤ 12 → acc.length + n ≤ 1000000 → Sfx ts l → kP n d acc l = some x → B5 ts d acc l x
 | 0, _ => by
  refine ⟨⟨?_, ?_, ?_⟩, ?_⟩
  · intro d l x _ _ h; simp [fk] at h
  · intro d t name l x _ _ h; simp [ky] at h
  · intro d l x _ _ h; simp [lY] at h
  · intro d acc l x _ _ _ h; simp [kP] at h
 | n + 1, hn => by
  obtain ⟨i, r⟩ := BA hr n (by omega); obtain ⟨e, _⟩ := xD hr n; exact ⟨⟨Al hr (by omega) r, fun d t name l x h1 h2 h3 => CR hr i d t name l x h1 h2 h3, Da hr (by omega) e i⟩, ED hr i r⟩
abbrev nmC (x : Nm) : List PV := [.v (.string x.name), .v (.int .i64 x.ty.kd), .v (.string x.ty.rc), .v (.int .i64 x.line), .v (.int .i64 x.col)]
def nms (l : List Nm) : List (List PV) := l.map nmC
theorem pI (l : List Nm) : cM 5 (nms l) = true := jf nmC (fun _ => rfl) l
theorem tS (a b : List Nm) : nms (a ++ b) = nms a ++ nms b := List.map_append ..
theorem gA (a : List Nm) : (nms a).length = a.length := List.length_map ..
abbrev jq (r : Rec) : PV := .agg [.v (.string r.name), .sl (nms r.fields) .dead, .v (.int .i64 r.line), .v (.int .i64 r.col)]
attribute [local simp] da cD bT bU cE fc fw ef dj ec dh ed di fv bV gZ dW hI gV gO AM.ae aQ aR bg aP aD AM.onG fP cc eB Ex.bh cond_true cond_false cW cV cU cT cS cY cR cZ cX eg dm dp cC db AM.dt AM.cellsOf AM.an bQ beq_true cM al aF bf bz bS decide_true decide_false bL bB bq bA ba aC az aZ aw dc de ft aA bK bu bR cz dV dZ cK eA ew set_set eD dD fM dE cI bD dC dB cH dA eC eE fG fH bE cm ep fF dP aL aU aE AM.aT ah cQ bO aX aS aO aN AM.part bm aM cf cj cg cd cd.eO AM.dM bC cr dI fE aL laid aH bc cv
attribute [-simp] ag
attribute [local congr] dJ
def DQ (ts : List Tok) (d : Nat) (acc : List Nm) (l : List Tok) (x : PR (List Nm)) : Prop := match x with
 | .ok xs l' => Sfx ts l' ∧ ∀ b (Y : St), b < Y.stk.length → ∀ N T Lb, Y.stk.length = N → Y.tk.length = T → Y.lp.length = Lb → ∀ c tk (B0 B1 : List PV) (nm : ByteArray) (ln cl : Int), gB T tk c acc.length 5 → ∃ c' tk',
  itE (S41.b0 (E L) itE N Lb) [.ptr false b 0, .ptr false N 0, .ptr false (N + 2) 0] ((Y.af false b (pc ts l d)).app [⟨B0, []⟩, ⟨B1, []⟩, ⟨[.v (.string nm), .sl (nms acc) c, .v (.int .i64 ln), .v (.int .i64 cl)], []⟩] tk []) =
   some (.exit 0, [.ptr false b 0, .ptr false N 0, .ptr false (N + 2) 0], (Y.af false b (pc ts l' d)).app [⟨B0, []⟩, ⟨B1, []⟩, ⟨[.v (.string nm), .sl (nms xs) c', .v (.int .i64 ln), .v (.int .i64 cl)], []⟩] tk' [])
 | .bad er p => ∃ a' d'', ∀ b (Y : St), b < Y.stk.length → ∀ N T Lb, Y.stk.length = N → Y.tk.length = T → Y.lp.length = Lb → ∀ c tk (B0 B1 : List PV) (nm : ByteArray) (ln cl : Int), gB T tk c acc.length 5 → ∃ B2 tk',
  itE (S41.b0 (E L) itE N Lb) [.ptr false b 0, .ptr false N 0, .ptr false (N + 2) 0] ((Y.af false b (pc ts l d)).app [⟨B0, []⟩, ⟨B1, []⟩, ⟨[.v (.string nm), .sl (nms acc) c, .v (.int .i64 ln), .v (.int .i64 cl)], []⟩] tk []) =
   some (.pan 92 (.agg #[]), [.ptr false b 0, .ptr false N 0, .ptr false (N + 2) 0], (Y.af false b (pcf (ax ts) a' d'' er p.1 p.2)).app [⟨B0, []⟩, ⟨B1, []⟩, ⟨B2, []⟩] tk' [])
section
variable {ts : List Tok} (hr : Row ts)
include hr
theorem uJ {d : Nat} : ∀ n acc l x, acc.length + n ≤ 1000000 → Sfx ts l → iV n acc l = some x → DQ ts d acc l x := by
 intro n
 induction n with
 | zero => intro acc l x _ _ hx; simp [iV] at hx
 | succ n ih =>
  intro acc l x hac h hx; simp only [iV] at hx
  cases i1 : isT l [125] with
  | true =>
   rw [if_pos i1] at hx; obtain rfl := Option.some.inj hx; refine ⟨h.isT hr i1, fun b Y hb N T Lb hN hT hL c tk B0 B1 nm ln cl ho => ⟨c, tk, ?_⟩⟩; have e1 := ay (aB hr h d [125] (b := b)) (s := Y) hb; simp only [pc, pcf, i1, if_true] at e1 ⊢
   generalize ax ts = es at *
   apply iD; simp [S41.b0, hN, hT, hL, hb, e1, i1]
  | false =>
   rw [if_neg (by rw [i1]; decide)] at hx; obtain ⟨y, hy⟩ := dw hx; rw [hy] at hx; have h2 := ru hr h d hy
   cases y with
   | bad er q =>
    obtain rfl := bJ hx rfl; obtain ⟨a', d'', eb⟩ := bn h2 rfl; refine ⟨a', d'', fun b Y hb N T Lb hN hT hL c tk B0 B1 nm ln cl ho => ⟨[.v (.string nm), .sl (nms acc) c, .v (.int .i64 ln), .v (.int .i64 cl)], tk, ?_⟩⟩; have e1 := ay (aB hr h d [125] (b := b)) (s := Y) hb; have eb := eb hb; simp only [pc, pcf, i1, if_false, ab] at e1 eb ⊢
    generalize ax ts = es at *
    apply iE; simp [S41.b0, hN, hT, hL, hb, e1, eb, i1]
   | ok s l1 =>
    have hx := cx hx rfl
    try dsimp only at hx
    have s1 := br h2 rfl
    have own : ∀ (b : Nat) (Y : St) (T : Nat), Y.tk.length = T → ∀ c tk, gB T tk c acc.length 5 → ∃ c' tk', (∀ (bl : List Blk) (lp : List Aux) (base : Nat) (z : List PV), dX base z 5 56 (.sl (nms acc) c) [nmC s] ((Y.af false b (pc ts l1 d)).app bl tk lp) = some (.sl (nms (acc ++ [s])) c', (Y.af false b (pc ts l1 d)).app bl tk' lp)) ∧ gB T tk' c' (acc ++ [s]).length 5 := by
     intro b Y T hT c tk ho; rw [← gA] at ho; have := ho.grow (ys := [nmC s]) (bytes := 56) (b := b) (cs := pc ts l1 d) hT (by rw [gA, bG]; unfold dz; omega) (pI _) (pI [s]) (by omega) (by omega); rw [tS]; simpa [gA, nms] using this
    have h3 := eI hr s1 d [59]
    cases x3 : cF [59] l1 with
    | bad er q =>
     obtain rfl := bJ hx x3; obtain ⟨a', d'', eb⟩ := bn h3 x3; refine ⟨a', d'', fun b Y hb N T Lb hN hT hL c tk B0 B1 nm ln cl ho => ?_⟩; obtain ⟨c', tk', ea, _⟩ := own b Y T hT c tk ho; refine ⟨[.v (.string nm), .sl (nms (acc ++ [s])) c', .v (.int .i64 ln), .v (.int .i64 cl)], tk', ?_⟩; have e1 := ay (aB hr h d [125] (b := b)) (s := Y) hb; have e2 := aK h2 rfl hb; have eb := eb hb; simp only [pc, pcf, aJ, hU, hZ, nmC, i1, if_false, ab] at e1 e2 ea eb ⊢
     generalize ax ts = es at *
     apply iE; simp [S41.b0, hN, hT, hL, hb, e1, e2, cu, ea, eb, i1, aY, jt, fT, AM.cy, AM.eL, chunks]
    | ok u l3 =>
     have hx := cx hx x3
     try dsimp only at hx
     have s3 := br h3 x3; have h4 := ih (acc ++ [s]) l3 x (by simp only [bM, bG]; omega) s3 hx
     have stp : ∀ b (Y : St), b < Y.stk.length → ∀ N T Lb, Y.stk.length = N → Y.tk.length = T → Y.lp.length = Lb → ∀ c tk (B0 B1 : List PV) (nm : ByteArray) (ln cl : Int), gB T tk c acc.length 5 → ∃ c' tk', gB T tk' c' (acc ++ [s]).length 5 ∧
      S41.b0 (E L) itE N Lb [.ptr false b 0, .ptr false N 0, .ptr false (N + 2) 0] ((Y.af false b (pc ts l d)).app [⟨B0, []⟩, ⟨B1, []⟩, ⟨[.v (.string nm), .sl (nms acc) c, .v (.int .i64 ln), .v (.int .i64 cl)], []⟩] tk []) =
       some (.normal, [.ptr false b 0, .ptr false N 0, .ptr false (N + 2) 0], (Y.af false b (pc ts l3 d)).app [⟨B0, []⟩, ⟨B1, []⟩, ⟨[.v (.string nm), .sl (nms (acc ++ [s])) c', .v (.int .i64 ln), .v (.int .i64 cl)], []⟩] tk' []) := by
      intro b Y hb N T Lb hN hT hL c tk B0 B1 nm ln cl ho; obtain ⟨c', tk', ea, ho'⟩ := own b Y T hT c tk ho; refine ⟨c', tk', ho', ?_⟩; have e1 := ay (aB hr h d [125] (b := b)) (s := Y) hb; have e2 := aK h2 rfl hb; have e3 := aK h3 x3 hb; simp only [pc, pcf, aJ, hU, hZ, nmC, i1, if_false, ab] at e1 e2 e3 ea ⊢
      generalize ax ts = es at *
      simp [S41.b0, hN, hT, hL, hb, e1, e2, e3, cu, ea, i1, aY, jt, fT, AM.cy, AM.eL, chunks]
     cases x with
     | ok xs l' =>
      refine ⟨h4.1, fun b Y hb N T Lb hN hT hL c tk B0 B1 nm ln cl ho => ?_⟩; obtain ⟨c1, tk1, ho1, hs⟩ := stp b Y hb N T Lb hN hT hL c tk B0 B1 nm ln cl ho; obtain ⟨c', tk', hit⟩ := h4.2 b Y hb N T Lb hN hT hL c1 tk1 B0 B1 nm ln cl ho1; exact ⟨c', tk', (bW hs).trans hit⟩
     | bad er p =>
      obtain ⟨a', d'', h4⟩ := h4; refine ⟨a', d'', fun b Y hb N T Lb hN hT hL c tk B0 B1 nm ln cl ho => ?_⟩; obtain ⟨c1, tk1, ho1, hs⟩ := stp b Y hb N T Lb hN hT hL c tk B0 B1 nm ln cl ho; obtain ⟨z, tk', hit⟩ := h4 b Y hb N T Lb hN hT hL c1 tk1 B0 B1 nm ln cl ho1; exact ⟨z, tk', (bW hs).trans hit⟩
theorem EC {d n : Nat} {l : List Tok} {x : PR Rec} (hn : n ≤ 1000000) (h : Sfx ts l) (hx : zl n l = some x) : Rd 41 [] ts d d l jq x := by
 unfold zl at hx; have h1 := gK hr h d 1
 cases x1 : eM 1 l with
 | bad e q =>
  obtain rfl := bJ hx x1; obtain ⟨a', d'', eb⟩ := bn h1 x1; refine ⟨a', d'', fun b Y hb => ?_⟩; have eb := eb hb; rw [tm]; obtain ⟨N, T, Lb, hN, hT, hL⟩ := lens3 Y; rw [hN] at hb
  conv => lhs; rw [← ak (Y.af false b (pc ts l d))]
  simp only [pc, pcf, aJ, Tok.c, bj, aa] at eb ⊢
  generalize ax ts = es at *
  simp [S41, hN, hT, hL, hb, eb]
 | ok t l1 =>
  have hx := cx hx x1
  try dsimp only at hx
  have s1 := br h1 x1; have h2 := eI hr s1 d [123]
  cases x2 : cF [123] l1 with
  | bad e q =>
   obtain rfl := bJ hx x2; obtain ⟨a', d'', eb⟩ := bn h2 x2; refine ⟨a', d'', fun b Y hb => ?_⟩; have e1 := aK h1 x1 hb; have eb := eb hb; rw [tm]; obtain ⟨N, T, Lb, hN, hT, hL⟩ := lens3 Y; rw [hN] at hb
   conv => lhs; rw [← ak (Y.af false b (pc ts l d))]
   simp only [pc, pcf, aJ, Tok.c, bj, aa] at e1 eb ⊢
   generalize ax ts = es at *
   simp [S41, hN, hT, hL, hb, e1, eb]
  | ok u l2 =>
   have hx := cx hx x2
   try dsimp only at hx
   have s2 := br h2 x2; obtain ⟨y, hy⟩ := dw hx; rw [hy] at hx; have h3 := uJ hr (d := d) n [] l2 y (by simpa using hn) s2 hy
   cases y with
   | bad er q =>
    obtain rfl := bJ hx rfl; obtain ⟨a', d'', h3⟩ := h3; refine ⟨a', d'', fun b Y hb => ?_⟩; have e1 := aK h1 x1 hb; have e2 := aK h2 x2 hb; obtain ⟨z, tk', hit⟩ := h3 b Y hb _ _ _ rfl rfl rfl .nil [] [str [], .sl [] .nil, .v (.int .i64 0), .v (.int .i64 0)] t.c (bs t.text) t.p.1 t.p.2 (.inl (.inl rfl)); rw [tm]; obtain ⟨N, T, Lb, hN, hT, hL⟩ := lens3 Y; rw [hN] at hb; rw [hN] at hit
    conv => lhs; rw [← ak (Y.af false b (pc ts l d))]
    rw [hL] at hit; simp only [pc, pcf, aJ, Tok.c, bj, aa, nms, aS] at e1 e2 hit ⊢
    generalize ax ts = es at *
    simp [S41, hN, hT, hL, hb, e1, e2, hit, Ex.bh]
   | ok fs l3 =>
    obtain rfl := Option.some.inj (cx hx rfl); refine ⟨h3.1, fun b Y hb => ?_⟩; have e1 := aK h1 x1 hb; have e2 := aK h2 x2 hb; obtain ⟨c', tk', hit⟩ := h3.2 b Y hb _ _ _ rfl rfl rfl .nil [] [str [], .sl [] .nil, .v (.int .i64 0), .v (.int .i64 0)] t.c (bs t.text) t.p.1 t.p.2 (.inl (.inl rfl)); rw [tm]; obtain ⟨N, T, Lb, hN, hT, hL⟩ := lens3 Y; rw [hN] at hb; rw [hN] at hit
    conv => lhs; rw [← ak (Y.af false b (pc ts l d))]
    rw [hL] at hit; simp only [pc, pcf, aJ, Tok.c, bj, aa, nms, aS] at e1 e2 hit ⊢
    generalize ax ts = es at *
    simp [S41, hN, hT, hL, hb, e1, e2, hit, Ex.bh]
    rfl
end
abbrev lU (r : Fu) : PV := .agg [.v (.string r.name), .sl (nms r.params) .dead, .sl (fg r.body) .dead, .v (.int .i64 r.line), .v (.int .i64 r.col)]
attribute [local simp] da cD bT bU cE fc fw ef dj ec dh ed di fv bV gZ dW hI gV gO AM.ae aQ aR bg aP aD AM.onG fP cc eB Ex.bh cond_true cond_false cW cV cU cT cS cY cR cZ cX eg dm dp cC db AM.dt AM.cellsOf AM.an bQ beq_true cM al aF bf bz bS decide_true decide_false bL bB bq bA ba aC az aZ aw dc de ft aA bK bu bR cz dV dZ cK eA ew set_set eD dD fM dE cI bD dC dB cH dA eC eE fG fH bE cm ep fF dP aL aU aE AM.aT ah cQ bO aX aS aO aN AM.part bm aM cf cj cg cd cd.eO AM.dM bC cr dI fE aL laid aH bc cv
attribute [local congr] dJ
abbrev fuC (nm : ByteArray) (ps : List Nm) (c : Cap) (ln cl : Int) : List PV := [.v (.string nm), .sl (nms ps) c, .sl [] .nil, .v (.int .i64 ln), .v (.int .i64 cl)]
def DU (ts : List Tok) (d : Nat) (acc : List Nm) (l : List Tok) (x : PR (List Nm)) : Prop := match x with
 | .ok xs l' => Sfx ts l' ∧ ∀ b (Y : St), b < Y.stk.length → ∀ N T Lb, Y.stk.length = N → Y.tk.length = T → Y.lp.length = Lb → ∀ c tk (B0 B1 : List PV) (nm : ByteArray) (ln cl : Int), gB T tk c acc.length 5 → ∃ c' tk',
  itE (S44.b0 (E L) itE N Lb) [.ptr false b 0, .ptr false N 0, .ptr false (N + 2) 0] ((Y.af false b (pc ts l d)).app [⟨B0, []⟩, ⟨B1, []⟩, ⟨fuC nm acc c ln cl, []⟩] tk []) =
   some (.exit 0, [.ptr false b 0, .ptr false N 0, .ptr false (N + 2) 0], (Y.af false b (pc ts l' d)).app [⟨B0, []⟩, ⟨B1, []⟩, ⟨fuC nm xs c' ln cl, []⟩] tk' [])
 | .bad er p => ∃ a' d'', ∀ b (Y : St), b < Y.stk.length → ∀ N T Lb, Y.stk.length = N → Y.tk.length = T → Y.lp.length = Lb → ∀ c tk (B0 B1 : List PV) (nm : ByteArray) (ln cl : Int), gB T tk c acc.length 5 → ∃ B2 tk',
  itE (S44.b0 (E L) itE N Lb) [.ptr false b 0, .ptr false N 0, .ptr false (N + 2) 0] ((Y.af false b (pc ts l d)).app [⟨B0, []⟩, ⟨B1, []⟩, ⟨fuC nm acc c ln cl, []⟩] tk []) =
   some (.pan 92 (.agg #[]), [.ptr false b 0, .ptr false N 0, .ptr false (N + 2) 0], (Y.af false b (pcf (ax ts) a' d'' er p.1 p.2)).app [⟨B0, []⟩, ⟨B1, []⟩, ⟨B2, []⟩] tk' [])
section
variable {ts : List Tok} (hr : Row ts)
include hr
theorem va {d : Nat} : ∀ n acc l x, acc.length + n ≤ 1000000 → Sfx ts l → iH n acc l = some x → DU ts d acc l x := by
 intro n
 induction n with
 | zero => intro acc l x _ _ hx; simp [iH] at hx
 | succ n ih =>
  intro acc l x hac h hx; simp only [iH] at hx; obtain ⟨y, hy⟩ := dw hx; rw [hy] at hx; have h2 := ru hr h d hy
  cases y with
  | bad er q =>
   obtain rfl := bJ hx rfl; obtain ⟨a', d'', eb⟩ := bn h2 rfl; refine ⟨a', d'', fun b Y hb N T Lb hN hT hL c tk B0 B1 nm ln cl ho => ⟨fuC nm acc c ln cl, tk, ?_⟩⟩; have eb := eb hb; simp only [pc, pcf, fuC] at eb ⊢
   generalize ax ts = es at *
   apply iE; simp [S44.b0, hN, hT, hL, hb, eb]
  | ok s l1 =>
   have hx := cx hx rfl
   try dsimp only at hx
   have s1 := br h2 rfl
   have own : ∀ (b : Nat) (Y : St) (T : Nat), Y.tk.length = T → ∀ c tk, gB T tk c acc.length 5 → ∃ c' tk', (∀ (bl : List Blk) (lp : List Aux) (base : Nat) (z : List PV), dX base z 5 56 (.sl (nms acc) c) [nmC s] ((Y.af false b (pc ts l1 d)).app bl tk lp) = some (.sl (nms (acc ++ [s])) c', (Y.af false b (pc ts l1 d)).app bl tk' lp)) ∧ gB T tk' c' (acc ++ [s]).length 5 := by
    intro b Y T hT c tk ho; rw [← gA] at ho; have := ho.grow (ys := [nmC s]) (bytes := 56) (b := b) (cs := pc ts l1 d) hT (by rw [gA, bG]; unfold dz; omega) (pI _) (pI [s]) (by omega) (by omega); rw [tS]; simpa [gA, nms] using this
   cases i1 : isT l1 [41] with
   | true =>
    rw [if_pos i1] at hx; obtain rfl := Option.some.inj hx; refine ⟨s1.isT hr i1, fun b Y hb N T Lb hN hT hL c tk B0 B1 nm ln cl ho => ?_⟩; obtain ⟨c', tk', ea, _⟩ := own b Y T hT c tk ho; refine ⟨c', tk', ?_⟩; have e1 := ay (aB hr s1 d [41] (b := b)) (s := Y) hb; have e2 := aK h2 rfl hb; simp only [pc, pcf, fuC, hU, hZ, nmC, i1, if_true] at e1 e2 ea ⊢
    generalize ax ts = es at *
    apply iD; simp [S44.b0, hN, hT, hL, hb, e1, e2, cu, ea, i1, aY, jt, fT, AM.cy, AM.eL, chunks, Ex.bh]
   | false =>
    rw [if_neg (by rw [i1]; decide)] at hx; have h3 := eI hr s1 d [44]
    cases x3 : cF [44] l1 with
    | bad er q =>
     obtain rfl := bJ hx x3; obtain ⟨a', d'', eb⟩ := bn h3 x3; refine ⟨a', d'', fun b Y hb N T Lb hN hT hL c tk B0 B1 nm ln cl ho => ?_⟩; obtain ⟨c', tk', ea, _⟩ := own b Y T hT c tk ho; refine ⟨fuC nm (acc ++ [s]) c' ln cl, tk', ?_⟩; have e1 := ay (aB hr s1 d [41] (b := b)) (s := Y) hb; have e2 := aK h2 rfl hb; have eb := eb hb; simp only [pc, pcf, fuC, aJ, hU, hZ, nmC, i1, if_false, ab] at e1 e2 ea eb ⊢
     generalize ax ts = es at *
     apply iE; simp [S44.b0, hN, hT, hL, hb, e1, e2, cu, ea, eb, i1, aY, jt, fT, AM.cy, AM.eL, chunks]
    | ok u l3 =>
     have hx := cx hx x3
     try dsimp only at hx
     have s3 := br h3 x3; have h4 := ih (acc ++ [s]) l3 x (by simp only [bM, bG]; omega) s3 hx
     have stp : ∀ b (Y : St), b < Y.stk.length → ∀ N T Lb, Y.stk.length = N → Y.tk.length = T → Y.lp.length = Lb → ∀ c tk (B0 B1 : List PV) (nm : ByteArray) (ln cl : Int), gB T tk c acc.length 5 → ∃ c' tk', gB T tk' c' (acc ++ [s]).length 5 ∧
      S44.b0 (E L) itE N Lb [.ptr false b 0, .ptr false N 0, .ptr false (N + 2) 0] ((Y.af false b (pc ts l d)).app [⟨B0, []⟩, ⟨B1, []⟩, ⟨fuC nm acc c ln cl, []⟩] tk []) =
       some (.normal, [.ptr false b 0, .ptr false N 0, .ptr false (N + 2) 0], (Y.af false b (pc ts l3 d)).app [⟨B0, []⟩, ⟨B1, []⟩, ⟨fuC nm (acc ++ [s]) c' ln cl, []⟩] tk' []) := by
      intro b Y hb N T Lb hN hT hL c tk B0 B1 nm ln cl ho; obtain ⟨c', tk', ea, ho'⟩ := own b Y T hT c tk ho; refine ⟨c', tk', ho', ?_⟩; have e1 := ay (aB hr s1 d [41] (b := b)) (s := Y) hb; have e2 := aK h2 rfl hb; have e3 := aK h3 x3 hb; simp only [pc, pcf, fuC, aJ, hU, hZ, nmC, i1, if_false, ab] at e1 e2 e3 ea ⊢
      generalize ax ts = es at *
      simp [S44.b0, hN, hT, hL, hb, e1, e2, e3, cu, ea, i1, aY, jt, fT, AM.cy, AM.eL, chunks]
     cases x with
     | ok xs l' =>
      refine ⟨h4.1, fun b Y hb N T Lb hN hT hL c tk B0 B1 nm ln cl ho => ?_⟩; obtain ⟨c1, tk1, ho1, hs⟩ := stp b Y hb N T Lb hN hT hL c tk B0 B1 nm ln cl ho; obtain ⟨c', tk', hit⟩ := h4.2 b Y hb N T Lb hN hT hL c1 tk1 B0 B1 nm ln cl ho1; exact ⟨c', tk', (bW hs).trans hit⟩
     | bad er p =>
      obtain ⟨a', d'', h4⟩ := h4; refine ⟨a', d'', fun b Y hb N T Lb hN hT hL c tk B0 B1 nm ln cl ho => ?_⟩; obtain ⟨c1, tk1, ho1, hs⟩ := stp b Y hb N T Lb hN hT hL c tk B0 B1 nm ln cl ho; obtain ⟨z, tk', hit⟩ := h4 b Y hb N T Lb hN hT hL c1 tk1 B0 B1 nm ln cl ho1; exact ⟨z, tk', (bW hs).trans hit⟩
end
end Go.Proofs.YtlhlijaondmccaaDoor.S
namespace Go.Proofs.YtlhlijaondmccaaDoor.S
open Go Go.AM Go.Proofs
attribute [local simp] da cD bT bU cE fc fw ef dj ec dh ed di fv bV gZ dW hI gV gO AM.ae aQ aR bg aP aD AM.onG fP cc eB Ex.bh cond_true cond_false cW cV cU cT cS cY cR cZ cX eg dm dp cC db AM.dt AM.cellsOf AM.an bQ beq_true cM al aF bf bz bS decide_true decide_false bL bB bq bA ba aC az aZ aw dc de ft aA bK bu bR cz dV dZ cK eA ew set_set eD dD fM dE cI bD dC dB cH dA eC eE fG fH bE cm ep fF dP aL aU aE AM.aT ah cQ bO aX aS aO aN AM.part bm aM cf cj cg cd cd.eO AM.dM bC cr dI fE aL laid aH bc cv
attribute [-simp] ag
attribute [local congr] dJ
theorem Et {ts : List Tok} (hr : Row ts) {d n : Nat} (hd : d = 0) (hn : n ≤ 1000000) (ih : qO ts n) {l : List Tok} {x : PR Fu} (h : Sfx ts l) (hx : AH n l = some x) : Rd 44 [] ts d d l lU x := by
 have hx : (pb (some (eM 1 l)) fun t l1 => pb (some (cF [40] l1)) fun _ l2 =>
  pb (if isT l2 [41] then some (.ok [] l2.tail) else iH n [] l2) fun ps l3 => pb (fk n d l3) fun b l4 => some (.ok (⟨bs t.text, ps, b, t.p.1, t.p.2⟩ : Fu) l4)) = some x := by subst hd; exact hx
 have hd12 : d ≤ 12 := by omega
 have h1 := gK hr h d 1
 cases x1 : eM 1 l with
 | bad e q =>
  obtain rfl := bJ hx x1; obtain ⟨a', d'', eb⟩ := bn h1 x1; refine ⟨a', d'', fun b Y hb => ?_⟩; have eb := eb hb; have eb := eb; rw [nH]; obtain ⟨N, T, Lb, hN, hT, hL⟩ := lens3 Y; rw [hN] at hb
  conv => lhs; rw [← ak (Y.af false b (pc ts l d))]
  simp only [pc, pcf, aJ, Tok.c, bj, fuC, cq, aa, nms, aS, if_true, if_false, ab] at eb ⊢
  generalize ax ts = es at *
  simp [S44, hN, hT, hL, hb, eb, Ex.bh]
 | ok t l1 =>
  have hx := cx hx x1
  try dsimp only at hx
  have s1 := br h1 x1; have h2 := eI hr s1 d [40]
  cases x2 : cF [40] l1 with
  | bad e q =>
   obtain rfl := bJ hx x2; obtain ⟨a', d'', eb⟩ := bn h2 x2; refine ⟨a', d'', fun b Y hb => ?_⟩; have eb := eb hb; have e1 := aK h1 x1 hb; have eb := eb; rw [nH]; obtain ⟨N, T, Lb, hN, hT, hL⟩ := lens3 Y; rw [hN] at hb
   conv => lhs; rw [← ak (Y.af false b (pc ts l d))]
   simp only [pc, pcf, aJ, Tok.c, bj, fuC, cq, aa, nms, aS, if_true, if_false, ab] at e1 eb ⊢
   generalize ax ts = es at *
   simp [S44, hN, hT, hL, hb, e1, eb, Ex.bh]
  | ok u l2 =>
   have hx := cx hx x2
   try dsimp only at hx
   have s2 := br h2 x2
   cases i3 : isT l2 [41] with
   | true =>
    rw [if_pos i3] at hx; have s3 := s2.isT hr i3; have hx := cx hx rfl
    try dsimp only at hx
    obtain ⟨z, hz⟩ := dw hx; rw [hz] at hx; have h5 := ih.blk _ _ _ hd12 s3 hz
    cases z with
    | bad e q =>
     obtain rfl := bJ hx rfl; obtain ⟨a', d'', eb⟩ := bn h5 rfl; refine ⟨a', d'', fun b Y hb => ?_⟩; have eb := eb hb; have e1 := aK h1 x1 hb; have e2 := aK h2 x2 hb; have e3 := ay (aB hr s2 d [41] (b := b)) (s := Y) hb; have eb := eb; rw [nH]; obtain ⟨N, T, Lb, hN, hT, hL⟩ := lens3 Y; rw [hN] at hb
     conv => lhs; rw [← ak (Y.af false b (pc ts l d))]
     simp only [pc, pcf, aJ, Tok.c, bj, fuC, cq, aa, nms, aS, if_true, if_false, ab, i3] at e1 e2 e3 eb ⊢
     generalize ax ts = es at *
     simp [S44, hN, hT, hL, hb, e1, e2, e3, eb, i3, Ex.bh]
    | ok bd l5 =>
     obtain rfl := Option.some.inj (cx hx rfl); refine ⟨br h5 rfl, fun b Y hb => ?_⟩; have e1 := aK h1 x1 hb; have e2 := aK h2 x2 hb; have e3 := ay (aB hr s2 d [41] (b := b)) (s := Y) hb; have e5 := aK h5 rfl hb; rw [nH]; obtain ⟨N, T, Lb, hN, hT, hL⟩ := lens3 Y; rw [hN] at hb
     conv => lhs; rw [← ak (Y.af false b (pc ts l d))]
     simp only [pc, pcf, aJ, Tok.c, bj, fuC, cq, aa, nms, aS, if_true, if_false, ab, i3] at e1 e2 e3 e5 ⊢
     generalize ax ts = es at *
     simp [S44, hN, hT, hL, hb, e1, e2, e3, e5, i3, Ex.bh]
     rfl
   | false =>
    rw [if_neg (by rw [i3]; decide)] at hx; obtain ⟨y, hy⟩ := dw hx; rw [hy] at hx; have h4 := va hr (d := d) n [] l2 y (by simpa using hn) s2 hy
    cases y with
    | bad er q =>
     obtain rfl := bJ hx rfl; obtain ⟨a', d'', h4⟩ := h4; refine ⟨a', d'', fun b Y hb => ?_⟩; have e1 := aK h1 x1 hb; have e2 := aK h2 x2 hb; have e3 := ay (aB hr s2 d [41] (b := b)) (s := Y) hb; obtain ⟨z, tk', hit⟩ := h4 b Y hb _ _ _ rfl rfl rfl .nil [] [str [], .sl [] .nil, .sl [] .nil, .v (.int .i64 0), .v (.int .i64 0)] t.c (bs t.text) t.p.1 t.p.2 (.inl (.inl rfl)); rw [nH]; obtain ⟨N, T, Lb, hN, hT, hL⟩ := lens3 Y; rw [hN] at hb; rw [hN] at hit
     conv => lhs; rw [← ak (Y.af false b (pc ts l d))]
     rw [hL] at hit; simp only [pc, pcf, aJ, Tok.c, bj, fuC, cq, aa, nms, aS, if_true, if_false, ab, i3] at e1 e2 e3 hit ⊢
     generalize ax ts = es at *
     simp [S44, hN, hT, hL, hb, e1, e2, e3, hit, i3, Ex.bh]
    | ok ps l4 =>
     have hx := cx hx rfl
     try dsimp only at hx
     have s4 := h4.1; obtain ⟨z, hz⟩ := dw hx; rw [hz] at hx; have h5 := ih.blk _ _ _ hd12 s4 hz
     cases z with
     | bad e q =>
      obtain rfl := bJ hx rfl; obtain ⟨a', d'', eb⟩ := bn h5 rfl; refine ⟨a', d'', fun b Y hb => ?_⟩; have eb := eb hb; have e1 := aK h1 x1 hb; have e2 := aK h2 x2 hb; have e3 := ay (aB hr s2 d [41] (b := b)) (s := Y) hb; have eb := eb; obtain ⟨c', tk', hit⟩ := h4.2 b Y hb _ _ _ rfl rfl rfl .nil [] [str [], .sl [] .nil, .sl [] .nil, .v (.int .i64 0), .v (.int .i64 0)] t.c (bs t.text) t.p.1 t.p.2 (.inl (.inl rfl)); rw [nH]; obtain ⟨N, T, Lb, hN, hT, hL⟩ := lens3 Y; rw [hN] at hb; rw [hN] at hit
      conv => lhs; rw [← ak (Y.af false b (pc ts l d))]
      rw [hL] at hit; simp only [pc, pcf, aJ, Tok.c, bj, fuC, cq, aa, nms, aS, if_true, if_false, ab, i3] at e1 e2 e3 eb hit ⊢
      generalize ax ts = es at *
      simp [S44, hN, hT, hL, hb, e1, e2, e3, eb, hit, i3, Ex.bh]
     | ok bd l5 =>
      obtain rfl := Option.some.inj (cx hx rfl); refine ⟨br h5 rfl, fun b Y hb => ?_⟩; have e1 := aK h1 x1 hb; have e2 := aK h2 x2 hb; have e3 := ay (aB hr s2 d [41] (b := b)) (s := Y) hb; have e5 := aK h5 rfl hb; obtain ⟨c', tk', hit⟩ := h4.2 b Y hb _ _ _ rfl rfl rfl .nil [] [str [], .sl [] .nil, .sl [] .nil, .v (.int .i64 0), .v (.int .i64 0)] t.c (bs t.text) t.p.1 t.p.2 (.inl (.inl rfl)); rw [nH]; obtain ⟨N, T, Lb, hN, hT, hL⟩ := lens3 Y; rw [hN] at hb; rw [hN] at hit
      conv => lhs; rw [← ak (Y.af false b (pc ts l d))]
      rw [hL] at hit; simp only [pc, pcf, aJ, Tok.c, bj, fuC, cq, aa, nms, aS, if_true, if_false, ab, i3] at e1 e2 e3 e5 hit ⊢
      generalize ax ts = es at *
      simp [S44, hN, hT, hL, hb, e1, e2, e3, e5, hit, i3, Ex.bh]
      rfl
end Go.Proofs.YtlhlijaondmccaaDoor.S
namespace Go.Proofs.YtlhlijaondmccaaDoor.S
open Go Go.AM Go.Proofs
theorem gB.xH {T : Nat} {tk : List (Nat × Nat)} {c : Cap} {sz bytes : Nat} {es ys : List (List PV)} (h : gB T tk c es.length sz) {b : Nat} {cs : List PV} {Y : St} (hT : Y.tk.length = T)
 (h1 : (es.length + ys.length) * bytes ≤ dz) (h2 : cM sz es = true) (h3 : cM sz ys = true) (h4 : sz ≠ 0) (h5 : bytes ≠ 0) :
 ∃ c' tk', (∀ (bl : List Blk) (lp : List Aux) (base : Nat) (z : List PV), dX base z sz bytes (.sl es c) ys ((Y.af false b cs).app bl tk lp) = some (.sl (es ++ ys) c', (Y.af false b cs).app bl tk' lp)) ∧ gB T tk' c' (es ++ ys).length sz ∧
  (∀ {c2 n2 sz2}, gB T tk c2 n2 sz2 → pd c c2 → gB T tk' c2 n2 sz2 ∧ pd c' c2) := by
 subst hT; obtain ⟨c', tk', a, b, _, d⟩ := um (s := Y.af false b cs) h h1 h2 h3 h4 h5; exact ⟨c', tk', a, b, d⟩
theorem gB.sfc {T : Nat} {tk : List (Nat × Nat)} {c : Cap} {n sz : Nat} (h : gB T tk c n sz) (m : Nat) : c.sf true m = true := by
 rcases h with (rfl | rfl) | ⟨j, rfl, _⟩ <;> rfl
abbrev recC (r : Rec) : List PV := [.v (.string r.name), .sl (nms r.fields) .dead, .v (.int .i64 r.line), .v (.int .i64 r.col)]
abbrev fuE (r : Fu) : List PV := [.v (.string r.name), .sl (nms r.params) .dead, .sl (fg r.body) .dead, .v (.int .i64 r.line), .v (.int .i64 r.col)]
abbrev thC (r : Th) : List PV := [.sl (fg r.body) .dead, .v (.int .i64 r.line), .v (.int .i64 r.col)]
def j5 (l : List Rec) : List (List PV) := l.map recC
theorem vi (l : List Rec) : cM 4 (j5 l) = true := jf recC (fun _ => rfl) l
theorem zm (a b : List Rec) : j5 (a ++ b) = j5 a ++ j5 b := List.map_append ..
theorem lM (a : List Rec) : (j5 a).length = a.length := List.length_map ..
def nS (l : List Fu) : List (List PV) := l.map fuE
theorem xF (l : List Fu) : cM 5 (nS l) = true := jf fuE (fun _ => rfl) l
theorem AI (a b : List Fu) : nS (a ++ b) = nS a ++ nS b := List.map_append ..
theorem mA (a : List Fu) : (nS a).length = a.length := List.length_map ..
def mR (l : List Th) : List (List PV) := l.map thC
theorem yr (l : List Th) : cM 3 (mR l) = true := jf thC (fun _ => rfl) l
theorem BK (a b : List Th) : mR (a ++ b) = mR a ++ mR b := List.map_append ..
theorem mS (a : List Th) : (mR a).length = a.length := List.length_map ..
abbrev pgC (g : Pg) (c1 c2 c3 c4 : Cap) : List PV := [.sl (j5 g.hM) c1, .sl (nms g.gls) c2, .sl (nS g.gY) c3, .sl (mR g.ths) c4]
abbrev nB (g : Pg) : PV := .agg (pgC g .dead .dead .dead .dead)
structure jm (T : Nat) (tk : List (Nat × Nat)) (c1 c2 c3 c4 : Cap) (g : Pg) : Prop where
 o1 : gB T tk c1 g.hM.length 4
 o2 : gB T tk c2 g.gls.length 5
 o3 : gB T tk c3 g.gY.length 5
 o4 : gB T tk c4 g.ths.length 3
 d12 : pd c1 c2
 d13 : pd c1 c3
 d14 : pd c1 c4
 d23 : pd c2 c3
 d24 : pd c2 c4
 d34 : pd c3 c4
section
variable {T : Nat} {tk : List (Nat × Nat)} {c1 c2 c3 c4 : Cap} {g : Pg} (h : jm T tk c1 c2 c3 c4 g) {b : Nat} {cs : List PV} {Y : St} (hT : Y.tk.length = T)
include h hT
theorem jm.g1 (r : Rec) (hl : g.hM.length < 1000000) : ∃ c' tk', (∀ (bl : List Blk) (lp : List Aux) (base : Nat) (z : List PV), dX base z 4 56 (.sl (j5 g.hM) c1) [recC r] ((Y.af false b cs).app bl tk lp) = some (.sl (j5 (g.hM ++ [r])) c', (Y.af false b cs).app bl tk' lp)) ∧ jm T tk' c' c2 c3 c4 { g with hM := g.hM ++ [r] } := by
 have o := h.o1; rw [← lM] at o; obtain ⟨c', tk', a, o', r'⟩ := o.xH (ys := [recC r]) (bytes := 56) (b := b) (cs := cs) hT (by rw [lM, bG]; unfold dz; omega) (vi _) (vi [r]) (by omega) (by omega); have e : j5 (g.hM ++ [r]) = j5 g.hM ++ [recC r] := zm _ _; refine ⟨c', tk', fun bl lp base z => by rw [e]; exact a bl lp base z, ?_⟩; rw [← e, lM] at o'; obtain ⟨q2, e2⟩ := r' h.o2 h.d12; obtain ⟨q3, e3⟩ := r' h.o3 h.d13; obtain ⟨q4, e4⟩ := r' h.o4 h.d14; exact ⟨o', q2, q3, q4, e2, e3, e4, h.d23, h.d24, h.d34⟩
theorem jm.g2 (r : Nm) (hl : g.gls.length < 1000000) : ∃ c' tk', (∀ (bl : List Blk) (lp : List Aux) (base : Nat) (z : List PV), dX base z 5 56 (.sl (nms g.gls) c2) [nmC r] ((Y.af false b cs).app bl tk lp) = some (.sl (nms (g.gls ++ [r])) c', (Y.af false b cs).app bl tk' lp)) ∧ jm T tk' c1 c' c3 c4 { g with gls := g.gls ++ [r] } := by
 have o := h.o2; rw [← gA] at o; obtain ⟨c', tk', a, o', r'⟩ := o.xH (ys := [nmC r]) (bytes := 56) (b := b) (cs := cs) hT (by rw [gA, bG]; unfold dz; omega) (pI _) (pI [r]) (by omega) (by omega); have e : nms (g.gls ++ [r]) = nms g.gls ++ [nmC r] := tS _ _; refine ⟨c', tk', fun bl lp base z => by rw [e]; exact a bl lp base z, ?_⟩; rw [← e, gA] at o'; obtain ⟨q1, e1⟩ := r' h.o1 (h.d12).symm; obtain ⟨q3, e3⟩ := r' h.o3 h.d23; obtain ⟨q4, e4⟩ := r' h.o4 h.d24; exact ⟨q1, o', q3, q4, (e1).symm, h.d13, h.d14, e3, e4, h.d34⟩
theorem jm.g3 (r : Fu) (hl : g.gY.length < 1000000) : ∃ c' tk', (∀ (bl : List Blk) (lp : List Aux) (base : Nat) (z : List PV), dX base z 5 80 (.sl (nS g.gY) c3) [fuE r] ((Y.af false b cs).app bl tk lp) = some (.sl (nS (g.gY ++ [r])) c', (Y.af false b cs).app bl tk' lp)) ∧ jm T tk' c1 c2 c' c4 { g with gY := g.gY ++ [r] } := by
 have o := h.o3; rw [← mA] at o; obtain ⟨c', tk', a, o', r'⟩ := o.xH (ys := [fuE r]) (bytes := 80) (b := b) (cs := cs) hT (by rw [mA, bG]; unfold dz; omega) (xF _) (xF [r]) (by omega) (by omega); have e : nS (g.gY ++ [r]) = nS g.gY ++ [fuE r] := AI _ _; refine ⟨c', tk', fun bl lp base z => by rw [e]; exact a bl lp base z, ?_⟩; rw [← e, mA] at o'; obtain ⟨q1, e1⟩ := r' h.o1 (h.d13).symm; obtain ⟨q2, e2⟩ := r' h.o2 (h.d23).symm; obtain ⟨q4, e4⟩ := r' h.o4 h.d34; exact ⟨q1, q2, o', q4, h.d12, (e1).symm, h.d14, (e2).symm, h.d24, e4⟩
theorem jm.g4 (r : Th) (hl : g.ths.length < 1000000) : ∃ c' tk', (∀ (bl : List Blk) (lp : List Aux) (base : Nat) (z : List PV), dX base z 3 40 (.sl (mR g.ths) c4) [thC r] ((Y.af false b cs).app bl tk lp) = some (.sl (mR (g.ths ++ [r])) c', (Y.af false b cs).app bl tk' lp)) ∧ jm T tk' c1 c2 c3 c' { g with ths := g.ths ++ [r] } := by
 have o := h.o4; rw [← mS] at o; obtain ⟨c', tk', a, o', r'⟩ := o.xH (ys := [thC r]) (bytes := 40) (b := b) (cs := cs) hT (by rw [mS, bG]; unfold dz; omega) (yr _) (yr [r]) (by omega) (by omega); have e : mR (g.ths ++ [r]) = mR g.ths ++ [thC r] := BK _ _; refine ⟨c', tk', fun bl lp base z => by rw [e]; exact a bl lp base z, ?_⟩; rw [← e, mS] at o'; obtain ⟨q1, e1⟩ := r' h.o1 (h.d14).symm; obtain ⟨q2, e2⟩ := r' h.o2 (h.d24).symm; obtain ⟨q3, e3⟩ := r' h.o3 (h.d34).symm; exact ⟨q1, q2, q3, o', h.d12, h.d13, (e1).symm, h.d23, (e2).symm, (e3).symm⟩
end
theorem jm.zero (T : Nat) : jm T [] .nil .nil .nil .nil ⟨[], [], [], []⟩ :=
 ⟨.inl (.inl rfl), .inl (.inl rfl), .inl (.inl rfl), .inl (.inl rfl), .inl rfl, .inl rfl, .inl rfl, .inl rfl, .inl rfl, .inl rfl⟩
end Go.Proofs.YtlhlijaondmccaaDoor.S
