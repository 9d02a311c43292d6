/- Trees: the walk over all statements. No condition. -/
import Derived.Test.YtkbhejcfejembaaFl
set_option linter.all false
namespace Go.Proofs.Ytkbhejcfejembaa.S
open Go Go.AM Go.Proofs
set_option linter.unusedVariables false
set_option linter.unusedSimpArgs false

/-- So many rounds from the n-th on: did all go on, and how many were there? -/
def run (go : Nat → Bool) : Nat → Nat → Bool × Nat
  | n, 0 => (true, n)
  | n, k + 1 => bif go n then run go (n + 1) k else (false, n + 1)
theorem run_add (go : Nat → Bool) : ∀ (k n m : Nat), run go n (k + m) = bif (run go n k).1 then run go (run go n k).2 m else run go n k
  | 0, n, m => by simp [run]
  | k + 1, n, m => by
    rw [show k + 1 + m = (k + m) + 1 by omega]
    simp only [run]
    cases go n with
    | true => simp only [cond_true]; exact run_add go k (n + 1) m
    | false => rfl
theorem run_true {go : Nat → Bool} : ∀ {k n : Nat}, (run go n k).1 = true → (run go n k).2 = n + k
  | 0, n, _ => rfl
  | k + 1, n, h => by
    simp only [run] at h ⊢
    cases hg : go n with
    | true => rw [hg] at h; simp only [cond_true] at h ⊢; rw [run_true h]; omega
    | false => rw [hg] at h; cases h

/-- Have all rounds so far gone on? -/
def Alive (go : Nat → Bool) (n : Nat) : Prop := ∀ m, m < n → go m = true
theorem Alive.run {go : Nat → Bool} : ∀ {k n : Nat}, Alive go n → (run go n k).1 = true → Alive go (n + k)
  | 0, n, h, _ => h
  | k + 1, n, h, hr => by
    simp only [S.run] at hr
    cases hg : go n with
    | false => rw [hg] at hr; cases hr
    | true =>
      rw [hg] at hr
      have h' : Alive go (n + 1) := fun m hm => by
        rcases Nat.lt_succ_iff_lt_or_eq.1 hm with hm | rfl
        · exact h m hm
        · exact hg
      have := Alive.run h' hr
      rwa [show n + 1 + k = n + (k + 1) by omega] at this

section
variable {W : List (S × Int)} {i : Nat} {go : Nat → Bool}

theorem walk_step (N T Lb : Nat) (Q : Nat → St) (hN : ∀ n, (Q n).stk.length = N) (hL : ∀ n, (Q n).lp.length = Lb) (xs0 : List S) (hb : sszs xs0 ≤ 1000000) (d : Int) (hd : 0 ≤ d) (hd2 : d ≤ 10000000)
    (hr : ∀ n x d (bl : List Blk), Alive go n → W[n]? = some (x, d) → E L (.yield i) [int d, .agg x.enc] ((Q n).app bl [] []) = some (.v (.bool (go n)), (Q (n + 1)).app bl [] []))
    (x : S) (xs p : List S) (hx : xs0 = p ++ x :: xs) (n : Nat) (ha : Alive go n) (hW : W[n]? = some (x, d))
    (hb1 : go n = true → ∀ bl : List Blk, E L (.func 46) [.sl (sencs x.body) .dead, int (d + 1), .clo (.yield i) []] ((Q (n + 1)).app bl [] []) = some (.v (.bool (run go (n + 1) (flats x.body (d + 1)).length).1), (Q (run go (n + 1) (flats x.body (d + 1)).length).2).app bl [] []))
    (hb2 : (run go n (1 + (flats x.body (d + 1)).length)).1 = true → ∀ bl : List Blk, E L (.func 46) [.sl (sencs x.els) .dead, int (d + 1), .clo (.yield i) []] ((Q (n + 1 + (flats x.body (d + 1)).length)).app bl [] []) =
      some (.v (.bool (run go (n + 1 + (flats x.body (d + 1)).length) (flats x.els (d + 1)).length).1), (Q (run go (n + 1 + (flats x.body (d + 1)).length) (flats x.els (d + 1)).length).2).app bl [] [])) :
    S46.b0 (E L) itE N Lb [int d, .clo (.yield i) [], .v (.bool false), .sl (sencs xs0) .dead, int xs0.length, int p.length] ((Q n).app [] [] []) =
      some (bif (run go n (x.flat d).length).1 then .normal else .ret, [int d, .clo (.yield i) [], .v (.bool false), .sl (sencs xs0) .dead, int xs0.length, int (bif (run go n (x.flat d).length).1 then p.length + 1 else p.length : Int)], (Q (run go n (x.flat d).length).2).app [] [] []) := by
  have hlt : (p.length : Int) < (xs0.length : Int) := by rw [hx]; simp; omega
  have g1 : (sencs xs0)[p.length]? = some x.enc := by rw [hx]; exact sencs_get p x xs
  have r1 : inRange (p.length : Int) (sencs xs0).length = true := by rw [sencs_length, hx]; exact inR p x xs
  have hl0 := sszs_len xs0
  have hpl : p.length < xs0.length := by rw [hx]; simp
  have w1 : IntKind.i64.wrap ((p.length : Int) + 1) = (p.length : Int) + 1 := IntWalk.i64_in _ (by omega)
  have wd : IntKind.i64.wrap (d + 1) = d + 1 := IntWalk.i64_in _ (by omega)
  have lv : ∀ n bl x vs, leaveV N Lb N x vs ((Q n).app bl [] []) = bif vs.all (sf true N 4) then some (x, vs, (Q n).app [] [] []) else none := fun n bl x vs => by
    have := leave_app0 (Q n) bl [] [] x vs
    rw [hN, hL] at this
    rw [this]; rfl
  have ld : ∀ n agg sz off bl, aLoad agg sz (.ptr false N off) ((Q n).app bl [] []) = ((bl[0]?).map Blk.cs).bind (AM.part agg sz off) := fun n agg sz off bl => by
    have := load_app0 agg sz off (Q n) bl [] []
    rwa [hN] at this
  have sto : ∀ n sz off v bl, aStore N sz (.ptr false N off) v ((Q n).app bl [] []) = (ownPut bl 0 off sz v).map fun bl => (Q n).app bl [] [] := fun n sz off v bl => by
    have := store_app0 sz off v (Q n) bl [] []
    rwa [hN] at this
  have hfl : (x.flat d).length = 1 + (flats x.body (d + 1)).length + (flats x.els (d + 1)).length := by rw [S.flat_eq]; simp; omega
  have h1 : run go n 1 = bif go n then (true, n + 1) else (false, n + 1) := rfl
  have hcy : canon (.clo (.yield i) []) = .clo (.yield i) [] := rfl
  have sfy : ∀ m, sf true m 4 (.clo (.yield i) []) = true := fun m => rfl
  have hy := hr n x d [⟨x.enc, []⟩] ha hW
  rw [hfl, run_add]
  cases hg : go n with
  | false =>
    have e1 : run go n (1 + (flats x.body (d + 1)).length) = (false, n + 1) := by rw [run_add, h1, hg]; rfl
    rw [hg] at hy
    rw [e1]
    simp [S46.b0, canon_v, canon_sl, canon_clo, canon_ptr, need_refl, elems_sl, sf_v, sf_sl, sf_ptr, sf_ptrh, sf_clo, sf_dead, sf_nil, sf_full, sf_fr, need_true, ibeq, beq_ba, nbeq, nble, nblt, AM.nth, List.getD_cons_succ, List.getD_cons_zero, Option.bind_some, Option.bind_none, Option.map_some, onBool, AM.onG, onFn, seqK, retK, Ex.outOf, cond_true, cond_false, bin_lss, bin_leq, bin_gtr, bin_geq, bin_eql, bin_neq, bin_add, bin_sub, bin_mul, un_not, str_eql, str_neq, app_push, app_stk, app_tk, app_lp, load_app, load_app0, load_fp, store_app, store_app0, leave_app, leave_app0, AM.ownPut, AM.cellsOf, AM.shift, aPick, fin_v, fin_sl, beq_true, okSz, List.length_cons, List.length_nil, Nat.zero_add, Nat.add_zero, Nat.reduceAdd, decide_true, decide_false, Bool.and_true, Bool.true_and, Bool.and_self, Bool.not_true, Bool.not_false, List.getElem?_cons_zero, List.getElem?_cons_succ, List.nil_append, List.cons_append, hpp_app, hpp_stk, hpp_tk, hpp_lp, hpp_hp, app_lpadd, hload, hload0, hloadh, hstore, hstore0, hleave, hleave0, hfin_v, hfin_sl, hback, hloop, hsetlp, max_int, min_int, hstore_v, hstore_v0, hstore_s, hstore_d, modify_concat, part1, hbackt, hbackl, hback0, List.take_succ_cons, List.take_left, List.take_zero, List.take_nil, hlt, ia_31, r1, g1, S.len, S.whole, S.okc, S.can, laid0, hN, sto, ld, hy, lv, sfy]
  | true =>
    have e1 : run go n (1 + (flats x.body (d + 1)).length) = run go (n + 1) (flats x.body (d + 1)).length := by rw [run_add, h1, hg]; rfl
    rw [hg] at hy
    have hb1 := hb1 hg [⟨x.enc, []⟩]
    rw [e1] at hb2 ⊢
    cases h2 : (run go (n + 1) (flats x.body (d + 1)).length).1 with
    | false =>
      rw [h2] at hb1
      simp [S46.b0, canon_v, canon_sl, canon_clo, canon_ptr, need_refl, elems_sl, sf_v, sf_sl, sf_ptr, sf_ptrh, sf_clo, sf_dead, sf_nil, sf_full, sf_fr, need_true, ibeq, beq_ba, nbeq, nble, nblt, AM.nth, List.getD_cons_succ, List.getD_cons_zero, Option.bind_some, Option.bind_none, Option.map_some, onBool, AM.onG, onFn, seqK, retK, Ex.outOf, cond_true, cond_false, bin_lss, bin_leq, bin_gtr, bin_geq, bin_eql, bin_neq, bin_add, bin_sub, bin_mul, un_not, str_eql, str_neq, app_push, app_stk, app_tk, app_lp, load_app, load_app0, load_fp, store_app, store_app0, leave_app, leave_app0, AM.ownPut, AM.cellsOf, AM.shift, aPick, fin_v, fin_sl, beq_true, okSz, List.length_cons, List.length_nil, Nat.zero_add, Nat.add_zero, Nat.reduceAdd, decide_true, decide_false, Bool.and_true, Bool.true_and, Bool.and_self, Bool.not_true, Bool.not_false, List.getElem?_cons_zero, List.getElem?_cons_succ, List.nil_append, List.cons_append, hpp_app, hpp_stk, hpp_tk, hpp_lp, hpp_hp, app_lpadd, hload, hload0, hloadh, hstore, hstore0, hleave, hleave0, hfin_v, hfin_sl, hback, hloop, hsetlp, max_int, min_int, hstore_v, hstore_v0, hstore_s, hstore_d, modify_concat, part1, hbackt, hbackl, hback0, List.take_succ_cons, List.take_left, List.take_zero, List.take_nil, hlt, ia_31, r1, g1, S.len, S.whole, S.okc, S.can, laid0, hN, sto, ld, hy, lv, sfy, S.p54_1, wd, hcy, hb1, h2]
    | true =>
      have hb2 := hb2 h2 [⟨x.enc, []⟩]
      rw [h2, run_true h2] at hb1
      rw [run_true h2]
      cases h3 : (run go (n + 1 + (flats x.body (d + 1)).length) (flats x.els (d + 1)).length).1 with
      | false =>
        rw [h3] at hb2
        simp [S46.b0, canon_v, canon_sl, canon_clo, canon_ptr, need_refl, elems_sl, sf_v, sf_sl, sf_ptr, sf_ptrh, sf_clo, sf_dead, sf_nil, sf_full, sf_fr, need_true, ibeq, beq_ba, nbeq, nble, nblt, AM.nth, List.getD_cons_succ, List.getD_cons_zero, Option.bind_some, Option.bind_none, Option.map_some, onBool, AM.onG, onFn, seqK, retK, Ex.outOf, cond_true, cond_false, bin_lss, bin_leq, bin_gtr, bin_geq, bin_eql, bin_neq, bin_add, bin_sub, bin_mul, un_not, str_eql, str_neq, app_push, app_stk, app_tk, app_lp, load_app, load_app0, load_fp, store_app, store_app0, leave_app, leave_app0, AM.ownPut, AM.cellsOf, AM.shift, aPick, fin_v, fin_sl, beq_true, okSz, List.length_cons, List.length_nil, Nat.zero_add, Nat.add_zero, Nat.reduceAdd, decide_true, decide_false, Bool.and_true, Bool.true_and, Bool.and_self, Bool.not_true, Bool.not_false, List.getElem?_cons_zero, List.getElem?_cons_succ, List.nil_append, List.cons_append, hpp_app, hpp_stk, hpp_tk, hpp_lp, hpp_hp, app_lpadd, hload, hload0, hloadh, hstore, hstore0, hleave, hleave0, hfin_v, hfin_sl, hback, hloop, hsetlp, max_int, min_int, hstore_v, hstore_v0, hstore_s, hstore_d, modify_concat, part1, hbackt, hbackl, hback0, List.take_succ_cons, List.take_left, List.take_zero, List.take_nil, hlt, ia_31, r1, g1, S.len, S.whole, S.okc, S.can, laid0, hN, sto, ld, hy, lv, sfy, S.p54_1, wd, hcy, hb1, S.p55_1, hb2, h3]
      | true =>
        rw [h3] at hb2
        simp [S46.b0, canon_v, canon_sl, canon_clo, canon_ptr, need_refl, elems_sl, sf_v, sf_sl, sf_ptr, sf_ptrh, sf_clo, sf_dead, sf_nil, sf_full, sf_fr, need_true, ibeq, beq_ba, nbeq, nble, nblt, AM.nth, List.getD_cons_succ, List.getD_cons_zero, Option.bind_some, Option.bind_none, Option.map_some, onBool, AM.onG, onFn, seqK, retK, Ex.outOf, cond_true, cond_false, bin_lss, bin_leq, bin_gtr, bin_geq, bin_eql, bin_neq, bin_add, bin_sub, bin_mul, un_not, str_eql, str_neq, app_push, app_stk, app_tk, app_lp, load_app, load_app0, load_fp, store_app, store_app0, leave_app, leave_app0, AM.ownPut, AM.cellsOf, AM.shift, aPick, fin_v, fin_sl, beq_true, okSz, List.length_cons, List.length_nil, Nat.zero_add, Nat.add_zero, Nat.reduceAdd, decide_true, decide_false, Bool.and_true, Bool.true_and, Bool.and_self, Bool.not_true, Bool.not_false, List.getElem?_cons_zero, List.getElem?_cons_succ, List.nil_append, List.cons_append, hpp_app, hpp_stk, hpp_tk, hpp_lp, hpp_hp, app_lpadd, hload, hload0, hloadh, hstore, hstore0, hleave, hleave0, hfin_v, hfin_sl, hback, hloop, hsetlp, max_int, min_int, hstore_v, hstore_v0, hstore_s, hstore_d, modify_concat, part1, hbackt, hbackl, hback0, List.take_succ_cons, List.take_left, List.take_zero, List.take_nil, hlt, ia_31, r1, g1, S.len, S.whole, S.okc, S.can, laid0, hN, sto, ld, hy, lv, sfy, S.p54_1, wd, hcy, hb1, S.p55_1, hb2, h3, w1]

theorem get_mid {α : Type} {W a b c : List α} {n j : Nat} (h : W = a ++ b ++ c) (ha : a.length = n) (hj : j < b.length) : W[n + j]? = b[j]? := by
  subst h ha
  rw [List.append_assoc, List.getElem?_append_right (by omega), List.getElem?_append_left (by omega)]
  congr 1; omega

theorem walk_loop (N Lb : Nat) (Q : Nat → St) (hN : ∀ n, (Q n).stk.length = N) (hL : ∀ n, (Q n).lp.length = Lb) (xs0 : List S) (hb : sszs xs0 ≤ 1000000) (d : Int) (hd : 0 ≤ d) (hd2 : d ≤ 10000000)
    (hr : ∀ n x d (bl : List Blk), Alive go n → W[n]? = some (x, d) → E L (.yield i) [int d, .agg x.enc] ((Q n).app bl [] []) = some (.v (.bool (go n)), (Q (n + 1)).app bl [] []))
    (hsub : ∀ x ∈ xs0, ∀ (n : Nat) (bl : List Blk) (ys : List S), Alive go n → ys = x.body ∨ ys = x.els → (∀ j, j < (flats ys (d + 1)).length → W[n + j]? = (flats ys (d + 1))[j]?) →
      E L (.func 46) [.sl (sencs ys) .dead, int (d + 1), .clo (.yield i) []] ((Q n).app bl [] []) = some (.v (.bool (run go n (flats ys (d + 1)).length).1), (Q (run go n (flats ys (d + 1)).length).2).app bl [] [])) :
    ∀ (xs p : List S) (n : Nat), Alive go n → xs0 = p ++ xs → (∀ j, j < (flats xs d).length → W[n + j]? = (flats xs d)[j]?) →
    ∃ j : Int, itE (S46.b0 (E L) itE N Lb) [int d, .clo (.yield i) [], .v (.bool false), .sl (sencs xs0) .dead, int xs0.length, int p.length] ((Q n).app [] [] []) =
      some (bif (run go n (flats xs d).length).1 then .exit 0 else .ret, [int d, .clo (.yield i) [], .v (.bool false), .sl (sencs xs0) .dead, int xs0.length, int j], (Q (run go n (flats xs d).length).2).app [] [] [])
  | [], p, n, ha, hx, hW => by
    refine ⟨p.length, ?_⟩
    rw [itE_eq]
    have e : xs0.length = p.length := by rw [hx]; simp
    have lv : ∀ n bl x vs, leaveV N Lb N x vs ((Q n).app bl [] []) = bif vs.all (sf true N 4) then some (x, vs, (Q n).app [] [] []) else none := fun n bl x vs => by
      have := leave_app0 (Q n) bl [] [] x vs
      rw [hN, hL] at this
      rw [this]; rfl
    have sfy : ∀ m, sf true m 4 (.clo (.yield i) []) = true := fun m => rfl
    simp [S46.b0, canon_v, canon_sl, canon_clo, canon_ptr, need_refl, elems_sl, sf_v, sf_sl, sf_ptr, sf_ptrh, sf_clo, sf_dead, sf_nil, sf_full, sf_fr, need_true, ibeq, beq_ba, nbeq, nble, nblt, AM.nth, List.getD_cons_succ, List.getD_cons_zero, Option.bind_some, Option.bind_none, Option.map_some, onBool, AM.onG, onFn, seqK, retK, Ex.outOf, cond_true, cond_false, bin_lss, bin_leq, bin_gtr, bin_geq, bin_eql, bin_neq, bin_add, bin_sub, bin_mul, un_not, str_eql, str_neq, app_push, app_stk, app_tk, app_lp, load_app, load_app0, load_fp, store_app, store_app0, leave_app, leave_app0, AM.ownPut, AM.cellsOf, AM.shift, aPick, fin_v, fin_sl, beq_true, okSz, List.length_cons, List.length_nil, Nat.zero_add, Nat.add_zero, Nat.reduceAdd, decide_true, decide_false, Bool.and_true, Bool.true_and, Bool.and_self, Bool.not_true, Bool.not_false, List.getElem?_cons_zero, List.getElem?_cons_succ, List.nil_append, List.cons_append, hpp_app, hpp_stk, hpp_tk, hpp_lp, hpp_hp, app_lpadd, hload, hload0, hloadh, hstore, hstore0, hleave, hleave0, hfin_v, hfin_sl, hback, hloop, hsetlp, max_int, min_int, hstore_v, hstore_v0, hstore_s, hstore_d, modify_concat, part1, hbackt, hbackl, hback0, List.take_succ_cons, List.take_left, List.take_zero, List.take_nil, e, flats, run, hN, lv, sfy]
  | x :: xs, p, n, ha, hx, hW => by
    have hfl : x.flat d = (x, d) :: (flats x.body (d + 1) ++ flats x.els (d + 1)) := S.flat_eq x d
    have hff : flats (x :: xs) d = (x, d) :: (flats x.body (d + 1) ++ flats x.els (d + 1)) ++ flats xs d := by rw [← hfl]; rfl
    have hlen : (flats (x :: xs) d).length = (x.flat d).length + (flats xs d).length := by rw [hff, hfl]; simp; omega
    rw [hff] at hW
    have hm : x ∈ xs0 := by rw [hx]; simp
    have hst := walk_step (go := go) N 0 Lb Q hN hL xs0 hb d hd hd2 hr x xs p hx n ha (by have := hW 0 (by simp); simpa using this)
      (fun hg bl => hsub x hm (n + 1) bl x.body (Alive.run (k := 1) ha (by simp [run, hg])) (.inl rfl) fun j hj => by
        have := hW (1 + j) (by simp; omega)
        rw [← Nat.add_assoc] at this
        rw [this, show 1 + j = j + 1 by omega, List.cons_append, List.getElem?_cons_succ, List.append_assoc, List.getElem?_append_left hj])
      (fun hg bl => hsub x hm (n + 1 + (flats x.body (d + 1)).length) bl x.els (by have := Alive.run ha hg; rwa [← Nat.add_assoc] at this) (.inr rfl) fun j hj => by
        have := hW (1 + (flats x.body (d + 1)).length + j) (by simp; omega)
        rw [show n + (1 + (flats x.body (d + 1)).length + j) = n + 1 + (flats x.body (d + 1)).length + j by omega] at this
        rw [this, show 1 + (flats x.body (d + 1)).length + j = ((flats x.body (d + 1)).length + j) + 1 by omega, List.cons_append, List.getElem?_cons_succ, List.append_assoc, List.getElem?_append_right (by omega),
          show (flats x.body (d + 1)).length + j - (flats x.body (d + 1)).length = j by omega, List.getElem?_append_left hj])
    rw [hlen, run_add]
    cases h : (run go n (x.flat d).length).1 with
    | false =>
      rw [h] at hst
      refine ⟨p.length, ?_⟩
      simp only [cond_false, h] at hst ⊢
      exact it_ret hst
    | true =>
      have hal := Alive.run ha h
      rw [h, run_true h] at hst
      have ih := walk_loop N Lb Q hN hL xs0 hb d hd hd2 hr hsub xs (p ++ [x]) (n + (x.flat d).length) hal (by simp [hx]) fun j hj => by
        have := hW ((x.flat d).length + j) (by rw [← hfl]; simp; omega)
        rw [← Nat.add_assoc] at this
        rw [this, ← hfl, List.getElem?_append_right (by omega), show (x.flat d).length + j - (x.flat d).length = j by omega]
      obtain ⟨j, hj⟩ := ih
      rw [run_true h]
      refine ⟨j, ?_⟩
      simp only [cond_true]
      rw [← hj, List.length_append]
      exact it_step hst

theorem walk_ev (N T Lb : Nat) (Q : Nat → St) (hN : ∀ n, (Q n).stk.length = N) (hT : ∀ n, (Q n).tk.length = T) (hL : ∀ n, (Q n).lp.length = Lb)
    (hr : ∀ n x d (bl : List Blk), Alive go n → W[n]? = some (x, d) → E L (.yield i) [int d, .agg x.enc] ((Q n).app bl [] []) = some (.v (.bool (go n)), (Q (n + 1)).app bl [] [])) :
    ∀ (z : Nat) (xs : List S), sszs xs ≤ z → z ≤ 1000000 → ∀ (d : Int), 0 ≤ d → d + z ≤ 10000000 → ∀ (n : Nat) (bl : List Blk), Alive go n → (∀ j, j < (flats xs d).length → W[n + j]? = (flats xs d)[j]?) →
      E L (.func 46) [.sl (sencs xs) .dead, int d, .clo (.yield i) []] ((Q n).app bl [] []) = some (.v (.bool (run go n (flats xs d).length).1), (Q (run go n (flats xs d).length).2).app bl [] []) := by
  intro z
  induction z with
  | zero =>
    intro xs h hn d h1 h2 n bl ha hW
    exact one xs 0 h hn d h1 h2 n bl ha hW (fun x hx => by have := sszs_mem hx; have := S.sz_eq x; omega)
  | succ z ih =>
    intro xs h hn d h1 h2 n bl ha hW
    refine one xs (z + 1) h hn d h1 h2 n bl ha hW fun x hx m bl ys ha hy hw => ?_
    have := sszs_mem hx
    have hz := S.sz_eq x
    rcases hy with rfl | rfl
    · exact ih x.body (by omega) (by omega) (d + 1) (by omega) (by omega) m bl ha hw
    · exact ih x.els (by omega) (by omega) (d + 1) (by omega) (by omega) m bl ha hw
where
  one (xs : List S) (z : Nat) (h : sszs xs ≤ z) (hn : z ≤ 1000000) (d : Int) (h1 : 0 ≤ d) (h2 : d + z ≤ 10000000) (n : Nat) (bl : List Blk) (ha : Alive go n) (hW : ∀ j, j < (flats xs d).length → W[n + j]? = (flats xs d)[j]?)
      (hsub : ∀ x ∈ xs, ∀ (n : Nat) (bl : List Blk) (ys : List S), Alive go n → ys = x.body ∨ ys = x.els → (∀ j, j < (flats ys (d + 1)).length → W[n + j]? = (flats ys (d + 1))[j]?) →
        E L (.func 46) [.sl (sencs ys) .dead, int (d + 1), .clo (.yield i) []] ((Q n).app bl [] []) = some (.v (.bool (run go n (flats ys (d + 1)).length).1), (Q (run go n (flats ys (d + 1)).length).2).app bl [] [])) :
      E L (.func 46) [.sl (sencs xs) .dead, int d, .clo (.yield i) []] ((Q n).app bl [] []) = some (.v (.bool (run go n (flats xs d).length).1), (Q (run go n (flats xs d).length).2).app bl [] []) := by
    have aa : ∀ n (b2 : List Blk), ((Q n).app bl [] []).app b2 [] [] = (Q n).app (bl ++ b2) [] [] := fun n b2 => by simp [St.app]
    obtain ⟨j, hj⟩ := walk_loop (W := W) (i := i) (go := go) (N + bl.length) Lb (fun n => (Q n).app bl [] []) (fun n => by rw [app_stk, hN]) (fun n => by rw [app_lp, hL]; rfl) xs (by omega) d h1 (by omega)
      (fun n x d b2 ha hw => by rw [aa, aa]; exact hr n x d (bl ++ b2) ha hw)
      (fun x hx n b2 ys ha hy hw => by rw [aa, aa]; exact hsub x hx n (bl ++ b2) ys ha hy hw) xs [] n ha rfl hW
    have f0 : ∀ n x, fin (N + bl.length) T Lb [.v x] ((Q n).app bl [] []) = some (.v x, (Q n).app bl [] []) := fun n x => by
      have := fin_v ((Q n).app bl [] []) [] [] [] x
      rw [app_stk, app_tk, app_lp, hN, hT, hL, aa] at this
      simpa using this
    rw [S46_eq]
    simp only [S46, app_stk, app_tk, app_lp, hN, hT, hL, len_31, sencs_length, Option.bind_some, List.length_nil, Nat.add_zero]
    simp only [aa, List.append_nil, List.length_nil, Int.natCast_zero] at hj
    rw [hj]
    cases h : (run go n (flats xs d).length).1 with
    | true => simp [canon_v, canon_sl, canon_clo, canon_ptr, need_refl, elems_sl, sf_v, sf_sl, sf_ptr, sf_ptrh, sf_clo, sf_dead, sf_nil, sf_full, sf_fr, need_true, ibeq, beq_ba, nbeq, nble, nblt, AM.nth, List.getD_cons_succ, List.getD_cons_zero, Option.bind_some, Option.bind_none, Option.map_some, onBool, AM.onG, onFn, seqK, retK, Ex.outOf, cond_true, cond_false, bin_lss, bin_leq, bin_gtr, bin_geq, bin_eql, bin_neq, bin_add, bin_sub, bin_mul, un_not, str_eql, str_neq, app_push, app_stk, app_tk, app_lp, load_app, load_app0, load_fp, store_app, store_app0, leave_app, leave_app0, AM.ownPut, AM.cellsOf, AM.shift, aPick, fin_v, fin_sl, beq_true, okSz, List.length_cons, List.length_nil, Nat.zero_add, Nat.add_zero, Nat.reduceAdd, decide_true, decide_false, Bool.and_true, Bool.true_and, Bool.and_self, Bool.not_true, Bool.not_false, List.getElem?_cons_zero, List.getElem?_cons_succ, List.nil_append, List.cons_append, hpp_app, hpp_stk, hpp_tk, hpp_lp, hpp_hp, app_lpadd, hload, hload0, hloadh, hstore, hstore0, hleave, hleave0, hfin_v, hfin_sl, hback, hloop, hsetlp, max_int, min_int, hstore_v, hstore_v0, hstore_s, hstore_d, modify_concat, part1, hbackt, hbackl, hback0, List.take_succ_cons, List.take_left, List.take_zero, List.take_nil, f0]
    | false => simp [canon_v, canon_sl, canon_clo, canon_ptr, need_refl, elems_sl, sf_v, sf_sl, sf_ptr, sf_ptrh, sf_clo, sf_dead, sf_nil, sf_full, sf_fr, need_true, ibeq, beq_ba, nbeq, nble, nblt, AM.nth, List.getD_cons_succ, List.getD_cons_zero, Option.bind_some, Option.bind_none, Option.map_some, onBool, AM.onG, onFn, seqK, retK, Ex.outOf, cond_true, cond_false, bin_lss, bin_leq, bin_gtr, bin_geq, bin_eql, bin_neq, bin_add, bin_sub, bin_mul, un_not, str_eql, str_neq, app_push, app_stk, app_tk, app_lp, load_app, load_app0, load_fp, store_app, store_app0, leave_app, leave_app0, AM.ownPut, AM.cellsOf, AM.shift, aPick, fin_v, fin_sl, beq_true, okSz, List.length_cons, List.length_nil, Nat.zero_add, Nat.add_zero, Nat.reduceAdd, decide_true, decide_false, Bool.and_true, Bool.true_and, Bool.and_self, Bool.not_true, Bool.not_false, List.getElem?_cons_zero, List.getElem?_cons_succ, List.nil_append, List.cons_append, hpp_app, hpp_stk, hpp_tk, hpp_lp, hpp_hp, app_lpadd, hload, hload0, hloadh, hstore, hstore0, hleave, hleave0, hfin_v, hfin_sl, hback, hloop, hsetlp, max_int, min_int, hstore_v, hstore_v0, hstore_s, hstore_d, modify_concat, part1, hbackt, hbackl, hback0, List.take_succ_cons, List.take_left, List.take_zero, List.take_nil, f0]
end
end Go.Proofs.Ytkbhejcfejembaa.S
