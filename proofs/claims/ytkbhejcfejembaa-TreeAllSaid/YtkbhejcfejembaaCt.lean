/- Trees: Count. No condition. -/
import Derived.Test.YtkbhejcfejembaaCn
set_option linter.all false
namespace Go.Proofs.Ytkbhejcfejembaa.S
open Go Go.AM Go.Proofs
set_option linter.unusedVariables false
set_option linter.unusedSimpArgs false

def mx (W : List (S × Int)) (m : Int) : Int := W.foldl (fun m y => if y.2 > m then y.2 else m) m
theorem run_all (k : Nat) : ∀ n, run (fun _ => true) n k = (true, n + k) := by
  induction k with
  | zero => exact fun n => rfl
  | succ k ih => exact fun n => by simp only [run, cond_true, ih]; congr 1; omega
section
variable (s : St) (hs : List Blk) (pb : Blk) (c : Nat) (m : Int) (W : List (S × Int))
noncomputable def cst (n : Nat) : St := (s.hpp hs).app [pb, ⟨[int (c + n : Nat)], []⟩, ⟨[int (mx (W.take n) m)], []⟩] [] [.loop (S21.lp0 [.ptr false (s.stk.length + 1) 0, .ptr false (s.stk.length + 2) 0])]
theorem count_rnd (hl : c + W.length ≤ 1000000) (n : Nat) (x : S) (d : Int) (bl : List Blk) (h : W[n]? = some (x, d)) :
    E L (.yield s.lp.length) [int d, .agg x.enc] ((cst s hs pb c m W n).app bl [] []) = some (.v (.bool true), (cst s hs pb c m W (n + 1)).app bl [] []) := by
  have hlt : n < W.length := (List.getElem?_eq_some_iff.1 h).1
  have hst : ∀ n bl, (cst s hs pb c m W n).app bl [] [] = (s.hpp hs).app (pb :: ⟨[int (c + n : Nat)], []⟩ :: ⟨[int (mx (W.take n) m)], []⟩ :: bl) [] [.loop (S21.lp0 [.ptr false (s.stk.length + 1) 0, .ptr false (s.stk.length + 2) 0])] := fun n bl => by simp [cst, St.app]
  have hw1 : IntKind.i64.wrap (((c + n : Nat) : Int) + 1) = ((c + (n + 1) : Nat) : Int) := by rw [IntWalk.i64_in _ (by omega)]; rfl
  have hm : mx (W.take (n + 1)) m = if d > mx (W.take n) m then d else mx (W.take n) m := by
    rw [List.take_add_one, h, mx, List.foldl_append]; rfl
  rw [hst, hst, S21.r0_eq (hloop ..), hm]
  generalize mx (W.take n) m = k
  generalize ((c + n : Nat) : Int) = a at hw1
  generalize ((c + (n + 1) : Nat) : Int) = b at hw1
  simp [S21.r0, canon_v, canon_sl, canon_clo, canon_ptr, need_refl, elems_sl, sf_v, sf_sl, sf_ptr, sf_ptrh, sf_clo, sf_dead, sf_nil, sf_full, sf_fr, need_true, ibeq, beq_ba, nbeq, nble, nblt, AM.nth, List.getD_cons_succ, List.getD_cons_zero, Option.bind_some, Option.bind_none, Option.map_some, onBool, AM.onG, onFn, seqK, retK, Ex.outOf, cond_true, cond_false, bin_lss, bin_leq, bin_gtr, bin_geq, bin_eql, bin_neq, bin_add, bin_sub, bin_mul, un_not, str_eql, str_neq, app_push, app_stk, app_tk, app_lp, load_app, load_app0, load_fp, store_app, store_app0, leave_app, leave_app0, AM.ownPut, AM.cellsOf, AM.shift, aPick, fin_v, fin_sl, beq_true, okSz, List.length_cons, List.length_nil, Nat.zero_add, Nat.add_zero, Nat.reduceAdd, decide_true, decide_false, Bool.and_true, Bool.true_and, Bool.and_self, Bool.not_true, Bool.not_false, List.getElem?_cons_zero, List.getElem?_cons_succ, List.nil_append, List.cons_append, hpp_app, hpp_stk, hpp_tk, hpp_lp, hpp_hp, app_lpadd, hload, hload0, hloadh, hstore, hstore0, hleave, hleave0, hfin_v, hfin_sl, hback, hloop, hsetlp, max_int, min_int, hstore_v, hstore_v0, hstore_s, hstore_d, modify_concat, part1, hbackt, hbackl, hback0, List.take_succ_cons, List.take_left, List.take_zero, List.take_nil, okCells, laid, beginR, finR, isNormal, S21.lp0, hw1]
end
def tot (l : List (List S)) : Nat := (l.map fun b => (flats b 0).length).sum
def mxs (l : List (List S)) (m : Int) : Int := l.foldl (fun m b => mx (flats b 0) m) m
theorem count_loop (s : St) (pb : Blk) (R : List (List S)) (hR : R.length ≤ 10000) (hz : ∀ b ∈ R, sszs b ≤ 100000) : ∀ (xs p : List (List S)) (hs : List Blk) (c : Nat) (m : Int), R = p ++ xs → c + tot xs ≤ 1000000 →
    ∃ j hs', itE (S21.b0 (E L) itE s.stk.length s.lp.length) [.ptr false (s.stk.length + 1) 0, .ptr false (s.stk.length + 2) 0, .sl (rowsE R) .dead, int R.length, int p.length] ((s.hpp hs).app [pb, ⟨[int c], []⟩, ⟨[int m], []⟩] [] []) =
      some (.exit 0, [.ptr false (s.stk.length + 1) 0, .ptr false (s.stk.length + 2) 0, .sl (rowsE R) .dead, int R.length, int j], (s.hpp hs').app [pb, ⟨[int (c + tot xs : Nat)], []⟩, ⟨[int (mxs xs m)], []⟩] [] [])
  | [], p, hs, c, m, hx, hb => by
    have e : R.length = p.length := by rw [hx]; simp
    refine ⟨p.length, hs, ?_⟩
    rw [itE_eq]
    simp [S21.b0, canon_v, canon_sl, canon_clo, canon_ptr, need_refl, elems_sl, sf_v, sf_sl, sf_ptr, sf_ptrh, sf_clo, sf_dead, sf_nil, sf_full, sf_fr, need_true, ibeq, beq_ba, nbeq, nble, nblt, AM.nth, List.getD_cons_succ, List.getD_cons_zero, Option.bind_some, Option.bind_none, Option.map_some, onBool, AM.onG, onFn, seqK, retK, Ex.outOf, cond_true, cond_false, bin_lss, bin_leq, bin_gtr, bin_geq, bin_eql, bin_neq, bin_add, bin_sub, bin_mul, un_not, str_eql, str_neq, app_push, app_stk, app_tk, app_lp, load_app, load_app0, load_fp, store_app, store_app0, leave_app, leave_app0, AM.ownPut, AM.cellsOf, AM.shift, aPick, fin_v, fin_sl, beq_true, okSz, List.length_cons, List.length_nil, Nat.zero_add, Nat.add_zero, Nat.reduceAdd, decide_true, decide_false, Bool.and_true, Bool.true_and, Bool.and_self, Bool.not_true, Bool.not_false, List.getElem?_cons_zero, List.getElem?_cons_succ, List.nil_append, List.cons_append, hpp_app, hpp_stk, hpp_tk, hpp_lp, hpp_hp, app_lpadd, hload, hload0, hloadh, hstore, hstore0, hleave, hleave0, hfin_v, hfin_sl, hback, hloop, hsetlp, max_int, min_int, hstore_v, hstore_v0, hstore_s, hstore_d, modify_concat, part1, hbackt, hbackl, hback0, List.take_succ_cons, List.take_left, List.take_zero, List.take_nil, e, tot, mxs]
  | x :: xs, p, hs, c, m, hx, hb => by
    have hlt : (p.length : Int) < (R.length : Int) := by rw [hx]; simp; omega
    have g1 : (rowsE R)[p.length]? = some [.sl (sencs x) .dead] := by rw [hx]; exact map_get _ p x xs
    have r1 : inRange (p.length : Int) R.length = true := by rw [hx]; exact inR p x xs
    have hpl : p.length < R.length := by rw [hx]; simp
    have w1 : IntKind.i64.wrap ((p.length : Int) + 1) = (p.length : Int) + 1 := IntWalk.i64_in _ (by omega)
    have hzx := hz x (by rw [hx]; simp)
    have hl := flats_len x 0
    have htot : tot (x :: xs) = (flats x 0).length + tot xs := by simp [tot]
    have hmxs : mxs (x :: xs) m = mxs xs (mx (flats x 0) m) := rfl
    let hs' := hs ++ [⟨[.sl (sencs x) .dead], []⟩]
    obtain ⟨j, hs2, ih⟩ := count_loop s pb R hR hz xs (p ++ [x]) hs' (c + (flats x 0).length) (mx (flats x 0) m) (by simp [hx]) (by omega)
    refine ⟨j, hs2, ?_⟩
    rw [htot, hmxs, ← Nat.add_assoc, ← ih]
    refine it_step ?_
    have hw := walk_ev (W := flats x 0) (i := s.lp.length) (go := fun _ => true) (s.stk.length + 3) s.tk.length (s.lp.length + 1) (cst s hs' pb c m (flats x 0))
      (fun n => by simp [cst, app_stk, hpp_stk]) (fun n => by simp [cst, app_tk, hpp_tk]) (fun n => by simp [cst, app_lp, hpp_lp]) (fun n x' d bl _ h => count_rnd s hs' pb c m _ (by omega) n x' d bl h)
      1000000 x (by omega) (Nat.le_refl _) 0 (Int.le_refl _) (by omega) 0 [] (fun m hm => absurd hm (Nat.not_lt_zero _)) (fun j hj => by rw [Nat.zero_add])
    rw [run_all, Nat.zero_add] at hw
    have h45 := all1_ev (st := cst s hs' pb c m (flats x 0) 0) (b := s.hp.length + hs.length) (i := s.lp.length) (xs := x) (by rw [cst, hpp_blk]; simp [hs']) (by simpa [app_nil] using hw) (by simp [cst, app_stk, hpp_stk]) (by simp [cst, app_tk, hpp_tk]) (by simp [cst, app_lp, hpp_lp])
    simp only [cst, hs', List.take_zero, List.take_length, Nat.add_zero] at h45
    have hall := all_ev x
    have e0 : mx [] m = m := rfl
    rw [e0] at h45
    simp [S21.b0, canon_v, canon_sl, canon_clo, canon_ptr, need_refl, elems_sl, sf_v, sf_sl, sf_ptr, sf_ptrh, sf_clo, sf_dead, sf_nil, sf_full, sf_fr, need_true, ibeq, beq_ba, nbeq, nble, nblt, AM.nth, List.getD_cons_succ, List.getD_cons_zero, Option.bind_some, Option.bind_none, Option.map_some, onBool, AM.onG, onFn, seqK, retK, Ex.outOf, cond_true, cond_false, bin_lss, bin_leq, bin_gtr, bin_geq, bin_eql, bin_neq, bin_add, bin_sub, bin_mul, un_not, str_eql, str_neq, app_push, app_stk, app_tk, app_lp, load_app, load_app0, load_fp, store_app, store_app0, leave_app, leave_app0, AM.ownPut, AM.cellsOf, AM.shift, aPick, fin_v, fin_sl, beq_true, okSz, List.length_cons, List.length_nil, Nat.zero_add, Nat.add_zero, Nat.reduceAdd, decide_true, decide_false, Bool.and_true, Bool.true_and, Bool.and_self, Bool.not_true, Bool.not_false, List.getElem?_cons_zero, List.getElem?_cons_succ, List.nil_append, List.cons_append, hpp_app, hpp_stk, hpp_tk, hpp_lp, hpp_hp, app_lpadd, hload, hload0, hloadh, hstore, hstore0, hleave, hleave0, hfin_v, hfin_sl, hback, hloop, hsetlp, max_int, min_int, hstore_v, hstore_v0, hstore_s, hstore_d, modify_concat, part1, hbackt, hbackl, hback0, List.take_succ_cons, List.take_left, List.take_zero, List.take_nil, hlt, ia_61, rowsE_len, r1, g1, hall, plainFn]
    rw [h45]
    simp [canon_v, canon_sl, canon_clo, canon_ptr, need_refl, elems_sl, sf_v, sf_sl, sf_ptr, sf_ptrh, sf_clo, sf_dead, sf_nil, sf_full, sf_fr, need_true, ibeq, beq_ba, nbeq, nble, nblt, AM.nth, List.getD_cons_succ, List.getD_cons_zero, Option.bind_some, Option.bind_none, Option.map_some, onBool, AM.onG, onFn, seqK, retK, Ex.outOf, cond_true, cond_false, bin_lss, bin_leq, bin_gtr, bin_geq, bin_eql, bin_neq, bin_add, bin_sub, bin_mul, un_not, str_eql, str_neq, app_push, app_stk, app_tk, app_lp, load_app, load_app0, load_fp, store_app, store_app0, leave_app, leave_app0, AM.ownPut, AM.cellsOf, AM.shift, aPick, fin_v, fin_sl, beq_true, okSz, List.length_cons, List.length_nil, Nat.zero_add, Nat.add_zero, Nat.reduceAdd, decide_true, decide_false, Bool.and_true, Bool.true_and, Bool.and_self, Bool.not_true, Bool.not_false, List.getElem?_cons_zero, List.getElem?_cons_succ, List.nil_append, List.cons_append, hpp_app, hpp_stk, hpp_tk, hpp_lp, hpp_hp, app_lpadd, hload, hload0, hloadh, hstore, hstore0, hleave, hleave0, hfin_v, hfin_sl, hback, hloop, hsetlp, max_int, min_int, hstore_v, hstore_v0, hstore_s, hstore_d, modify_concat, part1, hbackt, hbackl, hback0, List.take_succ_cons, List.take_left, List.take_zero, List.take_nil, endLp, S21.lp0, w1, hs']

theorem count_ev (p : Pg) (h1 : p.funs.length ≤ 1000) (h2 : p.threads.length ≤ 1000) (hz : ∀ b ∈ p.bodies, sszs b ≤ 100000) (ht : tot p.bodies ≤ 1000000) (s : St) (hs : List Blk) :
    ∃ hs', E L (.func 21) [.agg p.enc] ((s.hpp hs).app [] [] []) = some (.tup [int (tot p.bodies : Nat), int (mxs p.bodies (-1))], (s.hpp hs').app [] [] []) := by
  obtain ⟨j, hs', hl⟩ := count_loop s ⟨p.enc, []⟩ p.bodies (by simp [Pg.bodies]; omega) hz p.bodies [] hs 0 (-1) rfl (by omega)
  refine ⟨hs', ?_⟩
  have hbo := bodies_ev p h1 h2
  have whole : AM.part true 4 0 p.enc = some (.agg p.enc) := rfl
  have hcan : canon (.agg p.enc) = .agg p.enc := rfl
  rw [S21_eq]
  simp at hl
  simp [S21, canon_v, canon_sl, canon_clo, canon_ptr, need_refl, elems_sl, sf_v, sf_sl, sf_ptr, sf_ptrh, sf_clo, sf_dead, sf_nil, sf_full, sf_fr, need_true, ibeq, beq_ba, nbeq, nble, nblt, AM.nth, List.getD_cons_succ, List.getD_cons_zero, Option.bind_some, Option.bind_none, Option.map_some, onBool, AM.onG, onFn, seqK, retK, Ex.outOf, cond_true, cond_false, bin_lss, bin_leq, bin_gtr, bin_geq, bin_eql, bin_neq, bin_add, bin_sub, bin_mul, un_not, str_eql, str_neq, app_push, app_stk, app_tk, app_lp, load_app, load_app0, load_fp, store_app, store_app0, leave_app, leave_app0, AM.ownPut, AM.cellsOf, AM.shift, aPick, fin_v, fin_sl, beq_true, okSz, List.length_cons, List.length_nil, Nat.zero_add, Nat.add_zero, Nat.reduceAdd, decide_true, decide_false, Bool.and_true, Bool.true_and, Bool.and_self, Bool.not_true, Bool.not_false, List.getElem?_cons_zero, List.getElem?_cons_succ, List.nil_append, List.cons_append, hpp_app, hpp_stk, hpp_tk, hpp_lp, hpp_hp, app_lpadd, hload, hload0, hloadh, hstore, hstore0, hleave, hleave0, hfin_v, hfin_sl, hback, hloop, hsetlp, max_int, min_int, hstore_v, hstore_v0, hstore_s, hstore_d, modify_concat, part1, hbackt, hbackl, hback0, List.take_succ_cons, List.take_left, List.take_zero, List.take_nil, okCells, laid, whole, hcan, hbo, len_61, rowsE_len]
  rw [hl]
  simp [canon_v, canon_sl, canon_clo, canon_ptr, need_refl, elems_sl, sf_v, sf_sl, sf_ptr, sf_ptrh, sf_clo, sf_dead, sf_nil, sf_full, sf_fr, need_true, ibeq, beq_ba, nbeq, nble, nblt, AM.nth, List.getD_cons_succ, List.getD_cons_zero, Option.bind_some, Option.bind_none, Option.map_some, onBool, AM.onG, onFn, seqK, retK, Ex.outOf, cond_true, cond_false, bin_lss, bin_leq, bin_gtr, bin_geq, bin_eql, bin_neq, bin_add, bin_sub, bin_mul, un_not, str_eql, str_neq, app_push, app_stk, app_tk, app_lp, load_app, load_app0, load_fp, store_app, store_app0, leave_app, leave_app0, AM.ownPut, AM.cellsOf, AM.shift, aPick, fin_v, fin_sl, beq_true, okSz, List.length_cons, List.length_nil, Nat.zero_add, Nat.add_zero, Nat.reduceAdd, decide_true, decide_false, Bool.and_true, Bool.true_and, Bool.and_self, Bool.not_true, Bool.not_false, List.getElem?_cons_zero, List.getElem?_cons_succ, List.nil_append, List.cons_append, hpp_app, hpp_stk, hpp_tk, hpp_lp, hpp_hp, app_lpadd, hload, hload0, hloadh, hstore, hstore0, hleave, hleave0, hfin_v, hfin_sl, hback, hloop, hsetlp, max_int, min_int, hstore_v, hstore_v0, hstore_s, hstore_d, modify_concat, part1, hbackt, hbackl, hback0, List.take_succ_cons, List.take_left, List.take_zero, List.take_nil, hfin_tup, flatC, canonC]
end Go.Proofs.Ytkbhejcfejembaa.S
