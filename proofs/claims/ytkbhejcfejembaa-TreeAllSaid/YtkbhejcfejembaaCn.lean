/- Trees: Count. No condition. -/
import Derived.Test.YtkbhejcfejembaaGn
set_option linter.all false
namespace Go.Proofs.Ytkbhejcfejembaa.S
open Go Go.AM Go.Proofs
set_option linter.unusedVariables false
set_option linter.unusedSimpArgs false

structure Fu where
  mk ::
  name : ByteArray
  params : List (List PV)
  body : List S
  line : Int
  col : Int
structure Th where
  mk ::
  body : List S
  line : Int
  col : Int
structure Pg where
  mk ::
  recs : List (List PV)
  globals : List (List PV)
  funs : List Fu
  threads : List Th
def Fu.enc (f : Fu) : List PV := [str f.name, .sl f.params .dead, .sl (sencs f.body) .dead, int f.line, int f.col]
def Th.enc (t : Th) : List PV := [.sl (sencs t.body) .dead, int t.line, int t.col]
def Pg.enc (p : Pg) : List PV := [.sl p.recs .dead, .sl p.globals .dead, .sl (p.funs.map Fu.enc) .dead, .sl (p.threads.map Th.enc) .dead]
def rowsE (l : List (List S)) : List (List PV) := l.map fun b => [.sl (sencs b) .dead]
theorem rowsE_len (l : List (List S)) : (rowsE l).length = l.length := List.length_map ..
theorem rowsE_ok (l : List (List S)) : okSz 1 (rowsE l) = true := okSz_map (fun b => [.sl (sencs b) .dead]) (fun _ => rfl) l
theorem rowsE_app (l m : List (List S)) : rowsE l ++ rowsE m = rowsE (l ++ m) := (List.map_append ..).symm
theorem map_get {α : Type} (f : α → List PV) (p : List α) (x : α) (xs : List α) : ((p ++ x :: xs).map f)[p.length]? = some (f x) := by simp

theorem bodies_loop0 (s : St) (pb : Blk) (hpb : pb.cs.all (sf true (s.stk.length + 1) 4) = true) (xs0 : List Fu) (hb : xs0.length ≤ 100000) : ∀ (xs p : List Fu) (acc : List (List S)) (c : Cap) (tk : List (Nat × Nat)), xs0 = p ++ xs → acc.length + xs.length ≤ 1000000 → Own s tk c (rowsE acc).length 1 →
    ∃ vs c' tk', itE (S42.b0 (E L) itE s.stk.length s.lp.length) [.ptr false s.stk.length 0, .sl (rowsE acc) c, .sl (xs0.map Fu.enc) .dead, int xs0.length, int p.length] (s.app [pb] tk []) =
      some (.exit 0, .ptr false s.stk.length 0 :: .sl (rowsE (acc ++ xs.map Fu.body)) c' :: vs, s.app [pb] tk' []) ∧ Own s tk' c' (rowsE (acc ++ xs.map Fu.body)).length 1
  | [], p, acc, c, tk, hx, ha, ho => by
    have e : xs0.length = p.length := by rw [hx]; simp
    refine ⟨[.sl (xs0.map Fu.enc) .dead, int xs0.length, int p.length], c, tk, ?_, by simpa using ho⟩
    rw [itE_eq]
    simp [S42.b0, canon_v, canon_sl, canon_clo, canon_ptr, need_refl, elems_sl, sf_v, sf_sl, sf_ptr, sf_ptrh, sf_clo, sf_dead, sf_nil, sf_full, sf_fr, need_true, ibeq, beq_ba, nbeq, nble, nblt, AM.nth, List.getD_cons_succ, List.getD_cons_zero, Option.bind_some, Option.bind_none, Option.map_some, onBool, AM.onG, onFn, seqK, retK, Ex.outOf, cond_true, cond_false, bin_lss, bin_leq, bin_gtr, bin_geq, bin_eql, bin_neq, bin_add, bin_sub, bin_mul, un_not, str_eql, str_neq, app_push, app_stk, app_tk, app_lp, load_app, load_app0, load_fp, store_app, store_app0, leave_app, leave_app0, AM.ownPut, AM.cellsOf, AM.shift, aPick, fin_v, fin_sl, beq_true, okSz, List.length_cons, List.length_nil, Nat.zero_add, Nat.add_zero, Nat.reduceAdd, decide_true, decide_false, Bool.and_true, Bool.true_and, Bool.and_self, Bool.not_true, Bool.not_false, List.getElem?_cons_zero, List.getElem?_cons_succ, List.nil_append, List.cons_append, hpp_app, hpp_stk, hpp_tk, hpp_lp, hpp_hp, app_lpadd, hload, hload0, hloadh, hstore, hstore0, hleave, hleave0, hfin_v, hfin_sl, hback, hloop, hsetlp, max_int, min_int, hstore_v, hstore_v0, hstore_s, hstore_d, modify_concat, part1, hbackt, hbackl, hback0, List.take_succ_cons, List.take_left, List.take_zero, List.take_nil, e, ho.sfc, hpb]
  | x :: xs, p, acc, c, tk, hx, ha, ho => by
    have hlt : (p.length : Int) < (xs0.length : Int) := by rw [hx]; simp; omega
    have g1 : (xs0.map Fu.enc)[p.length]? = some x.enc := by rw [hx]; exact map_get _ p x xs
    have r1 : inRange (p.length : Int) xs0.length = true := by rw [hx]; exact inR p x xs
    have hpl : p.length < xs0.length := by rw [hx]; simp
    have w1 : IntKind.i64.wrap ((p.length : Int) + 1) = (p.length : Int) + 1 := IntWalk.i64_in _ (by omega)
    obtain ⟨c1, tk1, e1, o1⟩ := app_own (ys := rowsE [x.body]) (bytes := 24) ho (by simp only [rowsE_len, maxLenB, List.length_cons] at ha ⊢; simp; omega) (rowsE_ok _) (rowsE_ok _) (by decide) (by decide)
    rw [rowsE_app] at e1 o1
    obtain ⟨vs, c2, tk2, h2, o2⟩ := bodies_loop0 s pb hpb xs0 hb xs (p ++ [x]) (acc ++ [x.body]) c1 tk1 (by simp [hx]) (by simp at ha ⊢; omega) o1
    have bb : rBuildSlice 1 [.sl [] .nil] 1 [(0, .sl (sencs x.body) .dead)] = some (.sl (rowsE [x.body]) .full) := rfl
    have whole : AM.part true 5 0 x.enc = some (.agg x.enc) := rfl
    have p2 : AM.part false 1 2 x.enc = some (.sl (sencs x.body) .dead) := rfl
    have hl : x.enc.length = 5 := rfl
    have hok : okCells x.enc = true := rfl
    refine ⟨vs, c2, tk2, ?_, by simpa using o2⟩
    rw [show acc ++ (x :: xs).map Fu.body = acc ++ [x.body] ++ xs.map Fu.body by simp, ← h2]
    refine it_step ?_
    generalize acc ++ [x.body] = acc' at e1 o1
    simp [S42.b0, canon_v, canon_sl, canon_clo, canon_ptr, need_refl, elems_sl, sf_v, sf_sl, sf_ptr, sf_ptrh, sf_clo, sf_dead, sf_nil, sf_full, sf_fr, need_true, ibeq, beq_ba, nbeq, nble, nblt, AM.nth, List.getD_cons_succ, List.getD_cons_zero, Option.bind_some, Option.bind_none, Option.map_some, onBool, AM.onG, onFn, seqK, retK, Ex.outOf, cond_true, cond_false, bin_lss, bin_leq, bin_gtr, bin_geq, bin_eql, bin_neq, bin_add, bin_sub, bin_mul, un_not, str_eql, str_neq, app_push, app_stk, app_tk, app_lp, load_app, load_app0, load_fp, store_app, store_app0, leave_app, leave_app0, AM.ownPut, AM.cellsOf, AM.shift, aPick, fin_v, fin_sl, beq_true, okSz, List.length_cons, List.length_nil, Nat.zero_add, Nat.add_zero, Nat.reduceAdd, decide_true, decide_false, Bool.and_true, Bool.true_and, Bool.and_self, Bool.not_true, Bool.not_false, List.getElem?_cons_zero, List.getElem?_cons_succ, List.nil_append, List.cons_append, hpp_app, hpp_stk, hpp_tk, hpp_lp, hpp_hp, app_lpadd, hload, hload0, hloadh, hstore, hstore0, hleave, hleave0, hfin_v, hfin_sl, hback, hloop, hsetlp, max_int, min_int, hstore_v, hstore_v0, hstore_s, hstore_d, modify_concat, part1, hbackt, hbackl, hback0, List.take_succ_cons, List.take_left, List.take_zero, List.take_nil, hlt, ia_26, r1, g1, hl, whole, hok, laid0, p2, bb, e1, w1, o1.sfc, hpb]
theorem bodies_loop1 (s : St) (pb : Blk) (hpb : pb.cs.all (sf true (s.stk.length + 1) 4) = true) (xs0 : List Th) (hb : xs0.length ≤ 100000) : ∀ (xs p : List Th) (acc : List (List S)) (c : Cap) (tk : List (Nat × Nat)), xs0 = p ++ xs → acc.length + xs.length ≤ 1000000 → Own s tk c (rowsE acc).length 1 →
    ∃ vs c' tk', itE (S42.b1 (E L) itE s.stk.length s.lp.length) [.sl (rowsE acc) c, .sl (xs0.map Th.enc) .dead, int xs0.length, int p.length] (s.app [pb] tk []) =
      some (.exit 2, .sl (rowsE (acc ++ xs.map Th.body)) c' :: vs, s.app [pb] tk' [])
  | [], p, acc, c, tk, hx, ha, ho => by
    have e : xs0.length = p.length := by rw [hx]; simp
    refine ⟨[.sl (xs0.map Th.enc) .dead, int xs0.length, int p.length], c, tk, ?_⟩
    rw [itE_eq]
    simp [S42.b1, canon_v, canon_sl, canon_clo, canon_ptr, need_refl, elems_sl, sf_v, sf_sl, sf_ptr, sf_ptrh, sf_clo, sf_dead, sf_nil, sf_full, sf_fr, need_true, ibeq, beq_ba, nbeq, nble, nblt, AM.nth, List.getD_cons_succ, List.getD_cons_zero, Option.bind_some, Option.bind_none, Option.map_some, onBool, AM.onG, onFn, seqK, retK, Ex.outOf, cond_true, cond_false, bin_lss, bin_leq, bin_gtr, bin_geq, bin_eql, bin_neq, bin_add, bin_sub, bin_mul, un_not, str_eql, str_neq, app_push, app_stk, app_tk, app_lp, load_app, load_app0, load_fp, store_app, store_app0, leave_app, leave_app0, AM.ownPut, AM.cellsOf, AM.shift, aPick, fin_v, fin_sl, beq_true, okSz, List.length_cons, List.length_nil, Nat.zero_add, Nat.add_zero, Nat.reduceAdd, decide_true, decide_false, Bool.and_true, Bool.true_and, Bool.and_self, Bool.not_true, Bool.not_false, List.getElem?_cons_zero, List.getElem?_cons_succ, List.nil_append, List.cons_append, hpp_app, hpp_stk, hpp_tk, hpp_lp, hpp_hp, app_lpadd, hload, hload0, hloadh, hstore, hstore0, hleave, hleave0, hfin_v, hfin_sl, hback, hloop, hsetlp, max_int, min_int, hstore_v, hstore_v0, hstore_s, hstore_d, modify_concat, part1, hbackt, hbackl, hback0, List.take_succ_cons, List.take_left, List.take_zero, List.take_nil, e, ho.sfc, hpb]
  | x :: xs, p, acc, c, tk, hx, ha, ho => by
    have hlt : (p.length : Int) < (xs0.length : Int) := by rw [hx]; simp; omega
    have g1 : (xs0.map Th.enc)[p.length]? = some x.enc := by rw [hx]; exact map_get _ p x xs
    have r1 : inRange (p.length : Int) xs0.length = true := by rw [hx]; exact inR p x xs
    have hpl : p.length < xs0.length := by rw [hx]; simp
    have w1 : IntKind.i64.wrap ((p.length : Int) + 1) = (p.length : Int) + 1 := IntWalk.i64_in _ (by omega)
    obtain ⟨c1, tk1, e1, o1⟩ := app_own (ys := rowsE [x.body]) (bytes := 24) ho (by simp only [rowsE_len, maxLenB, List.length_cons] at ha ⊢; simp; omega) (rowsE_ok _) (rowsE_ok _) (by decide) (by decide)
    rw [rowsE_app] at e1 o1
    obtain ⟨vs, c2, tk2, h2⟩ := bodies_loop1 s pb hpb xs0 hb xs (p ++ [x]) (acc ++ [x.body]) c1 tk1 (by simp [hx]) (by simp at ha ⊢; omega) o1
    have bb : rBuildSlice 1 [.sl [] .nil] 1 [(0, .sl (sencs x.body) .dead)] = some (.sl (rowsE [x.body]) .full) := rfl
    have whole : AM.part true 3 0 x.enc = some (.agg x.enc) := rfl
    have p2 : AM.part false 1 0 x.enc = some (.sl (sencs x.body) .dead) := rfl
    have hl : x.enc.length = 3 := rfl
    have hok : okCells x.enc = true := rfl
    refine ⟨vs, c2, tk2, ?_⟩
    rw [show acc ++ (x :: xs).map Th.body = acc ++ [x.body] ++ xs.map Th.body by simp, ← h2]
    refine it_step ?_
    generalize acc ++ [x.body] = acc' at e1 o1
    simp [S42.b1, canon_v, canon_sl, canon_clo, canon_ptr, need_refl, elems_sl, sf_v, sf_sl, sf_ptr, sf_ptrh, sf_clo, sf_dead, sf_nil, sf_full, sf_fr, need_true, ibeq, beq_ba, nbeq, nble, nblt, AM.nth, List.getD_cons_succ, List.getD_cons_zero, Option.bind_some, Option.bind_none, Option.map_some, onBool, AM.onG, onFn, seqK, retK, Ex.outOf, cond_true, cond_false, bin_lss, bin_leq, bin_gtr, bin_geq, bin_eql, bin_neq, bin_add, bin_sub, bin_mul, un_not, str_eql, str_neq, app_push, app_stk, app_tk, app_lp, load_app, load_app0, load_fp, store_app, store_app0, leave_app, leave_app0, AM.ownPut, AM.cellsOf, AM.shift, aPick, fin_v, fin_sl, beq_true, okSz, List.length_cons, List.length_nil, Nat.zero_add, Nat.add_zero, Nat.reduceAdd, decide_true, decide_false, Bool.and_true, Bool.true_and, Bool.and_self, Bool.not_true, Bool.not_false, List.getElem?_cons_zero, List.getElem?_cons_succ, List.nil_append, List.cons_append, hpp_app, hpp_stk, hpp_tk, hpp_lp, hpp_hp, app_lpadd, hload, hload0, hloadh, hstore, hstore0, hleave, hleave0, hfin_v, hfin_sl, hback, hloop, hsetlp, max_int, min_int, hstore_v, hstore_v0, hstore_s, hstore_d, modify_concat, part1, hbackt, hbackl, hback0, List.take_succ_cons, List.take_left, List.take_zero, List.take_nil, hlt, ia_27, r1, g1, hl, whole, hok, laid0, p2, bb, e1, w1, o1.sfc, hpb]
def Pg.bodies (p : Pg) : List (List S) := p.funs.map Fu.body ++ p.threads.map Th.body
theorem bodies_ev (p : Pg) (h1 : p.funs.length ≤ 1000) (h2 : p.threads.length ≤ 1000) (st : St) : E L (.func 42) [.agg p.enc] st = some (.sl (rowsE p.bodies) .dead, st) := by
  obtain ⟨s, rfl⟩ : ∃ s : St, st = s.app [] [] [] := ⟨st, (app_nil st).symm⟩
  have hpb : (⟨p.enc, []⟩ : Blk).cs.all (sf true (s.stk.length + 1) 4) = true := rfl
  obtain ⟨vs, c', tk', e1, o1⟩ := bodies_loop0 s ⟨p.enc, []⟩ hpb p.funs (by omega) p.funs [] [] .nil [] rfl (by simp; omega) (Own.nil ..)
  obtain ⟨vs2, c2, tk2, e2⟩ := bodies_loop1 s ⟨p.enc, []⟩ hpb p.threads (by omega) p.threads [] ([] ++ p.funs.map Fu.body) c' tk' rfl (by simp; omega) o1
  rw [S42_eq]
  have q2 : AM.part false 1 2 p.enc = some (.sl (p.funs.map Fu.enc) .dead) := rfl
  have q3 : AM.part false 1 3 p.enc = some (.sl (p.threads.map Th.enc) .dead) := rfl
  have e0 : rowsE [] = [] := rfl
  simp [e0] at e1
  simp at e2
  simp [S42, canon_v, canon_sl, canon_clo, canon_ptr, need_refl, elems_sl, sf_v, sf_sl, sf_ptr, sf_ptrh, sf_clo, sf_dead, sf_nil, sf_full, sf_fr, need_true, ibeq, beq_ba, nbeq, nble, nblt, AM.nth, List.getD_cons_succ, List.getD_cons_zero, Option.bind_some, Option.bind_none, Option.map_some, onBool, AM.onG, onFn, seqK, retK, Ex.outOf, cond_true, cond_false, bin_lss, bin_leq, bin_gtr, bin_geq, bin_eql, bin_neq, bin_add, bin_sub, bin_mul, un_not, str_eql, str_neq, app_push, app_stk, app_tk, app_lp, load_app, load_app0, load_fp, store_app, store_app0, leave_app, leave_app0, AM.ownPut, AM.cellsOf, AM.shift, aPick, fin_v, fin_sl, beq_true, okSz, List.length_cons, List.length_nil, Nat.zero_add, Nat.add_zero, Nat.reduceAdd, decide_true, decide_false, Bool.and_true, Bool.true_and, Bool.and_self, Bool.not_true, Bool.not_false, List.getElem?_cons_zero, List.getElem?_cons_succ, List.nil_append, List.cons_append, hpp_app, hpp_stk, hpp_tk, hpp_lp, hpp_hp, app_lpadd, hload, hload0, hloadh, hstore, hstore0, hleave, hleave0, hfin_v, hfin_sl, hback, hloop, hsetlp, max_int, min_int, hstore_v, hstore_v0, hstore_s, hstore_d, modify_concat, part1, hbackt, hbackl, hback0, List.take_succ_cons, List.take_left, List.take_zero, List.take_nil, q2, len_26, e1, q3, len_27, e2, Pg.bodies]
end Go.Proofs.Ytkbhejcfejembaa.S
