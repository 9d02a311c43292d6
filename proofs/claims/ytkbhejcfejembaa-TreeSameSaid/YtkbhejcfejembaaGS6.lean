/- Trees: the reference's texts of places and statements, and when two texts are the same. No condition. -/
import Derived.Test.YtkbhejcfejembaaGS5
set_option linter.all false
namespace Go.Proofs.Ytkbhejcfejembaa.S
open Go Go.AM Go.Proofs
set_option linter.unusedVariables false
set_option linter.unusedSimpArgs false

def Pl.tx (p : Pl) : List ByteArray := [⟨#[112, 108, 97, 99, 101]⟩, numT p.op, p.base, p.field] ++ p.index.text
theorem Pl.tx_len (p : Pl) : p.tx.length = 4 + 8 * p.index.sz := by simp [Pl.tx, X.text_len]; omega
theorem place_ev (p : Pl) (h : p.index.sz ≤ 1000000) (st : St) : E L (.func 39) [.agg p.enc] st = some (.sl (strs p.tx) .dead, st) := by
  have he := expr_ev p.index.sz p.index (Nat.le_refl _) h
  obtain ⟨s, rfl⟩ : ∃ s : St, st = s.app [] [] [] := ⟨st, (app_nil st).symm⟩
  have hx := X.text_len p.index
  obtain ⟨c1, tk1, e1, o1⟩ := app_own (s := s) (tk := []) (es := strs [⟨#[112, 108, 97, 99, 101]⟩, numT p.op, p.base, p.field]) (ys := strs p.index.text) (bytes := 16) (Own.full ..) (by simp only [strs_len, maxLenB, List.length_cons, List.length_nil]; omega) (strs_ok _) (strs_ok _) (by decide) (by decide)
  rw [S39_eq]
  simp [strs] at e1
  simp [S39, canon_v, canon_sl, canon_clo, canon_ptr, need_refl, elems_sl, sf_v, sf_sl, sf_ptr, sf_ptrh, sf_clo, sf_dead, sf_nil, sf_full, sf_fr, need_true, ibeq, beq_ba, nbeq, nble, nblt, AM.nth, List.getD_cons_succ, List.getD_cons_zero, Option.bind_some, Option.bind_none, Option.map_some, onBool, AM.onG, onFn, seqK, retK, Ex.outOf, cond_true, cond_false, bin_lss, bin_leq, bin_gtr, bin_geq, bin_eql, bin_neq, bin_add, bin_sub, bin_mul, un_not, str_eql, str_neq, app_push, app_stk, app_tk, app_lp, load_app, load_app0, load_fp, store_app, store_app0, leave_app, leave_app0, AM.ownPut, AM.cellsOf, AM.shift, aPick, fin_v, fin_sl, beq_true, okSz, List.length_cons, List.length_nil, Nat.zero_add, Nat.add_zero, Nat.reduceAdd, decide_true, decide_false, Bool.and_true, Bool.true_and, Bool.and_self, Bool.not_true, Bool.not_false, List.getElem?_cons_zero, List.getElem?_cons_succ, List.nil_append, List.cons_append, hpp_app, hpp_stk, hpp_tk, hpp_lp, hpp_hp, app_lpadd, hload, hload0, hloadh, hstore, hstore0, hleave, hleave0, hfin_v, hfin_sl, hback, hloop, hsetlp, max_int, min_int, hstore_v, hstore_v0, hstore_s, hstore_d, modify_concat, part1, hbackt, hbackl, hback0, List.take_succ_cons, List.take_left, List.take_zero, List.take_nil, Pl.p0_1, Pl.p1_1, Pl.p2_1, Pl.p3_9a, X.can, he, text_ev, rBuildSlice, rLit, fillP, reps, laid, plainCs, plainC, chunks, strs, e1, Pl.tx]

mutual
def S.tx : S → List ByteArray
  | ⟨op, name, right, place, e, n, args, body, els, _, _⟩ => [⟨#[115, 116, 109, 116]⟩, numT op, name, numT n, numT right.op, right.name, numT args.length] ++ right.e.text ++ right.place.tx ++ place.tx ++ e.text ++ xtexts args ++ ([⟨#[114, 111, 119]⟩, numT body.length] ++ stxs body) ++ ([⟨#[114, 111, 119]⟩, numT els.length] ++ stxs els)
def stxs : List S → List ByteArray
  | [] => []
  | x :: xs => x.tx ++ stxs xs
end
def rowT (xs : List S) : List ByteArray := [⟨#[114, 111, 119]⟩, numT xs.length] ++ stxs xs
def S.hd (x : S) : List ByteArray := [⟨#[115, 116, 109, 116]⟩, numT x.op, x.name, numT x.n, numT x.right.op, x.right.name, numT x.args.length]
theorem S.tx_eq (x : S) : x.tx = x.hd ++ x.right.e.text ++ x.right.place.tx ++ x.place.tx ++ x.e.text ++ xtexts x.args ++ rowT x.body ++ rowT x.els := by
  cases x; simp only [S.tx]; rfl
mutual
theorem S.tx_len : ∀ x : S, x.tx.length ≤ 40 * x.sz
  | ⟨op, name, right, place, e, n, args, body, els, _, _⟩ => by
    have := stxs_len body
    have := stxs_len els
    simp [S.tx, S.sz, X.text_len, xtexts_len, Pl.tx_len, *]; omega
theorem stxs_len : ∀ xs : List S, (stxs xs).length ≤ 40 * sszs xs
  | [] => by simp [stxs, sszs]
  | x :: xs => by
    have := stxs_len xs
    have := S.tx_len x
    simp [stxs, sszs]; omega
end

theorem args_loop (s : St) (b : Blk) (xs0 : List X) (hb : szs xs0 ≤ 1000000) (hbk : b.cs.all (sf true (s.stk.length + 1) 4) = true) (L0 : List (List PV)) (n0 i0 : Int) : ∀ (xs p : List X) (acc : List ByteArray) (c : Cap) (tk : List (Nat × Nat)), xs0 = p ++ xs → acc.length + 8 * szs xs ≤ 100000000 → Own s tk c (strs acc).length 1 →
    ∃ j c' tk', itE (S15.b1 (E L) itE s.stk.length s.lp.length) [.sl (strs acc) c, .ptr false s.stk.length 0, .sl L0 .dead, int n0, int i0, .sl (encs xs0) .dead, int xs0.length, int p.length] (s.app [b] tk []) =
      some (.exit 2, [.sl (strs (acc ++ xtexts xs)) c', .ptr false s.stk.length 0, .sl L0 .dead, int n0, int i0, .sl (encs xs0) .dead, int xs0.length, int j], s.app [b] tk' []) ∧ Own s tk' c' (strs (acc ++ xtexts xs)).length 1
  | [], p, acc, c, tk, hx, ha, ho => by
    have e : xs0.length = p.length := by rw [hx]; simp
    refine ⟨p.length, c, tk, ?_, by simpa [xtexts] using ho⟩
    rw [itE_eq]
    simp [S15.b1, canon_v, canon_sl, canon_clo, canon_ptr, need_refl, elems_sl, sf_v, sf_sl, sf_ptr, sf_ptrh, sf_clo, sf_dead, sf_nil, sf_full, sf_fr, need_true, ibeq, beq_ba, nbeq, nble, nblt, AM.nth, List.getD_cons_succ, List.getD_cons_zero, Option.bind_some, Option.bind_none, Option.map_some, onBool, AM.onG, onFn, seqK, retK, Ex.outOf, cond_true, cond_false, bin_lss, bin_leq, bin_gtr, bin_geq, bin_eql, bin_neq, bin_add, bin_sub, bin_mul, un_not, str_eql, str_neq, app_push, app_stk, app_tk, app_lp, load_app, load_app0, load_fp, store_app, store_app0, leave_app, leave_app0, AM.ownPut, AM.cellsOf, AM.shift, aPick, fin_v, fin_sl, beq_true, okSz, List.length_cons, List.length_nil, Nat.zero_add, Nat.add_zero, Nat.reduceAdd, decide_true, decide_false, Bool.and_true, Bool.true_and, Bool.and_self, Bool.not_true, Bool.not_false, List.getElem?_cons_zero, List.getElem?_cons_succ, List.nil_append, List.cons_append, hpp_app, hpp_stk, hpp_tk, hpp_lp, hpp_hp, app_lpadd, hload, hload0, hloadh, hstore, hstore0, hleave, hleave0, hfin_v, hfin_sl, hback, hloop, hsetlp, max_int, min_int, hstore_v, hstore_v0, hstore_s, hstore_d, modify_concat, part1, hbackt, hbackl, hback0, List.take_succ_cons, List.take_left, List.take_zero, List.take_nil, e, xtexts, ho.sfc, hbk]
  | x :: xs, p, acc, c, tk, hx, ha, ho => by
    have hlt : (p.length : Int) < (xs0.length : Int) := by rw [hx]; simp; omega
    have g1 : (encs xs0)[p.length]? = some x.enc := by rw [hx]; exact encs_get p x xs
    have r1 : inRange (p.length : Int) (encs xs0).length = true := by rw [encs_length, hx]; exact inR p x xs
    have hl0 := szs_len xs0
    have hs0 : szs xs0 = szs p + (x.sz + szs xs) := by rw [hx, szs_app]; rfl
    have hpl : p.length < xs0.length := by rw [hx]; simp
    have w1 : IntKind.i64.wrap ((p.length : Int) + 1) = (p.length : Int) + 1 := IntWalk.i64_in _ (by omega)
    have hc := expr_ev x.sz x (Nat.le_refl _) (by omega)
    have hxl := X.text_len x
    have hsx : szs (x :: xs) = x.sz + szs xs := rfl
    obtain ⟨c1, tk1, e1, o1⟩ := app_own (ys := strs x.text) (bytes := 16) ho (by simp only [strs_len, maxLenB]; omega) (strs_ok _) (strs_ok _) (by decide) (by decide)
    rw [strs_app] at e1 o1
    obtain ⟨j, c2, tk2, h2, o2⟩ := args_loop s b xs0 hb hbk L0 n0 i0 xs (p ++ [x]) (acc ++ x.text) c1 tk1 (by simp [hx]) (by rw [List.length_append]; omega) o1
    rw [show xtexts (x :: xs) = x.text ++ xtexts xs from rfl, ← List.append_assoc]
    refine ⟨j, c2, tk2, ?_, o2⟩
    rw [← h2]
    refine it_step ?_
    simp [S15.b1, canon_v, canon_sl, canon_clo, canon_ptr, need_refl, elems_sl, sf_v, sf_sl, sf_ptr, sf_ptrh, sf_clo, sf_dead, sf_nil, sf_full, sf_fr, need_true, ibeq, beq_ba, nbeq, nble, nblt, AM.nth, List.getD_cons_succ, List.getD_cons_zero, Option.bind_some, Option.bind_none, Option.map_some, onBool, AM.onG, onFn, seqK, retK, Ex.outOf, cond_true, cond_false, bin_lss, bin_leq, bin_gtr, bin_geq, bin_eql, bin_neq, bin_add, bin_sub, bin_mul, un_not, str_eql, str_neq, app_push, app_stk, app_tk, app_lp, load_app, load_app0, load_fp, store_app, store_app0, leave_app, leave_app0, AM.ownPut, AM.cellsOf, AM.shift, aPick, fin_v, fin_sl, beq_true, okSz, List.length_cons, List.length_nil, Nat.zero_add, Nat.add_zero, Nat.reduceAdd, decide_true, decide_false, Bool.and_true, Bool.true_and, Bool.and_self, Bool.not_true, Bool.not_false, List.getElem?_cons_zero, List.getElem?_cons_succ, List.nil_append, List.cons_append, hpp_app, hpp_stk, hpp_tk, hpp_lp, hpp_hp, app_lpadd, hload, hload0, hloadh, hstore, hstore0, hleave, hleave0, hfin_v, hfin_sl, hback, hloop, hsetlp, max_int, min_int, hstore_v, hstore_v0, hstore_s, hstore_d, modify_concat, part1, hbackt, hbackl, hback0, List.take_succ_cons, List.take_left, List.take_zero, List.take_nil, hlt, ia_41, r1, g1, X.len, X.whole, X.okc, X.can, laid0, hc, e1, w1, o1.sfc, hbk]

theorem stxs_app1 : ∀ (p : List S) (x : S), stxs (p ++ [x]) = stxs p ++ x.tx
  | [], x => by simp [stxs]
  | y :: ys, x => by simp [stxs, stxs_app1 ys x]
theorem sszs_app : ∀ xs ys : List S, sszs (xs ++ ys) = sszs xs + sszs ys
  | [], ys => by simp [sszs]
  | x :: xs, ys => by simp [sszs, sszs_app xs ys]; omega

set_option maxHeartbeats 4000000 in
theorem stmts_loop (s : St) (xs0 : List S) (hb : sszs xs0 ≤ 1000000) : ∀ (xs p : List S) (acc : List ByteArray) (c : Cap) (tk : List (Nat × Nat)), xs0 = p ++ xs → acc.length = 2 + (stxs p).length → Own s tk c (strs acc).length 1 →
    (∀ x ∈ xs, ∀ (st : St), E L (.func 15) [.sl (sencs x.body) .dead] st = some (.sl (strs (rowT x.body)) .dead, st) ∧ E L (.func 15) [.sl (sencs x.els) .dead] st = some (.sl (strs (rowT x.els)) .dead, st)) →
    ∃ vs c' tk', itE (S15.b0 (E L) itE s.stk.length s.lp.length) [.sl (strs acc) c, .sl (sencs xs0) .dead, int xs0.length, int p.length] (s.app [] tk []) =
      some (.exit 0, .sl (strs (acc ++ stxs xs)) c' :: vs, s.app [] tk' [])
  | [], p, acc, c, tk, hx, ha, ho, hf => by
    have e : xs0.length = p.length := by rw [hx]; simp
    refine ⟨[.sl (sencs xs0) .dead, int xs0.length, int p.length], c, tk, ?_⟩
    rw [itE_eq]
    simp [S15.b0, canon_v, canon_sl, canon_clo, canon_ptr, need_refl, elems_sl, sf_v, sf_sl, sf_ptr, sf_ptrh, sf_clo, sf_dead, sf_nil, sf_full, sf_fr, need_true, ibeq, beq_ba, nbeq, nble, nblt, AM.nth, List.getD_cons_succ, List.getD_cons_zero, Option.bind_some, Option.bind_none, Option.map_some, onBool, AM.onG, onFn, seqK, retK, Ex.outOf, cond_true, cond_false, bin_lss, bin_leq, bin_gtr, bin_geq, bin_eql, bin_neq, bin_add, bin_sub, bin_mul, un_not, str_eql, str_neq, app_push, app_stk, app_tk, app_lp, load_app, load_app0, load_fp, store_app, store_app0, leave_app, leave_app0, AM.ownPut, AM.cellsOf, AM.shift, aPick, fin_v, fin_sl, beq_true, okSz, List.length_cons, List.length_nil, Nat.zero_add, Nat.add_zero, Nat.reduceAdd, decide_true, decide_false, Bool.and_true, Bool.true_and, Bool.and_self, Bool.not_true, Bool.not_false, List.getElem?_cons_zero, List.getElem?_cons_succ, List.nil_append, List.cons_append, hpp_app, hpp_stk, hpp_tk, hpp_lp, hpp_hp, app_lpadd, hload, hload0, hloadh, hstore, hstore0, hleave, hleave0, hfin_v, hfin_sl, hback, hloop, hsetlp, max_int, min_int, hstore_v, hstore_v0, hstore_s, hstore_d, modify_concat, part1, hbackt, hbackl, hback0, List.take_succ_cons, List.take_left, List.take_zero, List.take_nil, e, stxs, ho.sfc]
  | x :: xs, p, acc, c, tk, hx, ha, ho, hf => by
    have hlt : (p.length : Int) < (xs0.length : Int) := by rw [hx]; simp; omega
    have g1 : (sencs xs0)[p.length]? = some x.enc := by rw [hx]; exact sencs_get p x xs
    have r1 : inRange (p.length : Int) (sencs xs0).length = true := by rw [sencs_length, hx]; exact inR p x xs
    have hl0 := sszs_len xs0
    have hs0 : sszs xs0 = sszs p + (x.sz + sszs xs) := by rw [hx, sszs_app]; rfl
    have hpl : p.length < xs0.length := by rw [hx]; simp
    have w1 : IntKind.i64.wrap ((p.length : Int) + 1) = (p.length : Int) + 1 := IntWalk.i64_in _ (by omega)
    have hxl := S.tx_len x
    have hxp := stxs_len p
    have hz := S.sz_eq x
    have q1 := expr_ev _ x.right.e (Nat.le_refl _) (by omega)
    have q2 := place_ev x.right.place (by omega)
    have q3 := place_ev x.place (by omega)
    have q4 := expr_ev _ x.e (Nat.le_refl _) (by omega)
    have l1 := X.text_len x.right.e
    have l2 := Pl.tx_len x.right.place
    have l3 := Pl.tx_len x.place
    have l4 := X.text_len x.e
    have l5 := xtexts_len x.args
    have l6 : (rowT x.body).length = 2 + (stxs x.body).length := by simp [rowT]; omega
    have l7 : (rowT x.els).length = 2 + (stxs x.els).length := by simp [rowT]; omega
    have l8 := stxs_len x.body
    have l9 := stxs_len x.els
    have l0 : x.hd.length = 7 := rfl
    obtain ⟨c1, tk1, e1, o1⟩ := app_own (ys := strs x.hd) (bytes := 16) ho (by simp only [strs_len, maxLenB]; omega) (strs_ok _) (strs_ok _) (by decide) (by decide)
    rw [strs_app] at e1 o1
    generalize hA1 : acc ++ x.hd = A1 at e1 o1
    have m1 := congrArg List.length hA1
    rw [List.length_append] at m1
    obtain ⟨c2, tk2, e2, o2⟩ := app_own (ys := strs x.right.e.text) (bytes := 16) o1 (by simp only [strs_len, maxLenB]; omega) (strs_ok _) (strs_ok _) (by decide) (by decide)
    rw [strs_app] at e2 o2
    generalize hA2 : A1 ++ x.right.e.text = A2 at e2 o2
    have m2 := congrArg List.length hA2
    rw [List.length_append] at m2
    obtain ⟨c3, tk3, e3, o3⟩ := app_own (ys := strs x.right.place.tx) (bytes := 16) o2 (by simp only [strs_len, maxLenB]; omega) (strs_ok _) (strs_ok _) (by decide) (by decide)
    rw [strs_app] at e3 o3
    generalize hA3 : A2 ++ x.right.place.tx = A3 at e3 o3
    have m3 := congrArg List.length hA3
    rw [List.length_append] at m3
    obtain ⟨c4, tk4, e4, o4⟩ := app_own (ys := strs x.place.tx) (bytes := 16) o3 (by simp only [strs_len, maxLenB]; omega) (strs_ok _) (strs_ok _) (by decide) (by decide)
    rw [strs_app] at e4 o4
    generalize hA4 : A3 ++ x.place.tx = A4 at e4 o4
    have m4 := congrArg List.length hA4
    rw [List.length_append] at m4
    obtain ⟨c5, tk5, e5, o5⟩ := app_own (ys := strs x.e.text) (bytes := 16) o4 (by simp only [strs_len, maxLenB]; omega) (strs_ok _) (strs_ok _) (by decide) (by decide)
    rw [strs_app] at e5 o5
    generalize hA5 : A4 ++ x.e.text = A5 at e5 o5
    have m5 := congrArg List.length hA5
    rw [List.length_append] at m5
    obtain ⟨j, c6, tk6, h6, o6⟩ := args_loop s ⟨x.enc, []⟩ x.args (by omega) (S.sf4 ..) (sencs xs0) xs0.length p.length x.args [] _ c5 tk5 rfl (by omega) o5
    generalize hA6 : A5 ++ xtexts x.args = A6 at h6 o6
    have m6 := congrArg List.length hA6
    rw [List.length_append] at m6
    obtain ⟨c7, tk7, e7, o7⟩ := app_own (ys := strs (rowT x.body)) (bytes := 16) o6 (by simp only [strs_len, maxLenB]; omega) (strs_ok _) (strs_ok _) (by decide) (by decide)
    rw [strs_app] at e7 o7
    generalize hA7 : A6 ++ rowT x.body = A7 at e7 o7
    have m7 := congrArg List.length hA7
    rw [List.length_append] at m7
    obtain ⟨c8, tk8, e8, o8⟩ := app_own (ys := strs (rowT x.els)) (bytes := 16) o7 (by simp only [strs_len, maxLenB]; omega) (strs_ok _) (strs_ok _) (by decide) (by decide)
    rw [strs_app] at e8 o8
    have etx : A7 ++ rowT x.els = acc ++ x.tx := by rw [S.tx_eq, ← hA7, ← hA6, ← hA5, ← hA4, ← hA3, ← hA2, ← hA1]; simp only [List.append_assoc]
    generalize hA8 : A7 ++ rowT x.els = A8 at e8 o8 etx
    have hstx := stxs_app1 p x
    obtain ⟨vs, c9, tk9, h9⟩ := stmts_loop s xs0 hb xs (p ++ [x]) A8 c8 tk8 (by simp [hx]) (by rw [etx, hstx, List.length_append, List.length_append]; omega) o8 fun z hz => hf z (List.mem_cons_of_mem _ hz)
    refine ⟨vs, c9, tk9, ?_⟩
    rw [show stxs (x :: xs) = x.tx ++ stxs xs from rfl, ← List.append_assoc, ← etx, ← h9]
    refine it_step ?_
    have hhd : [[str ⟨#[115, 116, 109, 116]⟩], [str (numT x.op)], [str x.name], [str (numT x.n)], [str (numT x.right.op)], [str x.right.name], [str (numT x.args.length)]] = strs x.hd := rfl
    have hb1 := fun st => (hf x List.mem_cons_self st).1
    have hb2 := fun st => (hf x List.mem_cons_self st).2
    clear hf h9 hz hs0 l0 l1 l2 l3 l4 l5 l6 l7 l8 l9 hxl hxp
    simp [S15.b0, canon_v, canon_sl, canon_clo, canon_ptr, need_refl, elems_sl, sf_v, sf_sl, sf_ptr, sf_ptrh, sf_clo, sf_dead, sf_nil, sf_full, sf_fr, need_true, ibeq, beq_ba, nbeq, nble, nblt, AM.nth, List.getD_cons_succ, List.getD_cons_zero, Option.bind_some, Option.bind_none, Option.map_some, onBool, AM.onG, onFn, seqK, retK, Ex.outOf, cond_true, cond_false, bin_lss, bin_leq, bin_gtr, bin_geq, bin_eql, bin_neq, bin_add, bin_sub, bin_mul, un_not, str_eql, str_neq, app_push, app_stk, app_tk, app_lp, load_app, load_app0, load_fp, store_app, store_app0, leave_app, leave_app0, AM.ownPut, AM.cellsOf, AM.shift, aPick, fin_v, fin_sl, beq_true, okSz, List.length_cons, List.length_nil, Nat.zero_add, Nat.add_zero, Nat.reduceAdd, decide_true, decide_false, Bool.and_true, Bool.true_and, Bool.and_self, Bool.not_true, Bool.not_false, List.getElem?_cons_zero, List.getElem?_cons_succ, List.nil_append, List.cons_append, hpp_app, hpp_stk, hpp_tk, hpp_lp, hpp_hp, app_lpadd, hload, hload0, hloadh, hstore, hstore0, hleave, hleave0, hfin_v, hfin_sl, hback, hloop, hsetlp, max_int, min_int, hstore_v, hstore_v0, hstore_s, hstore_d, modify_concat, part1, hbackt, hbackl, hback0, List.take_succ_cons, List.take_left, List.take_zero, List.take_nil, hlt, ia_31, r1, g1, S.len, S.whole, S.okc, laid0, S.p0_1, S.p1_1, S.p52_1, S.p2_1, S.p26_1, S.p53_1, text_ev, len_41, encs_length, rBuildSlice, rLit, fillP, reps, laid, plainCs, plainC, chunks, hhd, e1, S.p3_9a, X.can, q1, e2, S.p12_14a, Pl.can, q2, e3, S.p29_14a, q3, e4, S.p43_9a, q4, e5]
    simp at h6
    simp [h6, canon_v, canon_sl, canon_clo, canon_ptr, need_refl, elems_sl, sf_v, sf_sl, sf_ptr, sf_ptrh, sf_clo, sf_dead, sf_nil, sf_full, sf_fr, need_true, ibeq, beq_ba, nbeq, nble, nblt, AM.nth, List.getD_cons_succ, List.getD_cons_zero, Option.bind_some, Option.bind_none, Option.map_some, onBool, AM.onG, onFn, seqK, retK, Ex.outOf, cond_true, cond_false, bin_lss, bin_leq, bin_gtr, bin_geq, bin_eql, bin_neq, bin_add, bin_sub, bin_mul, un_not, str_eql, str_neq, app_push, app_stk, app_tk, app_lp, load_app, load_app0, load_fp, store_app, store_app0, leave_app, leave_app0, AM.ownPut, AM.cellsOf, AM.shift, aPick, fin_v, fin_sl, beq_true, okSz, List.length_cons, List.length_nil, Nat.zero_add, Nat.add_zero, Nat.reduceAdd, decide_true, decide_false, Bool.and_true, Bool.true_and, Bool.and_self, Bool.not_true, Bool.not_false, List.getElem?_cons_zero, List.getElem?_cons_succ, List.nil_append, List.cons_append, hpp_app, hpp_stk, hpp_tk, hpp_lp, hpp_hp, app_lpadd, hload, hload0, hloadh, hstore, hstore0, hleave, hleave0, hfin_v, hfin_sl, hback, hloop, hsetlp, max_int, min_int, hstore_v, hstore_v0, hstore_s, hstore_d, modify_concat, part1, hbackt, hbackl, hback0, List.take_succ_cons, List.take_left, List.take_zero, List.take_nil, S.p54_1, hb1, e7, S.p55_1, hb2, e8, w1, o8.sfc]

theorem rowT_len (xs : List S) : (rowT xs).length = 2 + (stxs xs).length := by simp [rowT]; omega
theorem row_ev : ∀ (n : Nat) (xs : List S), sszs xs ≤ n → n ≤ 1000000 → ∀ st : St, E L (.func 15) [.sl (sencs xs) .dead] st = some (.sl (strs (rowT xs)) .dead, st) := by
  intro n
  induction n with
  | zero => exact fun xs h hn st => row0 xs 0 h hn (fun x hx => by have := sszs_mem hx; have := S.sz_eq x; omega) st
  | succ n ih => exact fun xs h hn st => row0 xs (n + 1) h hn (fun x hx => by
      have := sszs_mem hx
      have hz := S.sz_eq x
      exact fun st => ⟨ih x.body (by omega) (by omega) st, ih x.els (by omega) (by omega) st⟩) st
where
  row0 (xs : List S) (n : Nat) (h : sszs xs ≤ n) (hn : n ≤ 1000000) (hf : ∀ x ∈ xs, ∀ (st : St), E L (.func 15) [.sl (sencs x.body) .dead] st = some (.sl (strs (rowT x.body)) .dead, st) ∧ E L (.func 15) [.sl (sencs x.els) .dead] st = some (.sl (strs (rowT x.els)) .dead, st)) (st : St) :
      E L (.func 15) [.sl (sencs xs) .dead] st = some (.sl (strs (rowT xs)) .dead, st) := by
    obtain ⟨s, rfl⟩ : ∃ s : St, st = s.app [] [] [] := ⟨st, (app_nil st).symm⟩
    obtain ⟨vs, c', tk', hl⟩ := stmts_loop s xs (by omega) xs [] [⟨#[114, 111, 119]⟩, numT xs.length] .full [] rfl rfl (Own.full ..) hf
    rw [S15_eq]
    simp [S15, canon_v, canon_sl, canon_clo, canon_ptr, need_refl, elems_sl, sf_v, sf_sl, sf_ptr, sf_ptrh, sf_clo, sf_dead, sf_nil, sf_full, sf_fr, need_true, ibeq, beq_ba, nbeq, nble, nblt, AM.nth, List.getD_cons_succ, List.getD_cons_zero, Option.bind_some, Option.bind_none, Option.map_some, onBool, AM.onG, onFn, seqK, retK, Ex.outOf, cond_true, cond_false, bin_lss, bin_leq, bin_gtr, bin_geq, bin_eql, bin_neq, bin_add, bin_sub, bin_mul, un_not, str_eql, str_neq, app_push, app_stk, app_tk, app_lp, load_app, load_app0, load_fp, store_app, store_app0, leave_app, leave_app0, AM.ownPut, AM.cellsOf, AM.shift, aPick, fin_v, fin_sl, beq_true, okSz, List.length_cons, List.length_nil, Nat.zero_add, Nat.add_zero, Nat.reduceAdd, decide_true, decide_false, Bool.and_true, Bool.true_and, Bool.and_self, Bool.not_true, Bool.not_false, List.getElem?_cons_zero, List.getElem?_cons_succ, List.nil_append, List.cons_append, hpp_app, hpp_stk, hpp_tk, hpp_lp, hpp_hp, app_lpadd, hload, hload0, hloadh, hstore, hstore0, hleave, hleave0, hfin_v, hfin_sl, hback, hloop, hsetlp, max_int, min_int, hstore_v, hstore_v0, hstore_s, hstore_d, modify_concat, part1, hbackt, hbackl, hback0, List.take_succ_cons, List.take_left, List.take_zero, List.take_nil, text_ev, len_31, sencs_length, rBuildSlice, rLit, fillP, reps, laid, plainCs, plainC, chunks]
    simp [strs] at hl
    rw [hl]
    simp [canon_v, canon_sl, canon_clo, canon_ptr, need_refl, elems_sl, sf_v, sf_sl, sf_ptr, sf_ptrh, sf_clo, sf_dead, sf_nil, sf_full, sf_fr, need_true, ibeq, beq_ba, nbeq, nble, nblt, AM.nth, List.getD_cons_succ, List.getD_cons_zero, Option.bind_some, Option.bind_none, Option.map_some, onBool, AM.onG, onFn, seqK, retK, Ex.outOf, cond_true, cond_false, bin_lss, bin_leq, bin_gtr, bin_geq, bin_eql, bin_neq, bin_add, bin_sub, bin_mul, un_not, str_eql, str_neq, app_push, app_stk, app_tk, app_lp, load_app, load_app0, load_fp, store_app, store_app0, leave_app, leave_app0, AM.ownPut, AM.cellsOf, AM.shift, aPick, fin_v, fin_sl, beq_true, okSz, List.length_cons, List.length_nil, Nat.zero_add, Nat.add_zero, Nat.reduceAdd, decide_true, decide_false, Bool.and_true, Bool.true_and, Bool.and_self, Bool.not_true, Bool.not_false, List.getElem?_cons_zero, List.getElem?_cons_succ, List.nil_append, List.cons_append, hpp_app, hpp_stk, hpp_tk, hpp_lp, hpp_hp, app_lpadd, hload, hload0, hloadh, hstore, hstore0, hleave, hleave0, hfin_v, hfin_sl, hback, hloop, hsetlp, max_int, min_int, hstore_v, hstore_v0, hstore_s, hstore_d, modify_concat, part1, hbackt, hbackl, hback0, List.take_succ_cons, List.take_left, List.take_zero, List.take_nil, rowT, strs]

/-! ### when two texts are the same -/
theorem strs_get (p : List ByteArray) (x : ByteArray) (xs : List ByteArray) : (strs (p ++ x :: xs))[p.length]? = some [str x] := by simp [strs]
theorem ssm_loop (s : St) (xs0 ys0 : List ByteArray) (hb : xs0.length ≤ 1000000000) (hl : xs0.length = ys0.length) : ∀ (xs ys p q : List ByteArray), xs0 = p ++ xs → ys0 = q ++ ys → p.length = q.length →
    ∃ j : Int, itE (S13.b0 (E L) itE s.stk.length s.lp.length) [.sl (strs xs0) .dead, .sl (strs ys0) .dead, .v (.bool false), int xs0.length, int p.length] (s.app [] [] []) =
      some (bif decide (xs = ys) then .exit 0 else .ret, [.sl (strs xs0) .dead, .sl (strs ys0) .dead, .v (.bool false), int xs0.length, int j], s.app [] [] [])
  | [], ys, p, q, hx, hy, hp => by
    obtain rfl : ys = [] := by
      have := congrArg List.length hx
      have := congrArg List.length hy
      simp at *
      exact List.length_eq_zero_iff.1 (by omega)
    refine ⟨p.length, ?_⟩
    rw [itE_eq]
    have e : xs0.length = p.length := by rw [hx]; simp
    simp [S13.b0, canon_v, canon_sl, canon_clo, canon_ptr, need_refl, elems_sl, sf_v, sf_sl, sf_ptr, sf_ptrh, sf_clo, sf_dead, sf_nil, sf_full, sf_fr, need_true, ibeq, beq_ba, nbeq, nble, nblt, AM.nth, List.getD_cons_succ, List.getD_cons_zero, Option.bind_some, Option.bind_none, Option.map_some, onBool, AM.onG, onFn, seqK, retK, Ex.outOf, cond_true, cond_false, bin_lss, bin_leq, bin_gtr, bin_geq, bin_eql, bin_neq, bin_add, bin_sub, bin_mul, un_not, str_eql, str_neq, app_push, app_stk, app_tk, app_lp, load_app, load_app0, load_fp, store_app, store_app0, leave_app, leave_app0, AM.ownPut, AM.cellsOf, AM.shift, aPick, fin_v, fin_sl, beq_true, okSz, List.length_cons, List.length_nil, Nat.zero_add, Nat.add_zero, Nat.reduceAdd, decide_true, decide_false, Bool.and_true, Bool.true_and, Bool.and_self, Bool.not_true, Bool.not_false, List.getElem?_cons_zero, List.getElem?_cons_succ, List.nil_append, List.cons_append, hpp_app, hpp_stk, hpp_tk, hpp_lp, hpp_hp, app_lpadd, hload, hload0, hloadh, hstore, hstore0, hleave, hleave0, hfin_v, hfin_sl, hback, hloop, hsetlp, max_int, min_int, hstore_v, hstore_v0, hstore_s, hstore_d, modify_concat, part1, hbackt, hbackl, hback0, List.take_succ_cons, List.take_left, List.take_zero, List.take_nil, e]
  | x :: xs, ys, p, q, hx, hy, hp => by
    match ys, hy with
    | [], hy =>
      exfalso
      have := congrArg List.length hx
      have := congrArg List.length hy
      simp at *
      omega
    | y :: ys, hy =>
      have hlt : (p.length : Int) < (xs0.length : Int) := by rw [hx]; simp; omega
      have g1 : (strs xs0)[p.length]? = some [str x] := by rw [hx]; exact strs_get p x xs
      have g2 : (strs ys0)[p.length]? = some [str y] := by rw [hy, hp]; exact strs_get q y ys
      have r1 : inRange (p.length : Int) (strs xs0).length = true := by rw [strs_len, hx]; exact inR p x xs
      have r2 : inRange (p.length : Int) (strs ys0).length = true := by rw [strs_len, hy, hp]; exact inR q y ys
      have w1 : IntKind.i64.wrap ((p.length : Int) + 1) = ((p ++ [x]).length : Int) := by rw [IntWalk.i64_in _ (by omega)]; simp
      have hstep : S13.b0 (E L) itE s.stk.length s.lp.length [.sl (strs xs0) .dead, .sl (strs ys0) .dead, .v (.bool false), int xs0.length, int p.length] (s.app [] [] []) =
          some (bif decide (x = y) then (.normal, [.sl (strs xs0) .dead, .sl (strs ys0) .dead, .v (.bool false), int xs0.length, int (p ++ [x]).length], s.app [] [] []) else
            (.ret, [.sl (strs xs0) .dead, .sl (strs ys0) .dead, .v (.bool false), int xs0.length, int p.length], s.app [] [] [])) := by
        by_cases hxy : x = y
        · subst hxy; simp [S13.b0, canon_v, canon_sl, canon_clo, canon_ptr, need_refl, elems_sl, sf_v, sf_sl, sf_ptr, sf_ptrh, sf_clo, sf_dead, sf_nil, sf_full, sf_fr, need_true, ibeq, beq_ba, nbeq, nble, nblt, AM.nth, List.getD_cons_succ, List.getD_cons_zero, Option.bind_some, Option.bind_none, Option.map_some, onBool, AM.onG, onFn, seqK, retK, Ex.outOf, cond_true, cond_false, bin_lss, bin_leq, bin_gtr, bin_geq, bin_eql, bin_neq, bin_add, bin_sub, bin_mul, un_not, str_eql, str_neq, app_push, app_stk, app_tk, app_lp, load_app, load_app0, load_fp, store_app, store_app0, leave_app, leave_app0, AM.ownPut, AM.cellsOf, AM.shift, aPick, fin_v, fin_sl, beq_true, okSz, List.length_cons, List.length_nil, Nat.zero_add, Nat.add_zero, Nat.reduceAdd, decide_true, decide_false, Bool.and_true, Bool.true_and, Bool.and_self, Bool.not_true, Bool.not_false, List.getElem?_cons_zero, List.getElem?_cons_succ, List.nil_append, List.cons_append, hpp_app, hpp_stk, hpp_tk, hpp_lp, hpp_hp, app_lpadd, hload, hload0, hloadh, hstore, hstore0, hleave, hleave0, hfin_v, hfin_sl, hback, hloop, hsetlp, max_int, min_int, hstore_v, hstore_v0, hstore_s, hstore_d, modify_concat, part1, hbackt, hbackl, hback0, List.take_succ_cons, List.take_left, List.take_zero, List.take_nil, hlt, ia_47, r1, r2, g1, g2, w1, AM.part]
        · simp [S13.b0, canon_v, canon_sl, canon_clo, canon_ptr, need_refl, elems_sl, sf_v, sf_sl, sf_ptr, sf_ptrh, sf_clo, sf_dead, sf_nil, sf_full, sf_fr, need_true, ibeq, beq_ba, nbeq, nble, nblt, AM.nth, List.getD_cons_succ, List.getD_cons_zero, Option.bind_some, Option.bind_none, Option.map_some, onBool, AM.onG, onFn, seqK, retK, Ex.outOf, cond_true, cond_false, bin_lss, bin_leq, bin_gtr, bin_geq, bin_eql, bin_neq, bin_add, bin_sub, bin_mul, un_not, str_eql, str_neq, app_push, app_stk, app_tk, app_lp, load_app, load_app0, load_fp, store_app, store_app0, leave_app, leave_app0, AM.ownPut, AM.cellsOf, AM.shift, aPick, fin_v, fin_sl, beq_true, okSz, List.length_cons, List.length_nil, Nat.zero_add, Nat.add_zero, Nat.reduceAdd, decide_true, decide_false, Bool.and_true, Bool.true_and, Bool.and_self, Bool.not_true, Bool.not_false, List.getElem?_cons_zero, List.getElem?_cons_succ, List.nil_append, List.cons_append, hpp_app, hpp_stk, hpp_tk, hpp_lp, hpp_hp, app_lpadd, hload, hload0, hloadh, hstore, hstore0, hleave, hleave0, hfin_v, hfin_sl, hback, hloop, hsetlp, max_int, min_int, hstore_v, hstore_v0, hstore_s, hstore_d, modify_concat, part1, hbackt, hbackl, hback0, List.take_succ_cons, List.take_left, List.take_zero, List.take_nil, hlt, ia_47, r1, r2, g1, g2, w1, hxy, AM.part]
      by_cases hxy : x = y
      · subst hxy
        rw [decide_eq_true rfl] at hstep
        obtain ⟨j, hj⟩ := ssm_loop s xs0 ys0 hb hl xs ys (p ++ [x]) (q ++ [x]) (by simp [hx]) (by simp [hy]) (by simp [hp])
        refine ⟨j, ?_⟩
        rw [it_step hstep, hj]
        simp
      · rw [decide_eq_false hxy] at hstep
        refine ⟨p.length, ?_⟩
        rw [it_ret hstep]
        simp [hxy]
theorem ssm_ev (xs ys : List ByteArray) (hb : xs.length ≤ 1000000000) (st : St) : E L (.func 13) [.sl (strs xs) .dead, .sl (strs ys) .dead] st = some (.v (.bool (decide (xs = ys))), st) := by
  obtain ⟨s, rfl⟩ : ∃ s : St, st = s.app [] [] [] := ⟨st, (app_nil st).symm⟩
  rw [S13_eq]
  by_cases hl : xs.length = ys.length
  · obtain ⟨j, hj⟩ := ssm_loop s xs ys hb hl xs ys [] [] rfl rfl rfl
    simp [S13, canon_v, canon_sl, canon_clo, canon_ptr, need_refl, elems_sl, sf_v, sf_sl, sf_ptr, sf_ptrh, sf_clo, sf_dead, sf_nil, sf_full, sf_fr, need_true, ibeq, beq_ba, nbeq, nble, nblt, AM.nth, List.getD_cons_succ, List.getD_cons_zero, Option.bind_some, Option.bind_none, Option.map_some, onBool, AM.onG, onFn, seqK, retK, Ex.outOf, cond_true, cond_false, bin_lss, bin_leq, bin_gtr, bin_geq, bin_eql, bin_neq, bin_add, bin_sub, bin_mul, un_not, str_eql, str_neq, app_push, app_stk, app_tk, app_lp, load_app, load_app0, load_fp, store_app, store_app0, leave_app, leave_app0, AM.ownPut, AM.cellsOf, AM.shift, aPick, fin_v, fin_sl, beq_true, okSz, List.length_cons, List.length_nil, Nat.zero_add, Nat.add_zero, Nat.reduceAdd, decide_true, decide_false, Bool.and_true, Bool.true_and, Bool.and_self, Bool.not_true, Bool.not_false, List.getElem?_cons_zero, List.getElem?_cons_succ, List.nil_append, List.cons_append, hpp_app, hpp_stk, hpp_tk, hpp_lp, hpp_hp, app_lpadd, hload, hload0, hloadh, hstore, hstore0, hleave, hleave0, hfin_v, hfin_sl, hback, hloop, hsetlp, max_int, min_int, hstore_v, hstore_v0, hstore_s, hstore_d, modify_concat, part1, hbackt, hbackl, hback0, List.take_succ_cons, List.take_left, List.take_zero, List.take_nil, len_47, strs_len, hl] at hj ⊢
    rw [hj]
    by_cases h : xs = ys <;> simp [canon_v, canon_sl, canon_clo, canon_ptr, need_refl, elems_sl, sf_v, sf_sl, sf_ptr, sf_ptrh, sf_clo, sf_dead, sf_nil, sf_full, sf_fr, need_true, ibeq, beq_ba, nbeq, nble, nblt, AM.nth, List.getD_cons_succ, List.getD_cons_zero, Option.bind_some, Option.bind_none, Option.map_some, onBool, AM.onG, onFn, seqK, retK, Ex.outOf, cond_true, cond_false, bin_lss, bin_leq, bin_gtr, bin_geq, bin_eql, bin_neq, bin_add, bin_sub, bin_mul, un_not, str_eql, str_neq, app_push, app_stk, app_tk, app_lp, load_app, load_app0, load_fp, store_app, store_app0, leave_app, leave_app0, AM.ownPut, AM.cellsOf, AM.shift, aPick, fin_v, fin_sl, beq_true, okSz, List.length_cons, List.length_nil, Nat.zero_add, Nat.add_zero, Nat.reduceAdd, decide_true, decide_false, Bool.and_true, Bool.true_and, Bool.and_self, Bool.not_true, Bool.not_false, List.getElem?_cons_zero, List.getElem?_cons_succ, List.nil_append, List.cons_append, hpp_app, hpp_stk, hpp_tk, hpp_lp, hpp_hp, app_lpadd, hload, hload0, hloadh, hstore, hstore0, hleave, hleave0, hfin_v, hfin_sl, hback, hloop, hsetlp, max_int, min_int, hstore_v, hstore_v0, hstore_s, hstore_d, modify_concat, part1, hbackt, hbackl, hback0, List.take_succ_cons, List.take_left, List.take_zero, List.take_nil, h]
  · have : ¬ (xs.length : Int) = ys.length := by omega
    have h2 : ¬ xs = ys := fun e => hl (by rw [e])
    simp [S13, canon_v, canon_sl, canon_clo, canon_ptr, need_refl, elems_sl, sf_v, sf_sl, sf_ptr, sf_ptrh, sf_clo, sf_dead, sf_nil, sf_full, sf_fr, need_true, ibeq, beq_ba, nbeq, nble, nblt, AM.nth, List.getD_cons_succ, List.getD_cons_zero, Option.bind_some, Option.bind_none, Option.map_some, onBool, AM.onG, onFn, seqK, retK, Ex.outOf, cond_true, cond_false, bin_lss, bin_leq, bin_gtr, bin_geq, bin_eql, bin_neq, bin_add, bin_sub, bin_mul, un_not, str_eql, str_neq, app_push, app_stk, app_tk, app_lp, load_app, load_app0, load_fp, store_app, store_app0, leave_app, leave_app0, AM.ownPut, AM.cellsOf, AM.shift, aPick, fin_v, fin_sl, beq_true, okSz, List.length_cons, List.length_nil, Nat.zero_add, Nat.add_zero, Nat.reduceAdd, decide_true, decide_false, Bool.and_true, Bool.true_and, Bool.and_self, Bool.not_true, Bool.not_false, List.getElem?_cons_zero, List.getElem?_cons_succ, List.nil_append, List.cons_append, hpp_app, hpp_stk, hpp_tk, hpp_lp, hpp_hp, app_lpadd, hload, hload0, hloadh, hstore, hstore0, hleave, hleave0, hfin_v, hfin_sl, hback, hloop, hsetlp, max_int, min_int, hstore_v, hstore_v0, hstore_s, hstore_d, modify_concat, part1, hbackt, hbackl, hback0, List.take_succ_cons, List.take_left, List.take_zero, List.take_nil, len_47, strs_len, this, h2]
end Go.Proofs.Ytkbhejcfejembaa.S

/- Trees: the reference's text of a number tells the number. No condition. -/
namespace Go.Proofs.Ytkbhejcfejembaa.S
open Go Go.AM Go.Proofs
set_option linter.all false

theorem u8_of {x y : Int} (hx : 0 ≤ x ∧ x < 256) (hy : 0 ≤ y ∧ y < 256) (h : UInt8.ofNat x.toNat = UInt8.ofNat y.toNat) : x = y := by
  have := congrArg UInt8.toNat h
  simp at this
  omega
theorem u8w (n : Int) : IntKind.u8.wrap n = n % 256 := by simp [IntKind.wrap, IntKind.bits, IntKind.signed]
theorem u64w (n : Int) : IntKind.u64.wrap n = n % 18446744073709551616 := by simp [IntKind.wrap, IntKind.bits, IntKind.signed]
theorem num_inj {a b : Int} (h : numT a = numT b) : IntKind.u64.wrap a = IntKind.u64.wrap b := by
  have ha : 0 ≤ IntKind.u64.wrap a ∧ IntKind.u64.wrap a < 18446744073709551616 := by rw [u64w]; omega
  have hb : 0 ≤ IntKind.u64.wrap b ∧ IntKind.u64.wrap b < 18446744073709551616 := by rw [u64w]; omega
  simp only [numT, by8, u8w] at h
  generalize IntKind.u64.wrap a = x at *
  generalize IntKind.u64.wrap b = y at *
  injection h with h
  simp only [Array.mk.injEq, List.cons.injEq, and_true] at h
  obtain ⟨h0, h1, h2, h3, h4, h5, h6, h7⟩ := h
  have f : ∀ n : Int, 0 ≤ n % 256 ∧ n % 256 < 256 := fun n => by omega
  have h0 := u8_of (f _) (f _) h0
  have h1 := u8_of (f _) (f _) h1
  have h2 := u8_of (f _) (f _) h2
  have h3 := u8_of (f _) (f _) h3
  have h4 := u8_of (f _) (f _) h4
  have h5 := u8_of (f _) (f _) h5
  have h6 := u8_of (f _) (f _) h6
  have h7 := u8_of (f _) (f _) h7
  have e : ∀ (n k : Int), 0 < k → n.fdiv k = n / k := fun n k hk => Int.fdiv_eq_ediv_of_nonneg n (by omega)
  rw [e _ _ (by decide), e _ _ (by decide)] at h1 h2 h3 h4 h5 h6 h7
  simp only [Int.reducePow] at h1 h2 h3 h4 h5 h6 h7
  omega
end Go.Proofs.Ytkbhejcfejembaa.S

/- Trees: an expression's text tells the expression, but for places. No condition. -/
namespace Go.Proofs.Ytkbhejcfejembaa.S
open Go Go.AM Go.Proofs
set_option linter.all false

def I64 (n : Int) : Prop := -9223372036854775808 ≤ n ∧ n ≤ 9223372036854775807
def U64 (n : Int) : Prop := 0 ≤ n ∧ n ≤ 18446744073709551615
theorem num_i {a b : Int} (ha : I64 a) (hb : I64 b) (h : numT a = numT b) : a = b := by
  have := num_inj h
  rw [u64w, u64w] at this
  unfold I64 at ha hb
  omega
theorem num_u {a b : Int} (ha : U64 a) (hb : U64 b) (h : numT (w64 a) = numT (w64 b)) : a = b := by
  have := num_inj h
  simp only [w64, IntKind.wrap_i64, u64w] at this
  unfold U64 at ha hb
  omega
mutual
def X.rng : X → Prop
  | ⟨op, bin, n, kd, _, _, ks, _, _⟩ => I64 op ∧ I64 bin ∧ U64 n ∧ I64 kd ∧ ks.length ≤ 1000000 ∧ rngs ks
def rngs : List X → Prop
  | [] => True
  | x :: xs => x.rng ∧ rngs xs
end
theorem X.rng_eq (x : X) : x.rng = (I64 x.op ∧ I64 x.bin ∧ U64 x.n ∧ I64 x.kd ∧ x.kids.length ≤ 1000000 ∧ rngs x.kids) := by cases x; simp only [X.rng]; rfl
mutual
theorem X.text_inj : ∀ (x y : X) (r r' : List ByteArray), x.rng → y.rng → x.text ++ r = y.text ++ r' → x.same y = true ∧ r = r'
  | ⟨op, bin, n, kd, rc, name, ks, l, c⟩, y, r, r', hx, hy, h => by
    rw [X.rng_eq] at hy
    simp only [X.rng] at hx
    obtain ⟨a1, a2, a3, a4, a5, a6⟩ := hx
    obtain ⟨b1, b2, b3, b4, b5, b6⟩ := hy
    rw [X.text_eq y] at h
    simp only [X.text, List.cons_append, List.nil_append, List.cons.injEq, true_and] at h
    obtain ⟨h1, h2, h3, h4, h5, h6, h7, h8⟩ := h
    have hl := num_i (by unfold I64; omega) (by unfold I64; omega) h7
    obtain ⟨k1, k2⟩ := xtexts_inj ks y.kids r r' (by omega) a6 b6 h8
    refine ⟨?_, k2⟩
    simp only [X.same, num_i a1 b1 h1, num_i a2 b2 h2, num_u a3 b3 h3, num_i a4 b4 h4, h5, h6, k1, beq_self_eq_true, Bool.and_self, decide_true, beq_ba]
theorem xtexts_inj : ∀ (xs ys : List X) (r r' : List ByteArray), xs.length = ys.length → rngs xs → rngs ys → xtexts xs ++ r = xtexts ys ++ r' → sames xs ys = true ∧ r = r'
  | [], [], r, r', _, _, _, h => ⟨rfl, h⟩
  | x :: xs, y :: ys, r, r', hl, hx, hy, h => by
    simp only [xtexts, List.append_assoc] at h
    obtain ⟨k1, k2⟩ := X.text_inj x y _ _ hx.1 hy.1 h
    obtain ⟨k3, k4⟩ := xtexts_inj xs ys r r' (by simpa using hl) hx.2 hy.2 k2
    exact ⟨by simp [sames, k1, k3], k4⟩
end
end Go.Proofs.Ytkbhejcfejembaa.S

/- Trees: a statement's text tells the statement, but for places. No condition. -/
namespace Go.Proofs.Ytkbhejcfejembaa.S
open Go Go.AM Go.Proofs
set_option linter.all false

def Pl.rng (p : Pl) : Prop := I64 p.op ∧ p.index.rng
theorem Pl.tx_inj (x y : Pl) (r r' : List ByteArray) (hx : x.rng) (hy : y.rng) (h : x.tx ++ r = y.tx ++ r') : x.same y = true ∧ r = r' := by
  simp only [Pl.tx, List.cons_append, List.nil_append, List.cons.injEq, true_and] at h
  obtain ⟨h1, h2, h3, h4⟩ := h
  obtain ⟨k1, k2⟩ := X.text_inj x.index y.index r r' hx.2 hy.2 h4
  exact ⟨by simp only [Pl.same, num_i hx.1 hy.1 h1, h2, h3, k1, decide_true, Bool.and_self], k2⟩
mutual
def S.rng : S → Prop
  | ⟨op, _, rt, pl, e, n, args, body, els, _, _⟩ => I64 op ∧ I64 n ∧ I64 rt.op ∧ rt.e.rng ∧ rt.place.rng ∧ pl.rng ∧ e.rng ∧ args.length ≤ 1000000 ∧ rngs args ∧ body.length ≤ 1000000 ∧ srngs body ∧ els.length ≤ 1000000 ∧ srngs els
def srngs : List S → Prop
  | [] => True
  | x :: xs => x.rng ∧ srngs xs
end
theorem S.rng_eq (x : S) : x.rng = (I64 x.op ∧ I64 x.n ∧ I64 x.right.op ∧ x.right.e.rng ∧ x.right.place.rng ∧ x.place.rng ∧ x.e.rng ∧ x.args.length ≤ 1000000 ∧ rngs x.args ∧ x.body.length ≤ 1000000 ∧ srngs x.body ∧ x.els.length ≤ 1000000 ∧ srngs x.els) := by cases x; simp only [S.rng]; rfl
mutual
theorem S.tx_inj : ∀ (x y : S) (r r' : List ByteArray), x.rng → y.rng → x.tx ++ r = y.tx ++ r' → x.same y = true ∧ r = r'
  | ⟨op, name, rt, pl, e, n, args, body, els, l, c⟩, y, r, r', hx, hy, h => by
    rw [S.rng_eq] at hy
    simp only [S.rng] at hx
    obtain ⟨a1, a2, a3, a4, a5, a6, a7, a8, a9, a10, a11, a12, a13⟩ := hx
    obtain ⟨b1, b2, b3, b4, b5, b6, b7, b8, b9, b10, b11, b12, b13⟩ := hy
    rw [S.tx_eq y] at h
    simp only [S.tx, S.hd, rowT, List.append_assoc, List.cons_append, List.nil_append, List.cons.injEq, true_and] at h
    obtain ⟨h1, h2, h3, h4, h5, h6, h⟩ := h
    obtain ⟨k1, h⟩ := X.text_inj _ _ _ _ a4 b4 h
    obtain ⟨k2, h⟩ := Pl.tx_inj _ _ _ _ a5 b5 h
    obtain ⟨k3, h⟩ := Pl.tx_inj _ _ _ _ a6 b6 h
    obtain ⟨k4, h⟩ := X.text_inj _ _ _ _ a7 b7 h
    have e1 := num_i (by unfold I64; omega) (by unfold I64; omega) h6
    obtain ⟨k5, h⟩ := xtexts_inj args y.args _ _ (by omega) a9 b9 h
    simp only [List.cons.injEq, true_and] at h
    obtain ⟨h7, h⟩ := h
    have e2 := num_i (by unfold I64; omega) (by unfold I64; omega) h7
    obtain ⟨k6, h⟩ := stxs_inj body y.body _ _ (by omega) a11 b11 h
    simp only [List.cons.injEq, true_and] at h
    obtain ⟨h8, h⟩ := h
    have e3 := num_i (by unfold I64; omega) (by unfold I64; omega) h8
    obtain ⟨k7, h⟩ := stxs_inj els y.els _ _ (by omega) a13 b13 h
    refine ⟨?_, h⟩
    simp only [S.same, Rt.same, num_i a1 b1 h1, h2, num_i a2 b2 h3, num_i a3 b3 h4, h5, k1, k2, k3, k4, k5, k6, k7, decide_true, Bool.and_self]
theorem stxs_inj : ∀ (xs ys : List S) (r r' : List ByteArray), xs.length = ys.length → srngs xs → srngs ys → stxs xs ++ r = stxs ys ++ r' → ssames xs ys = true ∧ r = r'
  | [], [], r, r', _, _, _, h => ⟨rfl, h⟩
  | x :: xs, y :: ys, r, r', hl, hx, hy, h => by
    simp only [stxs, List.append_assoc] at h
    obtain ⟨k1, k2⟩ := S.tx_inj x y _ _ hx.1 hy.1 h
    obtain ⟨k3, k4⟩ := stxs_inj xs ys r r' (by simpa using hl) hx.2 hy.2 k2
    exact ⟨by simp [ssames, k1, k3], k4⟩
end
end Go.Proofs.Ytkbhejcfejembaa.S

/- Trees: what is the same has the same text. No condition. -/
namespace Go.Proofs.Ytkbhejcfejembaa.S
open Go Go.AM Go.Proofs
set_option linter.all false
mutual
theorem X.text_of : ∀ (x y : X), x.same y = true → x.text = y.text
  | ⟨op, bin, n, kd, rc, name, ks, l, c⟩, y, h => by
    simp only [X.same, Bool.and_eq_true, beq_iff_eq, decide_eq_true_eq, beq_ba, and_true] at h
    obtain ⟨h1, h2, h3, ⟨h4, h5⟩, h6, h7⟩ := h
    obtain ⟨k1, k2⟩ := xtexts_of ks y.kids h7
    rw [X.text_eq y]
    simp only [X.text, h1, h2, h3, h4, h5, h6, k1, k2]
theorem xtexts_of : ∀ (xs ys : List X), sames xs ys = true → xs.length = ys.length ∧ xtexts xs = xtexts ys
  | [], [], _ => ⟨rfl, rfl⟩
  | [], y :: ys, h => by simp [sames] at h
  | x :: xs, [], h => by simp [sames] at h
  | x :: xs, y :: ys, h => by
    simp only [sames, Bool.and_eq_true] at h
    obtain ⟨k1, k2⟩ := xtexts_of xs ys h.2
    exact ⟨by simp [k1], by simp only [xtexts, X.text_of x y h.1, k2]⟩
end
theorem Pl.tx_of (x y : Pl) (h : x.same y = true) : x.tx = y.tx := by
  simp only [Pl.same, Bool.and_eq_true, decide_eq_true_eq] at h
  simp only [Pl.tx, h.1, h.2.1, h.2.2.1, X.text_of _ _ h.2.2.2]
mutual
theorem S.tx_of : ∀ (x y : S), x.same y = true → x.tx = y.tx
  | ⟨op, name, rt, pl, e, n, args, body, els, l, c⟩, y, h => by
    simp only [S.same, Rt.same, Bool.and_eq_true, decide_eq_true_eq] at h
    obtain ⟨h1, h2, h3, ⟨h4, h5, h6, h7⟩, h8, h9, h10, h11, h12⟩ := h
    obtain ⟨k1, k2⟩ := xtexts_of _ _ h10
    obtain ⟨k3, k4⟩ := stxs_of body y.body h11
    obtain ⟨k5, k6⟩ := stxs_of els y.els h12
    rw [S.tx_eq y]
    simp only [S.tx, S.hd, rowT, h1, h2, h3, h4, h5, X.text_of _ _ h6, Pl.tx_of _ _ h7, Pl.tx_of _ _ h8, X.text_of _ _ h9, k1, k2, k3, k4, k5, k6]
theorem stxs_of : ∀ (xs ys : List S), ssames xs ys = true → xs.length = ys.length ∧ stxs xs = stxs ys
  | [], [], _ => ⟨rfl, rfl⟩
  | [], y :: ys, h => by simp [ssames] at h
  | x :: xs, [], h => by simp [ssames] at h
  | x :: xs, y :: ys, h => by
    simp only [ssames, Bool.and_eq_true] at h
    obtain ⟨k1, k2⟩ := stxs_of xs ys h.2
    exact ⟨by simp [k1], by simp only [stxs, S.tx_of x y h.1, k2]⟩
end
end Go.Proofs.Ytkbhejcfejembaa.S

/- Trees: the document's row of all statements. No condition. -/
namespace Go.Proofs.Ytkbhejcfejembaa.S
open Go Go.AM Go.Proofs
set_option linter.unusedVariables false
set_option linter.unusedSimpArgs false

def ints (l : List Int) : List (List PV) := l.map fun n => [int n]
theorem ints_len (l : List Int) : (ints l).length = l.length := List.length_map ..
theorem ints_ok (l : List Int) : okSz 1 (ints l) = true := okSz_map (fun n => [int n]) (fun _ => rfl) l
theorem ints_app (l m : List Int) : ints l ++ ints m = ints (l ++ m) := (List.map_append ..).symm
theorem sencs_ok (l : List S) : okSz 58 (sencs l) = true := by rw [sencs_map]; exact okSz_map _ S.len l
theorem sencs_app (l m : List S) : sencs l ++ sencs m = sencs (l ++ m) := by simp only [sencs_map]; exact (List.map_append ..).symm

mutual
def S.flat : S → Int → List (S × Int)
  | ⟨op, name, right, place, e, n, args, body, els, l, c⟩, d => (⟨op, name, right, place, e, n, args, body, els, l, c⟩, d) :: (flats body (d + 1) ++ flats els (d + 1))
def flats : List S → Int → List (S × Int)
  | [], _ => []
  | x :: xs, d => x.flat d ++ flats xs d
end
theorem S.flat_eq (x : S) (d : Int) : x.flat d = (x, d) :: (flats x.body (d + 1) ++ flats x.els (d + 1)) := by cases x; rfl
theorem flats_app1 : ∀ (p : List S) (x : S) (d : Int), flats (p ++ [x]) d = flats p d ++ x.flat d
  | [], x, d => by simp [flats]
  | y :: ys, x, d => by simp [flats, flats_app1 ys x]
mutual
theorem S.flat_len : ∀ (x : S) (d : Int), (x.flat d).length ≤ x.sz
  | ⟨op, name, right, place, e, n, args, body, els, l, c⟩, d => by
    have := flats_len body (d + 1)
    have := flats_len els (d + 1)
    simp [S.flat, S.sz]; omega
theorem flats_len : ∀ (xs : List S) (d : Int), (flats xs d).length ≤ sszs xs
  | [], d => by simp [flats]
  | x :: xs, d => by
    have := S.flat_len x d
    have := flats_len xs d
    simp [flats, sszs]; omega
end
def ss (l : List (S × Int)) : List (List PV) := sencs (l.map Prod.fst)
def ds (l : List (S × Int)) : List (List PV) := ints (l.map Prod.snd)
theorem ss_len (l : List (S × Int)) : (ss l).length = l.length := by rw [ss, sencs_length, List.length_map]
theorem ds_len (l : List (S × Int)) : (ds l).length = l.length := by rw [ds, ints_len, List.length_map]
theorem ss_app (l m : List (S × Int)) : ss l ++ ss m = ss (l ++ m) := by rw [ss, ss, ss, sencs_app, List.map_append]
theorem ds_app (l m : List (S × Int)) : ds l ++ ds m = ds (l ++ m) := by rw [ds, ds, ds, ints_app, List.map_append]

/-- Two rows that grow, side by side. -/
def Own2 (s : St) (tk : List (Nat × Nat)) (c1 c2 : Cap) (n : Nat) : Prop := Own s tk c1 n 58 ∧ Own s tk c2 n 1 ∧ Dist c1 c2
theorem app_both {s : St} {tk : List (Nat × Nat)} {c1 c2 : Cap} {l m : List (S × Int)} (h : Own2 s tk c1 c2 l.length) (hb : l.length + m.length ≤ 100000000) :
    ∃ d1 d2 tk1 tk2, (∀ (bl : List Blk) (lp : List Aux) (base : Nat) (z : List PV), rAppend base z 58 688 (.sl (ss l) c1) (ss m) (s.app bl tk lp) = some (.sl (ss (l ++ m)) d1, s.app bl tk1 lp)) ∧
      (∀ (bl : List Blk) (lp : List Aux) (base : Nat) (z : List PV), rAppend base z 1 8 (.sl (ds l) c2) (ds m) (s.app bl tk1 lp) = some (.sl (ds (l ++ m)) d2, s.app bl tk2 lp)) ∧ Own2 s tk2 d1 d2 (l ++ m).length := by
  obtain ⟨h1, h2, h3⟩ := h
  rw [← ss_len] at h1
  obtain ⟨d1, tk1, e1, o1, _, p1⟩ := app_own2 (ys := ss m) (bytes := 688) h1 (by simp only [ss_len, maxLenB]; omega) (sencs_ok _) (sencs_ok _) (by decide) (by decide)
  obtain ⟨h2, h3⟩ := p1 h2 h3
  rw [← ds_len] at h2
  obtain ⟨d2, tk2, e2, o2, _, p2⟩ := app_own2 (ys := ds m) (bytes := 8) h2 (by simp only [ds_len, maxLenB]; omega) (ints_ok _) (ints_ok _) (by decide) (by decide)
  obtain ⟨o1, h3⟩ := p2 o1 h3.symm
  rw [ss_app] at e1 o1
  rw [ds_app] at e2 o2
  rw [ss_len] at o1
  rw [ds_len] at o2
  exact ⟨d1, d2, tk1, tk2, e1, e2, o1, o2, h3.symm⟩

theorem S.sub {x : S} (h : x.sz ≤ 1000000) : sszs x.body < x.sz ∧ sszs x.els < x.sz := by have := S.sz_eq x; omega

set_option maxHeartbeats 4000000 in
theorem flat_loop (s : St) (xs0 : List S) (hb : sszs xs0 ≤ 1000000) (d : Int) (hd : 0 ≤ d) (hd2 : d ≤ 10000000) : ∀ (xs p : List S) (acc : List (S × Int)) (c1 c2 : Cap) (tk : List (Nat × Nat)), xs0 = p ++ xs → acc.length = (flats p d).length → Own2 s tk c1 c2 acc.length →
    (∀ x ∈ xs, ∀ (st : St), E L (.func 19) [.sl (sencs x.body) .dead, int (d + 1)] st = some (.tup [.sl (ss (flats x.body (d + 1))) .dead, .sl (ds (flats x.body (d + 1))) .dead], st) ∧
      E L (.func 19) [.sl (sencs x.els) .dead, int (d + 1)] st = some (.tup [.sl (ss (flats x.els (d + 1))) .dead, .sl (ds (flats x.els (d + 1))) .dead], st)) →
    ∃ j c1' c2' tk', itE (S19.b0 (E L) itE s.stk.length s.lp.length) [int d, .sl (ss acc) c1, .sl (ds acc) c2, .sl (sencs xs0) .dead, int xs0.length, int p.length] (s.app [] tk []) =
      some (.exit 0, [int d, .sl (ss (acc ++ flats xs d)) c1', .sl (ds (acc ++ flats xs d)) c2', .sl (sencs xs0) .dead, int xs0.length, int j], s.app [] tk' [])
  | [], p, acc, c1, c2, tk, hx, ha, ho, hf => by
    have e : xs0.length = p.length := by rw [hx]; simp
    refine ⟨p.length, c1, c2, tk, ?_⟩
    rw [itE_eq]
    simp [S19.b0, canon_v, canon_sl, canon_clo, canon_ptr, need_refl, elems_sl, sf_v, sf_sl, sf_ptr, sf_ptrh, sf_clo, sf_dead, sf_nil, sf_full, sf_fr, need_true, ibeq, beq_ba, nbeq, nble, nblt, AM.nth, List.getD_cons_succ, List.getD_cons_zero, Option.bind_some, Option.bind_none, Option.map_some, onBool, AM.onG, onFn, seqK, retK, Ex.outOf, cond_true, cond_false, bin_lss, bin_leq, bin_gtr, bin_geq, bin_eql, bin_neq, bin_add, bin_sub, bin_mul, un_not, str_eql, str_neq, app_push, app_stk, app_tk, app_lp, load_app, load_app0, load_fp, store_app, store_app0, leave_app, leave_app0, AM.ownPut, AM.cellsOf, AM.shift, aPick, fin_v, fin_sl, beq_true, okSz, List.length_cons, List.length_nil, Nat.zero_add, Nat.add_zero, Nat.reduceAdd, decide_true, decide_false, Bool.and_true, Bool.true_and, Bool.and_self, Bool.not_true, Bool.not_false, List.getElem?_cons_zero, List.getElem?_cons_succ, List.nil_append, List.cons_append, hpp_app, hpp_stk, hpp_tk, hpp_lp, hpp_hp, app_lpadd, hload, hload0, hloadh, hstore, hstore0, hleave, hleave0, hfin_v, hfin_sl, hback, hloop, hsetlp, max_int, min_int, hstore_v, hstore_v0, hstore_s, hstore_d, modify_concat, part1, hbackt, hbackl, hback0, List.take_succ_cons, List.take_left, List.take_zero, List.take_nil, e, flats, ho.1.sfc, ho.2.1.sfc]
  | x :: xs, p, acc, c1, c2, tk, hx, ha, ho, hf => by
    have hlt : (p.length : Int) < (xs0.length : Int) := by rw [hx]; simp; omega
    have g1 : (sencs xs0)[p.length]? = some x.enc := by rw [hx]; exact sencs_get p x xs
    have r1 : inRange (p.length : Int) (sencs xs0).length = true := by rw [sencs_length, hx]; exact inR p x xs
    have hl0 := sszs_len xs0
    have hs0 : sszs xs0 = sszs p + (x.sz + sszs xs) := by rw [hx, sszs_app]; rfl
    have hpl : p.length < xs0.length := by rw [hx]; simp
    have w1 : IntKind.i64.wrap ((p.length : Int) + 1) = (p.length : Int) + 1 := IntWalk.i64_in _ (by omega)
    have wd : IntKind.i64.wrap (d + 1) = d + 1 := IntWalk.i64_in _ (by omega)
    have lp := flats_len p d
    have lb := flats_len x.body (d + 1)
    have le := flats_len x.els (d + 1)
    have hz := S.sz_eq x
    obtain ⟨a1, a2, ta, ta', ea, ea', oa⟩ := app_both (m := [(x, d)]) ho (by simp; omega)
    have ma : (acc ++ [(x, d)]).length = acc.length + 1 := by simp
    generalize hA : acc ++ [(x, d)] = A at ea ea' oa ma
    obtain ⟨b1, b2, tb, tb', eb, eb', ob⟩ := app_both (m := flats x.body (d + 1)) oa (by omega)
    have mb : (A ++ flats x.body (d + 1)).length = A.length + (flats x.body (d + 1)).length := by simp
    generalize hB : A ++ flats x.body (d + 1) = B at eb eb' ob mb
    obtain ⟨f1, f2, tf, tf', ef, ef', of⟩ := app_both (m := flats x.els (d + 1)) ob (by omega)
    have etx : B ++ flats x.els (d + 1) = acc ++ x.flat d := by rw [S.flat_eq, ← hB, ← hA]; simp
    generalize hC : B ++ flats x.els (d + 1) = C at ef ef' of etx
    have hstx := flats_app1 p x d
    obtain ⟨j, g1', g2', tk9, h9⟩ := flat_loop s xs0 hb d hd hd2 xs (p ++ [x]) C f1 f2 tf' (by simp [hx]) (by rw [etx, hstx, List.length_append, List.length_append]; omega) of fun z hz => hf z (List.mem_cons_of_mem _ hz)
    refine ⟨j, g1', g2', tk9, ?_⟩
    rw [show flats (x :: xs) d = x.flat d ++ flats xs d from rfl, ← List.append_assoc, ← etx, ← h9]
    refine it_step ?_
    have hb1 := fun st => (hf x List.mem_cons_self st).1
    have hb2 := fun st => (hf x List.mem_cons_self st).2
    have hs1 : [x.enc] = ss [(x, d)] := by simp [ss, sencs]
    have hd1 : [[int d]] = ds [(x, d)] := by simp [ds, ints]
    clear hf h9 hz hs0
    have inner : itE (S19.b1 (E L) itE s.stk.length s.lp.length) [int d, .sl (ss A) a1, .sl (ds A) a2, .sl (sencs xs0) .dead, int xs0.length, int p.length, .sl [[.sl (sencs x.body) .dead], [.sl (sencs x.els) .dead]] .full, int 2, int 0] (s.app [⟨x.enc, []⟩] ta' []) =
        some (.exit 2, [int d, .sl (ss C) f1, .sl (ds C) f2, .sl (sencs xs0) .dead, int xs0.length, int p.length, .sl [[.sl (sencs x.body) .dead], [.sl (sencs x.els) .dead]] .full, int 2, int 2], s.app [⟨x.enc, []⟩] tf' []) := by
      refine (it_step (vs' := [int d, .sl (ss B) b1, .sl (ds B) b2, .sl (sencs xs0) .dead, int xs0.length, int p.length, .sl [[.sl (sencs x.body) .dead], [.sl (sencs x.els) .dead]] .full, int 2, int 1]) (st' := s.app [⟨x.enc, []⟩] tb' []) ?_).trans ?_
      · simp [S19.b1, canon_v, canon_sl, canon_clo, canon_ptr, need_refl, elems_sl, sf_v, sf_sl, sf_ptr, sf_ptrh, sf_clo, sf_dead, sf_nil, sf_full, sf_fr, need_true, ibeq, beq_ba, nbeq, nble, nblt, AM.nth, List.getD_cons_succ, List.getD_cons_zero, Option.bind_some, Option.bind_none, Option.map_some, onBool, AM.onG, onFn, seqK, retK, Ex.outOf, cond_true, cond_false, bin_lss, bin_leq, bin_gtr, bin_geq, bin_eql, bin_neq, bin_add, bin_sub, bin_mul, un_not, str_eql, str_neq, app_push, app_stk, app_tk, app_lp, load_app, load_app0, load_fp, store_app, store_app0, leave_app, leave_app0, AM.ownPut, AM.cellsOf, AM.shift, aPick, fin_v, fin_sl, beq_true, okSz, List.length_cons, List.length_nil, Nat.zero_add, Nat.add_zero, Nat.reduceAdd, decide_true, decide_false, Bool.and_true, Bool.true_and, Bool.and_self, Bool.not_true, Bool.not_false, List.getElem?_cons_zero, List.getElem?_cons_succ, List.nil_append, List.cons_append, hpp_app, hpp_stk, hpp_tk, hpp_lp, hpp_hp, app_lpadd, hload, hload0, hloadh, hstore, hstore0, hleave, hleave0, hfin_v, hfin_sl, hback, hloop, hsetlp, max_int, min_int, hstore_v, hstore_v0, hstore_s, hstore_d, modify_concat, part1, hbackt, hbackl, hback0, List.take_succ_cons, List.take_left, List.take_zero, List.take_nil, ia_61, inRange, AM.part, wd, hb1, aExtract, eb, eb', show IntKind.i64.wrap 1 = 1 from rfl]
      refine (it_step (vs' := [int d, .sl (ss C) f1, .sl (ds C) f2, .sl (sencs xs0) .dead, int xs0.length, int p.length, .sl [[.sl (sencs x.body) .dead], [.sl (sencs x.els) .dead]] .full, int 2, int 2]) (st' := s.app [⟨x.enc, []⟩] tf' []) ?_).trans ?_
      · simp [S19.b1, canon_v, canon_sl, canon_clo, canon_ptr, need_refl, elems_sl, sf_v, sf_sl, sf_ptr, sf_ptrh, sf_clo, sf_dead, sf_nil, sf_full, sf_fr, need_true, ibeq, beq_ba, nbeq, nble, nblt, AM.nth, List.getD_cons_succ, List.getD_cons_zero, Option.bind_some, Option.bind_none, Option.map_some, onBool, AM.onG, onFn, seqK, retK, Ex.outOf, cond_true, cond_false, bin_lss, bin_leq, bin_gtr, bin_geq, bin_eql, bin_neq, bin_add, bin_sub, bin_mul, un_not, str_eql, str_neq, app_push, app_stk, app_tk, app_lp, load_app, load_app0, load_fp, store_app, store_app0, leave_app, leave_app0, AM.ownPut, AM.cellsOf, AM.shift, aPick, fin_v, fin_sl, beq_true, okSz, List.length_cons, List.length_nil, Nat.zero_add, Nat.add_zero, Nat.reduceAdd, decide_true, decide_false, Bool.and_true, Bool.true_and, Bool.and_self, Bool.not_true, Bool.not_false, List.getElem?_cons_zero, List.getElem?_cons_succ, List.nil_append, List.cons_append, hpp_app, hpp_stk, hpp_tk, hpp_lp, hpp_hp, app_lpadd, hload, hload0, hloadh, hstore, hstore0, hleave, hleave0, hfin_v, hfin_sl, hback, hloop, hsetlp, max_int, min_int, hstore_v, hstore_v0, hstore_s, hstore_d, modify_concat, part1, hbackt, hbackl, hback0, List.take_succ_cons, List.take_left, List.take_zero, List.take_nil, ia_61, inRange, AM.part, wd, hb2, aExtract, ef, ef', show IntKind.i64.wrap 2 = 2 from rfl]
      · refine it_exit ?_
        simp [S19.b1, canon_v, canon_sl, canon_clo, canon_ptr, need_refl, elems_sl, sf_v, sf_sl, sf_ptr, sf_ptrh, sf_clo, sf_dead, sf_nil, sf_full, sf_fr, need_true, ibeq, beq_ba, nbeq, nble, nblt, AM.nth, List.getD_cons_succ, List.getD_cons_zero, Option.bind_some, Option.bind_none, Option.map_some, onBool, AM.onG, onFn, seqK, retK, Ex.outOf, cond_true, cond_false, bin_lss, bin_leq, bin_gtr, bin_geq, bin_eql, bin_neq, bin_add, bin_sub, bin_mul, un_not, str_eql, str_neq, app_push, app_stk, app_tk, app_lp, load_app, load_app0, load_fp, store_app, store_app0, leave_app, leave_app0, AM.ownPut, AM.cellsOf, AM.shift, aPick, fin_v, fin_sl, beq_true, okSz, List.length_cons, List.length_nil, Nat.zero_add, Nat.add_zero, Nat.reduceAdd, decide_true, decide_false, Bool.and_true, Bool.true_and, Bool.and_self, Bool.not_true, Bool.not_false, List.getElem?_cons_zero, List.getElem?_cons_succ, List.nil_append, List.cons_append, hpp_app, hpp_stk, hpp_tk, hpp_lp, hpp_hp, app_lpadd, hload, hload0, hloadh, hstore, hstore0, hleave, hleave0, hfin_v, hfin_sl, hback, hloop, hsetlp, max_int, min_int, hstore_v, hstore_v0, hstore_s, hstore_d, modify_concat, part1, hbackt, hbackl, hback0, List.take_succ_cons, List.take_left, List.take_zero, List.take_nil]
    have bi : rBuildSlice 1 [.v (.int .i64 0)] 1 [(0, int d)] = some (.sl [[int d]] .full) := rfl
    have bb : rBuildSlice 1 [.sl [] .nil] 2 [(0, .sl (sencs x.body) .dead), (1, .sl (sencs x.els) .dead)] = some (.sl [[.sl (sencs x.body) .dead], [.sl (sencs x.els) .dead]] .full) := rfl
    have bx : ∀ z, z.length = 58 → rBuildSlice 58 z 1 [(0, .agg x.enc)] = some (.sl [x.enc] .full) := fun z hz => lit1 hz x.len x.pl x.len
    simp [S19.b0, canon_v, canon_sl, canon_clo, canon_ptr, need_refl, elems_sl, sf_v, sf_sl, sf_ptr, sf_ptrh, sf_clo, sf_dead, sf_nil, sf_full, sf_fr, need_true, ibeq, beq_ba, nbeq, nble, nblt, AM.nth, List.getD_cons_succ, List.getD_cons_zero, Option.bind_some, Option.bind_none, Option.map_some, onBool, AM.onG, onFn, seqK, retK, Ex.outOf, cond_true, cond_false, bin_lss, bin_leq, bin_gtr, bin_geq, bin_eql, bin_neq, bin_add, bin_sub, bin_mul, un_not, str_eql, str_neq, app_push, app_stk, app_tk, app_lp, load_app, load_app0, load_fp, store_app, store_app0, leave_app, leave_app0, AM.ownPut, AM.cellsOf, AM.shift, aPick, fin_v, fin_sl, beq_true, okSz, List.length_cons, List.length_nil, Nat.zero_add, Nat.add_zero, Nat.reduceAdd, decide_true, decide_false, Bool.and_true, Bool.true_and, Bool.and_self, Bool.not_true, Bool.not_false, List.getElem?_cons_zero, List.getElem?_cons_succ, List.nil_append, List.cons_append, hpp_app, hpp_stk, hpp_tk, hpp_lp, hpp_hp, app_lpadd, hload, hload0, hloadh, hstore, hstore0, hleave, hleave0, hfin_v, hfin_sl, hback, hloop, hsetlp, max_int, min_int, hstore_v, hstore_v0, hstore_s, hstore_d, modify_concat, part1, hbackt, hbackl, hback0, List.take_succ_cons, List.take_left, List.take_zero, List.take_nil, hlt, ia_31, r1, g1, S.len, S.whole, S.okc, laid0, bx, hs1, ea, bi, hd1, ea', S.p54_1, S.p55_1, bb, len_61, inner, w1, S.sf4, of.1.sfc, of.2.1.sfc]

theorem flat_ev : ∀ (n : Nat) (xs : List S), sszs xs ≤ n → n ≤ 1000000 → ∀ (d : Int), 0 ≤ d → d + n ≤ 10000000 → ∀ st : St,
    E L (.func 19) [.sl (sencs xs) .dead, int d] st = some (.tup [.sl (ss (flats xs d)) .dead, .sl (ds (flats xs d)) .dead], st) := by
  intro n
  induction n with
  | zero => exact fun xs h hn d h1 h2 st => row0 xs 0 h hn d h1 h2 (fun x hx => by have := sszs_mem hx; have := S.sz_eq x; omega) st
  | succ n ih => exact fun xs h hn d h1 h2 st => row0 xs (n + 1) h hn d h1 h2 (fun x hx => by
      have := sszs_mem hx
      have hz := S.sz_eq x
      exact fun st => ⟨ih x.body (by omega) (by omega) (d + 1) (by omega) (by omega) st, ih x.els (by omega) (by omega) (d + 1) (by omega) (by omega) st⟩) st
where
  row0 (xs : List S) (n : Nat) (h : sszs xs ≤ n) (hn : n ≤ 1000000) (d : Int) (h1 : 0 ≤ d) (h2 : d + n ≤ 10000000)
      (hf : ∀ x ∈ xs, ∀ (st : St), E L (.func 19) [.sl (sencs x.body) .dead, int (d + 1)] st = some (.tup [.sl (ss (flats x.body (d + 1))) .dead, .sl (ds (flats x.body (d + 1))) .dead], st) ∧
        E L (.func 19) [.sl (sencs x.els) .dead, int (d + 1)] st = some (.tup [.sl (ss (flats x.els (d + 1))) .dead, .sl (ds (flats x.els (d + 1))) .dead], st)) (st : St) :
      E L (.func 19) [.sl (sencs xs) .dead, int d] st = some (.tup [.sl (ss (flats xs d)) .dead, .sl (ds (flats xs d)) .dead], st) := by
    obtain ⟨s, rfl⟩ : ∃ s : St, st = s.app [] [] [] := ⟨st, (app_nil st).symm⟩
    obtain ⟨j, c1, c2, tk', hl⟩ := flat_loop s xs (by omega) d h1 (by omega) xs [] [] .nil .nil [] rfl rfl ⟨Own.nil .., Own.nil .., .inl rfl⟩ hf
    rw [S19_eq]
    have e1 : ss [] = [] := rfl
    have e2 : ds [] = [] := rfl
    simp [e1, e2] at hl
    simp [S19, canon_v, canon_sl, canon_clo, canon_ptr, need_refl, elems_sl, sf_v, sf_sl, sf_ptr, sf_ptrh, sf_clo, sf_dead, sf_nil, sf_full, sf_fr, need_true, ibeq, beq_ba, nbeq, nble, nblt, AM.nth, List.getD_cons_succ, List.getD_cons_zero, Option.bind_some, Option.bind_none, Option.map_some, onBool, AM.onG, onFn, seqK, retK, Ex.outOf, cond_true, cond_false, bin_lss, bin_leq, bin_gtr, bin_geq, bin_eql, bin_neq, bin_add, bin_sub, bin_mul, un_not, str_eql, str_neq, app_push, app_stk, app_tk, app_lp, load_app, load_app0, load_fp, store_app, store_app0, leave_app, leave_app0, AM.ownPut, AM.cellsOf, AM.shift, aPick, fin_v, fin_sl, beq_true, okSz, List.length_cons, List.length_nil, Nat.zero_add, Nat.add_zero, Nat.reduceAdd, decide_true, decide_false, Bool.and_true, Bool.true_and, Bool.and_self, Bool.not_true, Bool.not_false, List.getElem?_cons_zero, List.getElem?_cons_succ, List.nil_append, List.cons_append, hpp_app, hpp_stk, hpp_tk, hpp_lp, hpp_hp, app_lpadd, hload, hload0, hloadh, hstore, hstore0, hleave, hleave0, hfin_v, hfin_sl, hback, hloop, hsetlp, max_int, min_int, hstore_v, hstore_v0, hstore_s, hstore_d, modify_concat, part1, hbackt, hbackl, hback0, List.take_succ_cons, List.take_left, List.take_zero, List.take_nil, len_31, sencs_length]
    rw [hl]
    simp [canon_v, canon_sl, canon_clo, canon_ptr, need_refl, elems_sl, sf_v, sf_sl, sf_ptr, sf_ptrh, sf_clo, sf_dead, sf_nil, sf_full, sf_fr, need_true, ibeq, beq_ba, nbeq, nble, nblt, AM.nth, List.getD_cons_succ, List.getD_cons_zero, Option.bind_some, Option.bind_none, Option.map_some, onBool, AM.onG, onFn, seqK, retK, Ex.outOf, cond_true, cond_false, bin_lss, bin_leq, bin_gtr, bin_geq, bin_eql, bin_neq, bin_add, bin_sub, bin_mul, un_not, str_eql, str_neq, app_push, app_stk, app_tk, app_lp, load_app, load_app0, load_fp, store_app, store_app0, leave_app, leave_app0, AM.ownPut, AM.cellsOf, AM.shift, aPick, fin_v, fin_sl, beq_true, okSz, List.length_cons, List.length_nil, Nat.zero_add, Nat.add_zero, Nat.reduceAdd, decide_true, decide_false, Bool.and_true, Bool.true_and, Bool.and_self, Bool.not_true, Bool.not_false, List.getElem?_cons_zero, List.getElem?_cons_succ, List.nil_append, List.cons_append, hpp_app, hpp_stk, hpp_tk, hpp_lp, hpp_hp, app_lpadd, hload, hload0, hloadh, hstore, hstore0, hleave, hleave0, hfin_v, hfin_sl, hback, hloop, hsetlp, max_int, min_int, hstore_v, hstore_v0, hstore_s, hstore_d, modify_concat, part1, hbackt, hbackl, hback0, List.take_succ_cons, List.take_left, List.take_zero, List.take_nil, fin_tup, flatC, canonC]
end Go.Proofs.Ytkbhejcfejembaa.S

/- Trees: the walk over all statements. No condition. -/
namespace Go.Proofs.Ytkbhejcfejembaa.S
open Go Go.AM Go.Proofs
set_option linter.unusedVariables false
set_option linter.unusedSimpArgs false

/-- So many rounds from the n-th on: did all go on, and how many were there? -/
def run (go : Nat → Bool) : Nat → Nat → Bool × Nat
  | n, 0 => (true, n)
  | n, k + 1 => bif go n then run go (n + 1) k else (false, n + 1)
theorem run_add (go : Nat → Bool) : ∀ (k n m : Nat), run go n (k + m) = bif (run go n k).1 then run go (run go n k).2 m else run go n k
  | 0, n, m => by simp [run]
  | k + 1, n, m => by
    rw [show k + 1 + m = (k + m) + 1 by omega]
    simp only [run]
    cases go n with
    | true => simp only [cond_true]; exact run_add go k (n + 1) m
    | false => rfl
theorem run_true {go : Nat → Bool} : ∀ {k n : Nat}, (run go n k).1 = true → (run go n k).2 = n + k
  | 0, n, _ => rfl
  | k + 1, n, h => by
    simp only [run] at h ⊢
    cases hg : go n with
    | true => rw [hg] at h; simp only [cond_true] at h ⊢; rw [run_true h]; omega
    | false => rw [hg] at h; cases h

/-- Have all rounds so far gone on? -/
def Alive (go : Nat → Bool) (n : Nat) : Prop := ∀ m, m < n → go m = true
theorem Alive.run {go : Nat → Bool} : ∀ {k n : Nat}, Alive go n → (run go n k).1 = true → Alive go (n + k)
  | 0, n, h, _ => h
  | k + 1, n, h, hr => by
    simp only [S.run] at hr
    cases hg : go n with
    | false => rw [hg] at hr; cases hr
    | true =>
      rw [hg] at hr
      have h' : Alive go (n + 1) := fun m hm => by
        rcases Nat.lt_succ_iff_lt_or_eq.1 hm with hm | rfl
        · exact h m hm
        · exact hg
      have := Alive.run h' hr
      rwa [show n + 1 + k = n + (k + 1) by omega] at this

section
variable {W : List (S × Int)} {i : Nat} {go : Nat → Bool}

theorem walk_step (N T Lb : Nat) (Q : Nat → St) (hN : ∀ n, (Q n).stk.length = N) (hL : ∀ n, (Q n).lp.length = Lb) (xs0 : List S) (hb : sszs xs0 ≤ 1000000) (d : Int) (hd : 0 ≤ d) (hd2 : d ≤ 10000000)
    (hr : ∀ n x d (bl : List Blk), Alive go n → W[n]? = some (x, d) → E L (.yield i) [int d, .agg x.enc] ((Q n).app bl [] []) = some (.v (.bool (go n)), (Q (n + 1)).app bl [] []))
    (x : S) (xs p : List S) (hx : xs0 = p ++ x :: xs) (n : Nat) (ha : Alive go n) (hW : W[n]? = some (x, d))
    (hb1 : go n = true → ∀ bl : List Blk, E L (.func 46) [.sl (sencs x.body) .dead, int (d + 1), .clo (.yield i) []] ((Q (n + 1)).app bl [] []) = some (.v (.bool (run go (n + 1) (flats x.body (d + 1)).length).1), (Q (run go (n + 1) (flats x.body (d + 1)).length).2).app bl [] []))
    (hb2 : (run go n (1 + (flats x.body (d + 1)).length)).1 = true → ∀ bl : List Blk, E L (.func 46) [.sl (sencs x.els) .dead, int (d + 1), .clo (.yield i) []] ((Q (n + 1 + (flats x.body (d + 1)).length)).app bl [] []) =
      some (.v (.bool (run go (n + 1 + (flats x.body (d + 1)).length) (flats x.els (d + 1)).length).1), (Q (run go (n + 1 + (flats x.body (d + 1)).length) (flats x.els (d + 1)).length).2).app bl [] [])) :
    S46.b0 (E L) itE N Lb [int d, .clo (.yield i) [], .v (.bool false), .sl (sencs xs0) .dead, int xs0.length, int p.length] ((Q n).app [] [] []) =
      some (bif (run go n (x.flat d).length).1 then .normal else .ret, [int d, .clo (.yield i) [], .v (.bool false), .sl (sencs xs0) .dead, int xs0.length, int (bif (run go n (x.flat d).length).1 then p.length + 1 else p.length : Int)], (Q (run go n (x.flat d).length).2).app [] [] []) := by
  have hlt : (p.length : Int) < (xs0.length : Int) := by rw [hx]; simp; omega
  have g1 : (sencs xs0)[p.length]? = some x.enc := by rw [hx]; exact sencs_get p x xs
  have r1 : inRange (p.length : Int) (sencs xs0).length = true := by rw [sencs_length, hx]; exact inR p x xs
  have hl0 := sszs_len xs0
  have hpl : p.length < xs0.length := by rw [hx]; simp
  have w1 : IntKind.i64.wrap ((p.length : Int) + 1) = (p.length : Int) + 1 := IntWalk.i64_in _ (by omega)
  have wd : IntKind.i64.wrap (d + 1) = d + 1 := IntWalk.i64_in _ (by omega)
  have lv : ∀ n bl x vs, leaveV N Lb N x vs ((Q n).app bl [] []) = bif vs.all (sf true N 4) then some (x, vs, (Q n).app [] [] []) else none := fun n bl x vs => by
    have := leave_app0 (Q n) bl [] [] x vs
    rw [hN, hL] at this
    rw [this]; rfl
  have ld : ∀ n agg sz off bl, aLoad agg sz (.ptr false N off) ((Q n).app bl [] []) = ((bl[0]?).map Blk.cs).bind (AM.part agg sz off) := fun n agg sz off bl => by
    have := load_app0 agg sz off (Q n) bl [] []
    rwa [hN] at this
  have sto : ∀ n sz off v bl, aStore N sz (.ptr false N off) v ((Q n).app bl [] []) = (ownPut bl 0 off sz v).map fun bl => (Q n).app bl [] [] := fun n sz off v bl => by
    have := store_app0 sz off v (Q n) bl [] []
    rwa [hN] at this
  have hfl : (x.flat d).length = 1 + (flats x.body (d + 1)).length + (flats x.els (d + 1)).length := by rw [S.flat_eq]; simp; omega
  have h1 : run go n 1 = bif go n then (true, n + 1) else (false, n + 1) := rfl
  have hcy : canon (.clo (.yield i) []) = .clo (.yield i) [] := rfl
  have sfy : ∀ m, sf true m 4 (.clo (.yield i) []) = true := fun m => rfl
  have hy := hr n x d [⟨x.enc, []⟩] ha hW
  rw [hfl, run_add]
  cases hg : go n with
  | false =>
    have e1 : run go n (1 + (flats x.body (d + 1)).length) = (false, n + 1) := by rw [run_add, h1, hg]; rfl
    rw [hg] at hy
    rw [e1]
    simp [S46.b0, canon_v, canon_sl, canon_clo, canon_ptr, need_refl, elems_sl, sf_v, sf_sl, sf_ptr, sf_ptrh, sf_clo, sf_dead, sf_nil, sf_full, sf_fr, need_true, ibeq, beq_ba, nbeq, nble, nblt, AM.nth, List.getD_cons_succ, List.getD_cons_zero, Option.bind_some, Option.bind_none, Option.map_some, onBool, AM.onG, onFn, seqK, retK, Ex.outOf, cond_true, cond_false, bin_lss, bin_leq, bin_gtr, bin_geq, bin_eql, bin_neq, bin_add, bin_sub, bin_mul, un_not, str_eql, str_neq, app_push, app_stk, app_tk, app_lp, load_app, load_app0, load_fp, store_app, store_app0, leave_app, leave_app0, AM.ownPut, AM.cellsOf, AM.shift, aPick, fin_v, fin_sl, beq_true, okSz, List.length_cons, List.length_nil, Nat.zero_add, Nat.add_zero, Nat.reduceAdd, decide_true, decide_false, Bool.and_true, Bool.true_and, Bool.and_self, Bool.not_true, Bool.not_false, List.getElem?_cons_zero, List.getElem?_cons_succ, List.nil_append, List.cons_append, hpp_app, hpp_stk, hpp_tk, hpp_lp, hpp_hp, app_lpadd, hload, hload0, hloadh, hstore, hstore0, hleave, hleave0, hfin_v, hfin_sl, hback, hloop, hsetlp, max_int, min_int, hstore_v, hstore_v0, hstore_s, hstore_d, modify_concat, part1, hbackt, hbackl, hback0, List.take_succ_cons, List.take_left, List.take_zero, List.take_nil, hlt, ia_31, r1, g1, S.len, S.whole, S.okc, S.can, laid0, hN, sto, ld, hy, lv, sfy]
  | true =>
    have e1 : run go n (1 + (flats x.body (d + 1)).length) = run go (n + 1) (flats x.body (d + 1)).length := by rw [run_add, h1, hg]; rfl
    rw [hg] at hy
    have hb1 := hb1 hg [⟨x.enc, []⟩]
    rw [e1] at hb2 ⊢
    cases h2 : (run go (n + 1) (flats x.body (d + 1)).length).1 with
    | false =>
      rw [h2] at hb1
      simp [S46.b0, canon_v, canon_sl, canon_clo, canon_ptr, need_refl, elems_sl, sf_v, sf_sl, sf_ptr, sf_ptrh, sf_clo, sf_dead, sf_nil, sf_full, sf_fr, need_true, ibeq, beq_ba, nbeq, nble, nblt, AM.nth, List.getD_cons_succ, List.getD_cons_zero, Option.bind_some, Option.bind_none, Option.map_some, onBool, AM.onG, onFn, seqK, retK, Ex.outOf, cond_true, cond_false, bin_lss, bin_leq, bin_gtr, bin_geq, bin_eql, bin_neq, bin_add, bin_sub, bin_mul, un_not, str_eql, str_neq, app_push, app_stk, app_tk, app_lp, load_app, load_app0, load_fp, store_app, store_app0, leave_app, leave_app0, AM.ownPut, AM.cellsOf, AM.shift, aPick, fin_v, fin_sl, beq_true, okSz, List.length_cons, List.length_nil, Nat.zero_add, Nat.add_zero, Nat.reduceAdd, decide_true, decide_false, Bool.and_true, Bool.true_and, Bool.and_self, Bool.not_true, Bool.not_false, List.getElem?_cons_zero, List.getElem?_cons_succ, List.nil_append, List.cons_append, hpp_app, hpp_stk, hpp_tk, hpp_lp, hpp_hp, app_lpadd, hload, hload0, hloadh, hstore, hstore0, hleave, hleave0, hfin_v, hfin_sl, hback, hloop, hsetlp, max_int, min_int, hstore_v, hstore_v0, hstore_s, hstore_d, modify_concat, part1, hbackt, hbackl, hback0, List.take_succ_cons, List.take_left, List.take_zero, List.take_nil, hlt, ia_31, r1, g1, S.len, S.whole, S.okc, S.can, laid0, hN, sto, ld, hy, lv, sfy, S.p54_1, wd, hcy, hb1, h2]
    | true =>
      have hb2 := hb2 h2 [⟨x.enc, []⟩]
      rw [h2, run_true h2] at hb1
      rw [run_true h2]
      cases h3 : (run go (n + 1 + (flats x.body (d + 1)).length) (flats x.els (d + 1)).length).1 with
      | false =>
        rw [h3] at hb2
        simp [S46.b0, canon_v, canon_sl, canon_clo, canon_ptr, need_refl, elems_sl, sf_v, sf_sl, sf_ptr, sf_ptrh, sf_clo, sf_dead, sf_nil, sf_full, sf_fr, need_true, ibeq, beq_ba, nbeq, nble, nblt, AM.nth, List.getD_cons_succ, List.getD_cons_zero, Option.bind_some, Option.bind_none, Option.map_some, onBool, AM.onG, onFn, seqK, retK, Ex.outOf, cond_true, cond_false, bin_lss, bin_leq, bin_gtr, bin_geq, bin_eql, bin_neq, bin_add, bin_sub, bin_mul, un_not, str_eql, str_neq, app_push, app_stk, app_tk, app_lp, load_app, load_app0, load_fp, store_app, store_app0, leave_app, leave_app0, AM.ownPut, AM.cellsOf, AM.shift, aPick, fin_v, fin_sl, beq_true, okSz, List.length_cons, List.length_nil, Nat.zero_add, Nat.add_zero, Nat.reduceAdd, decide_true, decide_false, Bool.and_true, Bool.true_and, Bool.and_self, Bool.not_true, Bool.not_false, List.getElem?_cons_zero, List.getElem?_cons_succ, List.nil_append, List.cons_append, hpp_app, hpp_stk, hpp_tk, hpp_lp, hpp_hp, app_lpadd, hload, hload0, hloadh, hstore, hstore0, hleave, hleave0, hfin_v, hfin_sl, hback, hloop, hsetlp, max_int, min_int, hstore_v, hstore_v0, hstore_s, hstore_d, modify_concat, part1, hbackt, hbackl, hback0, List.take_succ_cons, List.take_left, List.take_zero, List.take_nil, hlt, ia_31, r1, g1, S.len, S.whole, S.okc, S.can, laid0, hN, sto, ld, hy, lv, sfy, S.p54_1, wd, hcy, hb1, S.p55_1, hb2, h3]
      | true =>
        rw [h3] at hb2
        simp [S46.b0, canon_v, canon_sl, canon_clo, canon_ptr, need_refl, elems_sl, sf_v, sf_sl, sf_ptr, sf_ptrh, sf_clo, sf_dead, sf_nil, sf_full, sf_fr, need_true, ibeq, beq_ba, nbeq, nble, nblt, AM.nth, List.getD_cons_succ, List.getD_cons_zero, Option.bind_some, Option.bind_none, Option.map_some, onBool, AM.onG, onFn, seqK, retK, Ex.outOf, cond_true, cond_false, bin_lss, bin_leq, bin_gtr, bin_geq, bin_eql, bin_neq, bin_add, bin_sub, bin_mul, un_not, str_eql, str_neq, app_push, app_stk, app_tk, app_lp, load_app, load_app0, load_fp, store_app, store_app0, leave_app, leave_app0, AM.ownPut, AM.cellsOf, AM.shift, aPick, fin_v, fin_sl, beq_true, okSz, List.length_cons, List.length_nil, Nat.zero_add, Nat.add_zero, Nat.reduceAdd, decide_true, decide_false, Bool.and_true, Bool.true_and, Bool.and_self, Bool.not_true, Bool.not_false, List.getElem?_cons_zero, List.getElem?_cons_succ, List.nil_append, List.cons_append, hpp_app, hpp_stk, hpp_tk, hpp_lp, hpp_hp, app_lpadd, hload, hload0, hloadh, hstore, hstore0, hleave, hleave0, hfin_v, hfin_sl, hback, hloop, hsetlp, max_int, min_int, hstore_v, hstore_v0, hstore_s, hstore_d, modify_concat, part1, hbackt, hbackl, hback0, List.take_succ_cons, List.take_left, List.take_zero, List.take_nil, hlt, ia_31, r1, g1, S.len, S.whole, S.okc, S.can, laid0, hN, sto, ld, hy, lv, sfy, S.p54_1, wd, hcy, hb1, S.p55_1, hb2, h3, w1]

theorem get_mid {α : Type} {W a b c : List α} {n j : Nat} (h : W = a ++ b ++ c) (ha : a.length = n) (hj : j < b.length) : W[n + j]? = b[j]? := by
  subst h ha
  rw [List.append_assoc, List.getElem?_append_right (by omega), List.getElem?_append_left (by omega)]
  congr 1; omega

theorem walk_loop (N Lb : Nat) (Q : Nat → St) (hN : ∀ n, (Q n).stk.length = N) (hL : ∀ n, (Q n).lp.length = Lb) (xs0 : List S) (hb : sszs xs0 ≤ 1000000) (d : Int) (hd : 0 ≤ d) (hd2 : d ≤ 10000000)
    (hr : ∀ n x d (bl : List Blk), Alive go n → W[n]? = some (x, d) → E L (.yield i) [int d, .agg x.enc] ((Q n).app bl [] []) = some (.v (.bool (go n)), (Q (n + 1)).app bl [] []))
    (hsub : ∀ x ∈ xs0, ∀ (n : Nat) (bl : List Blk) (ys : List S), Alive go n → ys = x.body ∨ ys = x.els → (∀ j, j < (flats ys (d + 1)).length → W[n + j]? = (flats ys (d + 1))[j]?) →
      E L (.func 46) [.sl (sencs ys) .dead, int (d + 1), .clo (.yield i) []] ((Q n).app bl [] []) = some (.v (.bool (run go n (flats ys (d + 1)).length).1), (Q (run go n (flats ys (d + 1)).length).2).app bl [] [])) :
    ∀ (xs p : List S) (n : Nat), Alive go n → xs0 = p ++ xs → (∀ j, j < (flats xs d).length → W[n + j]? = (flats xs d)[j]?) →
    ∃ j : Int, itE (S46.b0 (E L) itE N Lb) [int d, .clo (.yield i) [], .v (.bool false), .sl (sencs xs0) .dead, int xs0.length, int p.length] ((Q n).app [] [] []) =
      some (bif (run go n (flats xs d).length).1 then .exit 0 else .ret, [int d, .clo (.yield i) [], .v (.bool false), .sl (sencs xs0) .dead, int xs0.length, int j], (Q (run go n (flats xs d).length).2).app [] [] [])
  | [], p, n, ha, hx, hW => by
    refine ⟨p.length, ?_⟩
    rw [itE_eq]
    have e : xs0.length = p.length := by rw [hx]; simp
    have lv : ∀ n bl x vs, leaveV N Lb N x vs ((Q n).app bl [] []) = bif vs.all (sf true N 4) then some (x, vs, (Q n).app [] [] []) else none := fun n bl x vs => by
      have := leave_app0 (Q n) bl [] [] x vs
      rw [hN, hL] at this
      rw [this]; rfl
    have sfy : ∀ m, sf true m 4 (.clo (.yield i) []) = true := fun m => rfl
    simp [S46.b0, canon_v, canon_sl, canon_clo, canon_ptr, need_refl, elems_sl, sf_v, sf_sl, sf_ptr, sf_ptrh, sf_clo, sf_dead, sf_nil, sf_full, sf_fr, need_true, ibeq, beq_ba, nbeq, nble, nblt, AM.nth, List.getD_cons_succ, List.getD_cons_zero, Option.bind_some, Option.bind_none, Option.map_some, onBool, AM.onG, onFn, seqK, retK, Ex.outOf, cond_true, cond_false, bin_lss, bin_leq, bin_gtr, bin_geq, bin_eql, bin_neq, bin_add, bin_sub, bin_mul, un_not, str_eql, str_neq, app_push, app_stk, app_tk, app_lp, load_app, load_app0, load_fp, store_app, store_app0, leave_app, leave_app0, AM.ownPut, AM.cellsOf, AM.shift, aPick, fin_v, fin_sl, beq_true, okSz, List.length_cons, List.length_nil, Nat.zero_add, Nat.add_zero, Nat.reduceAdd, decide_true, decide_false, Bool.and_true, Bool.true_and, Bool.and_self, Bool.not_true, Bool.not_false, List.getElem?_cons_zero, List.getElem?_cons_succ, List.nil_append, List.cons_append, hpp_app, hpp_stk, hpp_tk, hpp_lp, hpp_hp, app_lpadd, hload, hload0, hloadh, hstore, hstore0, hleave, hleave0, hfin_v, hfin_sl, hback, hloop, hsetlp, max_int, min_int, hstore_v, hstore_v0, hstore_s, hstore_d, modify_concat, part1, hbackt, hbackl, hback0, List.take_succ_cons, List.take_left, List.take_zero, List.take_nil, e, flats, run, hN, lv, sfy]
  | x :: xs, p, n, ha, hx, hW => by
    have hfl : x.flat d = (x, d) :: (flats x.body (d + 1) ++ flats x.els (d + 1)) := S.flat_eq x d
    have hff : flats (x :: xs) d = (x, d) :: (flats x.body (d + 1) ++ flats x.els (d + 1)) ++ flats xs d := by rw [← hfl]; rfl
    have hlen : (flats (x :: xs) d).length = (x.flat d).length + (flats xs d).length := by rw [hff, hfl]; simp; omega
    rw [hff] at hW
    have hm : x ∈ xs0 := by rw [hx]; simp
    have hst := walk_step (go := go) N 0 Lb Q hN hL xs0 hb d hd hd2 hr x xs p hx n ha (by have := hW 0 (by simp); simpa using this)
      (fun hg bl => hsub x hm (n + 1) bl x.body (Alive.run (k := 1) ha (by simp [run, hg])) (.inl rfl) fun j hj => by
        have := hW (1 + j) (by simp; omega)
        rw [← Nat.add_assoc] at this
        rw [this, show 1 + j = j + 1 by omega, List.cons_append, List.getElem?_cons_succ, List.append_assoc, List.getElem?_append_left hj])
      (fun hg bl => hsub x hm (n + 1 + (flats x.body (d + 1)).length) bl x.els (by have := Alive.run ha hg; rwa [← Nat.add_assoc] at this) (.inr rfl) fun j hj => by
        have := hW (1 + (flats x.body (d + 1)).length + j) (by simp; omega)
        rw [show n + (1 + (flats x.body (d + 1)).length + j) = n + 1 + (flats x.body (d + 1)).length + j by omega] at this
        rw [this, show 1 + (flats x.body (d + 1)).length + j = ((flats x.body (d + 1)).length + j) + 1 by omega, List.cons_append, List.getElem?_cons_succ, List.append_assoc, List.getElem?_append_right (by omega),
          show (flats x.body (d + 1)).length + j - (flats x.body (d + 1)).length = j by omega, List.getElem?_append_left hj])
    rw [hlen, run_add]
    cases h : (run go n (x.flat d).length).1 with
    | false =>
      rw [h] at hst
      refine ⟨p.length, ?_⟩
      simp only [cond_false, h] at hst ⊢
      exact it_ret hst
    | true =>
      have hal := Alive.run ha h
      rw [h, run_true h] at hst
      have ih := walk_loop N Lb Q hN hL xs0 hb d hd hd2 hr hsub xs (p ++ [x]) (n + (x.flat d).length) hal (by simp [hx]) fun j hj => by
        have := hW ((x.flat d).length + j) (by rw [← hfl]; simp; omega)
        rw [← Nat.add_assoc] at this
        rw [this, ← hfl, List.getElem?_append_right (by omega), show (x.flat d).length + j - (x.flat d).length = j by omega]
      obtain ⟨j, hj⟩ := ih
      rw [run_true h]
      refine ⟨j, ?_⟩
      simp only [cond_true]
      rw [← hj, List.length_append]
      exact it_step hst

theorem walk_ev (N T Lb : Nat) (Q : Nat → St) (hN : ∀ n, (Q n).stk.length = N) (hT : ∀ n, (Q n).tk.length = T) (hL : ∀ n, (Q n).lp.length = Lb)
    (hr : ∀ n x d (bl : List Blk), Alive go n → W[n]? = some (x, d) → E L (.yield i) [int d, .agg x.enc] ((Q n).app bl [] []) = some (.v (.bool (go n)), (Q (n + 1)).app bl [] [])) :
    ∀ (z : Nat) (xs : List S), sszs xs ≤ z → z ≤ 1000000 → ∀ (d : Int), 0 ≤ d → d + z ≤ 10000000 → ∀ (n : Nat) (bl : List Blk), Alive go n → (∀ j, j < (flats xs d).length → W[n + j]? = (flats xs d)[j]?) →
      E L (.func 46) [.sl (sencs xs) .dead, int d, .clo (.yield i) []] ((Q n).app bl [] []) = some (.v (.bool (run go n (flats xs d).length).1), (Q (run go n (flats xs d).length).2).app bl [] []) := by
  intro z
  induction z with
  | zero =>
    intro xs h hn d h1 h2 n bl ha hW
    exact one xs 0 h hn d h1 h2 n bl ha hW (fun x hx => by have := sszs_mem hx; have := S.sz_eq x; omega)
  | succ z ih =>
    intro xs h hn d h1 h2 n bl ha hW
    refine one xs (z + 1) h hn d h1 h2 n bl ha hW fun x hx m bl ys ha hy hw => ?_
    have := sszs_mem hx
    have hz := S.sz_eq x
    rcases hy with rfl | rfl
    · exact ih x.body (by omega) (by omega) (d + 1) (by omega) (by omega) m bl ha hw
    · exact ih x.els (by omega) (by omega) (d + 1) (by omega) (by omega) m bl ha hw
where
  one (xs : List S) (z : Nat) (h : sszs xs ≤ z) (hn : z ≤ 1000000) (d : Int) (h1 : 0 ≤ d) (h2 : d + z ≤ 10000000) (n : Nat) (bl : List Blk) (ha : Alive go n) (hW : ∀ j, j < (flats xs d).length → W[n + j]? = (flats xs d)[j]?)
      (hsub : ∀ x ∈ xs, ∀ (n : Nat) (bl : List Blk) (ys : List S), Alive go n → ys = x.body ∨ ys = x.els → (∀ j, j < (flats ys (d + 1)).length → W[n + j]? = (flats ys (d + 1))[j]?) →
        E L (.func 46) [.sl (sencs ys) .dead, int (d + 1), .clo (.yield i) []] ((Q n).app bl [] []) = some (.v (.bool (run go n (flats ys (d + 1)).length).1), (Q (run go n (flats ys (d + 1)).length).2).app bl [] [])) :
      E L (.func 46) [.sl (sencs xs) .dead, int d, .clo (.yield i) []] ((Q n).app bl [] []) = some (.v (.bool (run go n (flats xs d).length).1), (Q (run go n (flats xs d).length).2).app bl [] []) := by
    have aa : ∀ n (b2 : List Blk), ((Q n).app bl [] []).app b2 [] [] = (Q n).app (bl ++ b2) [] [] := fun n b2 => by simp [St.app]
    obtain ⟨j, hj⟩ := walk_loop (W := W) (i := i) (go := go) (N + bl.length) Lb (fun n => (Q n).app bl [] []) (fun n => by rw [app_stk, hN]) (fun n => by rw [app_lp, hL]; rfl) xs (by omega) d h1 (by omega)
      (fun n x d b2 ha hw => by rw [aa, aa]; exact hr n x d (bl ++ b2) ha hw)
      (fun x hx n b2 ys ha hy hw => by rw [aa, aa]; exact hsub x hx n (bl ++ b2) ys ha hy hw) xs [] n ha rfl hW
    have f0 : ∀ n x, fin (N + bl.length) T Lb [.v x] ((Q n).app bl [] []) = some (.v x, (Q n).app bl [] []) := fun n x => by
      have := fin_v ((Q n).app bl [] []) [] [] [] x
      rw [app_stk, app_tk, app_lp, hN, hT, hL, aa] at this
      simpa using this
    rw [S46_eq]
    simp only [S46, app_stk, app_tk, app_lp, hN, hT, hL, len_31, sencs_length, Option.bind_some, List.length_nil, Nat.add_zero]
    simp only [aa, List.append_nil, List.length_nil, Int.natCast_zero] at hj
    rw [hj]
    cases h : (run go n (flats xs d).length).1 with
    | true => simp [canon_v, canon_sl, canon_clo, canon_ptr, need_refl, elems_sl, sf_v, sf_sl, sf_ptr, sf_ptrh, sf_clo, sf_dead, sf_nil, sf_full, sf_fr, need_true, ibeq, beq_ba, nbeq, nble, nblt, AM.nth, List.getD_cons_succ, List.getD_cons_zero, Option.bind_some, Option.bind_none, Option.map_some, onBool, AM.onG, onFn, seqK, retK, Ex.outOf, cond_true, cond_false, bin_lss, bin_leq, bin_gtr, bin_geq, bin_eql, bin_neq, bin_add, bin_sub, bin_mul, un_not, str_eql, str_neq, app_push, app_stk, app_tk, app_lp, load_app, load_app0, load_fp, store_app, store_app0, leave_app, leave_app0, AM.ownPut, AM.cellsOf, AM.shift, aPick, fin_v, fin_sl, beq_true, okSz, List.length_cons, List.length_nil, Nat.zero_add, Nat.add_zero, Nat.reduceAdd, decide_true, decide_false, Bool.and_true, Bool.true_and, Bool.and_self, Bool.not_true, Bool.not_false, List.getElem?_cons_zero, List.getElem?_cons_succ, List.nil_append, List.cons_append, hpp_app, hpp_stk, hpp_tk, hpp_lp, hpp_hp, app_lpadd, hload, hload0, hloadh, hstore, hstore0, hleave, hleave0, hfin_v, hfin_sl, hback, hloop, hsetlp, max_int, min_int, hstore_v, hstore_v0, hstore_s, hstore_d, modify_concat, part1, hbackt, hbackl, hback0, List.take_succ_cons, List.take_left, List.take_zero, List.take_nil, f0]
    | false => simp [canon_v, canon_sl, canon_clo, canon_ptr, need_refl, elems_sl, sf_v, sf_sl, sf_ptr, sf_ptrh, sf_clo, sf_dead, sf_nil, sf_full, sf_fr, need_true, ibeq, beq_ba, nbeq, nble, nblt, AM.nth, List.getD_cons_succ, List.getD_cons_zero, Option.bind_some, Option.bind_none, Option.map_some, onBool, AM.onG, onFn, seqK, retK, Ex.outOf, cond_true, cond_false, bin_lss, bin_leq, bin_gtr, bin_geq, bin_eql, bin_neq, bin_add, bin_sub, bin_mul, un_not, str_eql, str_neq, app_push, app_stk, app_tk, app_lp, load_app, load_app0, load_fp, store_app, store_app0, leave_app, leave_app0, AM.ownPut, AM.cellsOf, AM.shift, aPick, fin_v, fin_sl, beq_true, okSz, List.length_cons, List.length_nil, Nat.zero_add, Nat.add_zero, Nat.reduceAdd, decide_true, decide_false, Bool.and_true, Bool.true_and, Bool.and_self, Bool.not_true, Bool.not_false, List.getElem?_cons_zero, List.getElem?_cons_succ, List.nil_append, List.cons_append, hpp_app, hpp_stk, hpp_tk, hpp_lp, hpp_hp, app_lpadd, hload, hload0, hloadh, hstore, hstore0, hleave, hleave0, hfin_v, hfin_sl, hback, hloop, hsetlp, max_int, min_int, hstore_v, hstore_v0, hstore_s, hstore_d, modify_concat, part1, hbackt, hbackl, hback0, List.take_succ_cons, List.take_left, List.take_zero, List.take_nil, f0]
end
end Go.Proofs.Ytkbhejcfejembaa.S

/- Trees: All, and what it goes over. No condition. -/
namespace Go.Proofs.Ytkbhejcfejembaa.S
open Go Go.AM Go.Proofs
set_option linter.unusedVariables false
set_option linter.unusedSimpArgs false

theorem all_ev (xs : List S) (st : St) : E L (.func 26) [.sl (sencs xs) .dead] st = some (.clo (.func 45) [.ptr true st.hp.length 0], st.hpp [⟨[.sl (sencs xs) .dead], []⟩]) := by
  rw [S26_eq]
  have h1 : aBox true [.sl (sencs xs) .dead] st = some (.ptr true st.hp.length 0, st.hpp [⟨[.sl (sencs xs) .dead], []⟩]) := by
    simp [aBox, okCells, moveCs, moveC, St.hpush, St.setBlk, St.upB, St.hpp, modify_concat]
  have h2 : fin st.stk.length st.tk.length st.lp.length [.clo (.func 45) [.ptr true st.hp.length 0]] (st.hpp [⟨[.sl (sencs xs) .dead], []⟩]) = some (.clo (.func 45) [.ptr true st.hp.length 0], st.hpp [⟨[.sl (sencs xs) .dead], []⟩]) := by
    have : (st.hpp [⟨[.sl (sencs xs) .dead], []⟩]).back st.stk.length st.tk.length st.lp.length = st.hpp [⟨[.sl (sencs xs) .dead], []⟩] := by simp [St.back, St.hpp]
    simp only [fin, this]
    rfl
  simp only [S26, AM.cellsOf, Option.bind_some, h1, aMakeFunc, plainFn, Bool.and_self, cond_true, List.map_cons, List.map_nil, canon_ptr, h2]

theorem all1_ev {st st' : St} {b : Nat} {xs : List S} {i : Nat} {r : PV} (hb : st.blk true b = some [.sl (sencs xs) .dead]) (h : E L (.func 46) [.sl (sencs xs) .dead, int 0, .clo (.yield i) []] st = some (r, st'))
    (h1 : st'.stk.length = st.stk.length) (h2 : st'.tk.length = st.tk.length) (h3 : st'.lp.length = st.lp.length) : E L (.func 45) [.clo (.yield i) [], .ptr true b 0] st = some (.tup [], st') := by
  have hl : aLoad false 1 (.ptr true b 0) st = some (.sl (sencs xs) .dead) := by simp [aLoad, hb, AM.part]
  have hback : st'.back st.stk.length st.tk.length st.lp.length = st' := by simp only [St.back, ← h1, ← h2, ← h3, List.take_length]
  have hc : canon (.clo (.yield i) []) = .clo (.yield i) [] := rfl
  rw [S45_eq]
  simp only [S45, hl, Option.bind_some, canon_sl, canon_v, hc, h]
  simp only [fin, hback]
  rfl

mutual
theorem S.flat_sz : ∀ (x : S) (d : Int), ∀ y ∈ x.flat d, y.1.sz ≤ x.sz
  | ⟨op, name, right, place, e, n, args, body, els, l, c⟩, d => fun y hy => by
    have h1 := flats_sz body (d + 1)
    have h2 := flats_sz els (d + 1)
    simp only [S.flat, List.mem_cons, List.mem_append] at hy
    rcases hy with rfl | hy | hy
    · exact Nat.le_refl _
    · have := h1 y hy; simp only [S.sz]; omega
    · have := h2 y hy; simp only [S.sz]; omega
theorem flats_sz : ∀ (xs : List S) (d : Int), ∀ y ∈ flats xs d, y.1.sz ≤ sszs xs
  | [], d => fun y hy => by simp [flats] at hy
  | x :: xs, d => fun y hy => by
    simp only [flats, List.mem_append] at hy
    rcases hy with hy | hy
    · have := S.flat_sz x d y hy; simp [sszs]; omega
    · have := flats_sz xs d y hy; simp [sszs]; omega
end
theorem ss_get {W : List (S × Int)} {n : Nat} {x : S} {d : Int} (h : W[n]? = some (x, d)) : (ss W)[n]? = some x.enc := by simp [ss, sencs_map, h]
theorem ds_get {W : List (S × Int)} {n : Nat} {x : S} {d : Int} (h : W[n]? = some (x, d)) : (ds W)[n]? = some [int d] := by simp [ds, ints, h]

theorem S.still (x : S) : x.enc.all stillC = true := by simp only [S.enc_eq, Rt.enc, Pl.enc, X.enc_eq]; rfl
/-! ### what the statement's own All-watcher does -/
section
variable (s : St) (hs : List Blk) (W : List (S × Int)) (most : Int)
def gcnt (n : Nat) : Nat := min n most.toNat
def gbl (n : Nat) : List Blk := [⟨[int most], []⟩, ⟨[int 0], []⟩, ⟨[.v (.bool false)], []⟩, ⟨[.sl (ss W) .dead], []⟩, ⟨[.sl (ds W) .dead], []⟩, ⟨[int n], []⟩]
def gvs : List PV := [.ptr false s.stk.length 0, .ptr false (s.stk.length + 1) 0, .ptr false (s.stk.length + 2) 0, .ptr false (s.stk.length + 3) 0, .ptr false (s.stk.length + 4) 0, .ptr false (s.stk.length + 5) 0]
noncomputable def grec (n : Nat) : Lp := bif Nat.ble n most.toNat then S9.lp0 (gvs s) else { S9.lp0 (gvs s) with at_ := 2, pend := .exit 0 }
noncomputable def gst (n : Nat) : St := (s.hpp hs).app (gbl W most (gcnt most n)) [] [.loop (grec s most n)]

theorem gone_rnd (hW : ∀ y ∈ W, y.1.sz ≤ 1000000) (hl : W.length ≤ 1000000) (n : Nat) (x : S) (d : Int) (bl : List Blk) (ha : Alive (fun n => decide (n < most.toNat)) n) (h : W[n]? = some (x, d)) :
    E L (.yield s.lp.length) [int d, .agg x.enc] ((gst s hs W most n).app bl [] []) = some (.v (.bool (decide (n < most.toNat))), (gst s hs W most (n + 1)).app bl [] []) := by
  have hn : n ≤ most.toNat := by
    rcases Nat.lt_or_ge most.toNat n with hh | hh
    · have := ha most.toNat hh; simp at this
    · exact hh
  have hlt : n < W.length := (List.getElem?_eq_some_iff.1 h).1
  have hx := hW (x, d) (List.mem_of_getElem? h)
  have hc0 : gcnt most n = n := Nat.min_eq_left hn
  have hst : ∀ n bl, (gst s hs W most n).app bl [] [] = (s.hpp hs).app (gbl W most (gcnt most n) ++ bl) [] [.loop (grec s most n)] := fun n bl => by simp [gst, St.app]
  have hr0 : grec s most n = S9.lp0 (gvs s) := by simp [grec, nble, hn]
  have hw1 : IntKind.i64.wrap ((n : Int) + 1) = ((n + 1 : Nat) : Int) := by rw [IntWalk.i64_in _ (by omega)]; rfl
  have bx : ∀ z, z.length = 58 → rBuildSlice 58 z 1 [(0, .agg x.enc)] = some (.sl [x.enc] .full) := fun z hz => lit1 hz x.len x.pl x.len
  have hrow : ∀ st, E L (.func 15) [.sl [x.enc] .dead] st = some (.sl (strs (rowT [x])) .dead, st) := fun st => by
    have := row_ev 1000000 [x] (by simp [sszs]; exact hx) (Nat.le_refl _) st
    simpa [sencs] using this
  have hsame := fun st => ssm_ev (rowT [x]) (rowT [x]) (by have := stxs_len [x]; rw [rowT_len]; simp [sszs] at this hx ⊢; omega) st
  have g1 := ss_get h
  have g2 := ds_get h
  have i1 : inRange (n : Int) W.length = true := by simp [inRange]; omega
  have hge : ¬ (n : Int) ≥ (W.length : Int) := by omega
  rw [hst, hst, hc0, hr0]
  rw [S9.r0_eq (hloop ..)]
  by_cases hg : n < most.toNat
  · have hlt2 : ¬ (n : Int) ≥ most := by omega
    have hc1 : gcnt most (n + 1) = n + 1 := Nat.min_eq_left hg
    have hr1 : grec s most (n + 1) = S9.lp0 (gvs s) := by simp only [grec, nble, decide_eq_true (show n + 1 ≤ most.toNat from hg), cond_true]
    rw [hc1, hr1]
    simp [S9.r0, gvs, gbl, canon_v, canon_sl, canon_clo, canon_ptr, need_refl, elems_sl, sf_v, sf_sl, sf_ptr, sf_ptrh, sf_clo, sf_dead, sf_nil, sf_full, sf_fr, need_true, ibeq, beq_ba, nbeq, nble, nblt, AM.nth, List.getD_cons_succ, List.getD_cons_zero, Option.bind_some, Option.bind_none, Option.map_some, onBool, AM.onG, onFn, seqK, retK, Ex.outOf, cond_true, cond_false, bin_lss, bin_leq, bin_gtr, bin_geq, bin_eql, bin_neq, bin_add, bin_sub, bin_mul, un_not, str_eql, str_neq, app_push, app_stk, app_tk, app_lp, load_app, load_app0, load_fp, store_app, store_app0, leave_app, leave_app0, AM.ownPut, AM.cellsOf, AM.shift, aPick, fin_v, fin_sl, beq_true, okSz, List.length_cons, List.length_nil, Nat.zero_add, Nat.add_zero, Nat.reduceAdd, decide_true, decide_false, Bool.and_true, Bool.true_and, Bool.and_self, Bool.not_true, Bool.not_false, List.getElem?_cons_zero, List.getElem?_cons_succ, List.nil_append, List.cons_append, hpp_app, hpp_stk, hpp_tk, hpp_lp, hpp_hp, app_lpadd, hload, hload0, hloadh, hstore, hstore0, hleave, hleave0, hfin_v, hfin_sl, hback, hloop, hsetlp, max_int, min_int, hstore_v, hstore_v0, hstore_s, hstore_d, modify_concat, part1, hbackt, hbackl, hback0, List.take_succ_cons, List.take_left, List.take_zero, List.take_nil, S.still, S.len, S.okc, laid0, beginR, hlt2, len_31, ss_len, hge, ia_22, ss_len, ds_len, i1, g1, g2, ia_31, S.whole, bx, hrow, hsame, hw1, okCells, laid, finR, isNormal, hg, S9.lp0]
  · have hge2 : (n : Int) ≥ most := by omega
    have hn2 : n = most.toNat := by omega
    have hc1 : gcnt most (n + 1) = n := by simp only [gcnt]; omega
    have hr1 : grec s most (n + 1) = { S9.lp0 (gvs s) with at_ := 2, pend := .exit 0 } := by simp only [grec, nble, decide_eq_false (show ¬ n + 1 ≤ most.toNat by omega), cond_false]
    rw [hc1, hr1]
    simp [S9.r0, gvs, gbl, canon_v, canon_sl, canon_clo, canon_ptr, need_refl, elems_sl, sf_v, sf_sl, sf_ptr, sf_ptrh, sf_clo, sf_dead, sf_nil, sf_full, sf_fr, need_true, ibeq, beq_ba, nbeq, nble, nblt, AM.nth, List.getD_cons_succ, List.getD_cons_zero, Option.bind_some, Option.bind_none, Option.map_some, onBool, AM.onG, onFn, seqK, retK, Ex.outOf, cond_true, cond_false, bin_lss, bin_leq, bin_gtr, bin_geq, bin_eql, bin_neq, bin_add, bin_sub, bin_mul, un_not, str_eql, str_neq, app_push, app_stk, app_tk, app_lp, load_app, load_app0, load_fp, store_app, store_app0, leave_app, leave_app0, AM.ownPut, AM.cellsOf, AM.shift, aPick, fin_v, fin_sl, beq_true, okSz, List.length_cons, List.length_nil, Nat.zero_add, Nat.add_zero, Nat.reduceAdd, decide_true, decide_false, Bool.and_true, Bool.true_and, Bool.and_self, Bool.not_true, Bool.not_false, List.getElem?_cons_zero, List.getElem?_cons_succ, List.nil_append, List.cons_append, hpp_app, hpp_stk, hpp_tk, hpp_lp, hpp_hp, app_lpadd, hload, hload0, hloadh, hstore, hstore0, hleave, hleave0, hfin_v, hfin_sl, hback, hloop, hsetlp, max_int, min_int, hstore_v, hstore_v0, hstore_s, hstore_d, modify_concat, part1, hbackt, hbackl, hback0, List.take_succ_cons, List.take_left, List.take_zero, List.take_nil, S.still, S.len, S.okc, laid0, beginR, hge2, finR, isNormal, hg, S9.lp0]

theorem gone_ev (xs : List S) (hz : sszs xs ≤ 100000) (most : Int) (s : St) (hs : List Blk) :
    E L (.func 9) [.sl (sencs xs) .dead, int most] ((s.hpp hs).app [] [] []) = some (.tup [int (min (flats xs 0).length most.toNat : Nat), .v (.bool true)], (s.hpp (hs ++ [⟨[.sl (sencs xs) .dead], []⟩])).app [] [] []) := by
  have hW : ∀ y ∈ flats xs 0, y.1.sz ≤ 1000000 := fun y hy => by have := flats_sz xs 0 y hy; omega
  have hl := flats_len xs 0
  have hfl : ∀ st, E L (.func 19) [.sl (sencs xs) .dead, int 0] st = some (.tup [.sl (ss (flats xs 0)) .dead, .sl (ds (flats xs 0)) .dead], st) := fun st => flat_ev 1000000 xs (by omega) (Nat.le_refl _) 0 (Int.le_refl _) (by omega) st
  generalize hWd : flats xs 0 = W at hW hl hfl
  let hs' := hs ++ [⟨[.sl (sencs xs) .dead], []⟩]
  have hw := walk_ev (W := W) (i := s.lp.length) (go := fun n => decide (n < most.toNat)) (s.stk.length + 6) s.tk.length (s.lp.length + 1) (gst s hs' W most)
    (fun n => by simp [gst, app_stk, hpp_stk, gbl]) (fun n => by simp [gst, app_tk, hpp_tk]) (fun n => by simp [gst, app_lp, hpp_lp]) (fun n x d bl ha h => gone_rnd s hs' W most hW (by omega) n x d bl ha h)
    1000000 xs (by omega) (Nat.le_refl _) 0 (Int.le_refl _) (by omega) 0 [] (fun m hm => absurd hm (Nat.not_lt_zero _)) (fun j hj => by rw [hWd, Nat.zero_add])
  rw [hWd] at hw
  have hcnt : ∀ k n, n ≤ most.toNat → gcnt most (run (fun n => decide (n < most.toNat)) n k).2 = min (n + k) most.toNat ∧ (grec s most (run (fun n => decide (n < most.toNat)) n k).2 = S9.lp0 (gvs s) ∨ grec s most (run (fun n => decide (n < most.toNat)) n k).2 = { S9.lp0 (gvs s) with at_ := 2, pend := .exit 0 }) := by
    intro k
    induction k with
    | zero => exact fun n hn => ⟨rfl, .inl (by simp only [run, grec, nble, decide_eq_true hn, cond_true])⟩
    | succ k ih =>
      intro n hn
      simp only [run]
      by_cases hg : n < most.toNat
      · simp only [decide_eq_true hg, cond_true]
        have := ih (n + 1) hg
        rwa [show n + 1 + k = n + (k + 1) by omega] at this
      · simp only [decide_eq_false hg, cond_false]
        refine ⟨by simp only [gcnt]; omega, .inr (by simp only [grec, nble, decide_eq_false (show ¬ n + 1 ≤ most.toNat by omega), cond_false])⟩
  obtain ⟨hc, hr⟩ := hcnt W.length 0 (Nat.zero_le _)
  rw [Nat.zero_add] at hc
  generalize hR : run (fun n => decide (n < most.toNat)) 0 W.length = R at hw hc hr
  have hg0 : gst s hs' W most 0 = (s.hpp hs').app [⟨[int most], []⟩, ⟨[int 0], []⟩, ⟨[.v (.bool false)], []⟩, ⟨[.sl (ss W) .dead], []⟩, ⟨[.sl (ds W) .dead], []⟩, ⟨[int 0], []⟩] [] [.loop (S9.lp0 (gvs s))] := by
    simp [gst, gbl, gcnt, grec, nble]
  have h45 := all1_ev (st := gst s hs' W most 0) (b := s.hp.length + hs.length) (i := s.lp.length) (xs := xs) (by rw [hg0, hpp_blk]; simp [hs']) (by simpa [app_nil] using hw) (by simp [gst, app_stk, hpp_stk, gbl]) (by simp [gst, app_tk, hpp_tk]) (by simp [gst, app_lp, hpp_lp])
  rw [S9_eq]
  have hall := all_ev xs
  rw [hg0] at h45
  simp only [hs', gvs] at h45
  have hgR : ∃ q : Lp, (q.at_ = 0 ∧ q.pend = .normal ∨ q.at_ = 2 ∧ q.pend = .exit 0) ∧ gst s hs' W most R.2 = (s.hpp hs').app (gbl W most (min W.length most.toNat)) [] [.loop q] := by
    rcases hr with hr | hr
    · exact ⟨_, .inl ⟨rfl, rfl⟩, by rw [gst, hc, hr]⟩
    · exact ⟨_, .inr ⟨rfl, rfl⟩, by rw [gst, hc, hr]⟩
  obtain ⟨q, hq, hgR⟩ := hgR
  simp only [hs'] at hgR
  rw [hgR] at h45
  have hmm : (if (W.length : Int) < (if most < 0 then 0 else most) then (W.length : Int) else (if most < 0 then 0 else most)) = ((min W.length most.toNat : Nat) : Int) := by split <;> split <;> omega
  simp [S9, canon_v, canon_sl, canon_clo, canon_ptr, need_refl, elems_sl, sf_v, sf_sl, sf_ptr, sf_ptrh, sf_clo, sf_dead, sf_nil, sf_full, sf_fr, need_true, ibeq, beq_ba, nbeq, nble, nblt, AM.nth, List.getD_cons_succ, List.getD_cons_zero, Option.bind_some, Option.bind_none, Option.map_some, onBool, AM.onG, onFn, seqK, retK, Ex.outOf, cond_true, cond_false, bin_lss, bin_leq, bin_gtr, bin_geq, bin_eql, bin_neq, bin_add, bin_sub, bin_mul, un_not, str_eql, str_neq, app_push, app_stk, app_tk, app_lp, load_app, load_app0, load_fp, store_app, store_app0, leave_app, leave_app0, AM.ownPut, AM.cellsOf, AM.shift, aPick, fin_v, fin_sl, beq_true, okSz, List.length_cons, List.length_nil, Nat.zero_add, Nat.add_zero, Nat.reduceAdd, decide_true, decide_false, Bool.and_true, Bool.true_and, Bool.and_self, Bool.not_true, Bool.not_false, List.getElem?_cons_zero, List.getElem?_cons_succ, List.nil_append, List.cons_append, hpp_app, hpp_stk, hpp_tk, hpp_lp, hpp_hp, app_lpadd, hload, hload0, hloadh, hstore, hstore0, hleave, hleave0, hfin_v, hfin_sl, hback, hloop, hsetlp, max_int, min_int, hstore_v, hstore_v0, hstore_s, hstore_d, modify_concat, part1, hbackt, hbackl, hback0, List.take_succ_cons, List.take_left, List.take_zero, List.take_nil, hfl, aExtract, okCells, laid, hall, plainFn]
  rw [h45]
  rcases hq with ⟨q1, q2⟩ | ⟨q1, q2⟩
  · simp [canon_v, canon_sl, canon_clo, canon_ptr, need_refl, elems_sl, sf_v, sf_sl, sf_ptr, sf_ptrh, sf_clo, sf_dead, sf_nil, sf_full, sf_fr, need_true, ibeq, beq_ba, nbeq, nble, nblt, AM.nth, List.getD_cons_succ, List.getD_cons_zero, Option.bind_some, Option.bind_none, Option.map_some, onBool, AM.onG, onFn, seqK, retK, Ex.outOf, cond_true, cond_false, bin_lss, bin_leq, bin_gtr, bin_geq, bin_eql, bin_neq, bin_add, bin_sub, bin_mul, un_not, str_eql, str_neq, app_push, app_stk, app_tk, app_lp, load_app, load_app0, load_fp, store_app, store_app0, leave_app, leave_app0, AM.ownPut, AM.cellsOf, AM.shift, aPick, fin_v, fin_sl, beq_true, okSz, List.length_cons, List.length_nil, Nat.zero_add, Nat.add_zero, Nat.reduceAdd, decide_true, decide_false, Bool.and_true, Bool.true_and, Bool.and_self, Bool.not_true, Bool.not_false, List.getElem?_cons_zero, List.getElem?_cons_succ, List.nil_append, List.cons_append, hpp_app, hpp_stk, hpp_tk, hpp_lp, hpp_hp, app_lpadd, hload, hload0, hloadh, hstore, hstore0, hleave, hleave0, hfin_v, hfin_sl, hback, hloop, hsetlp, max_int, min_int, hstore_v, hstore_v0, hstore_s, hstore_d, modify_concat, part1, hbackt, hbackl, hback0, List.take_succ_cons, List.take_left, List.take_zero, List.take_nil, endLp, q1, q2, gbl, len_31, ss_len, hmm, okCells, laid, hfin_tup, flatC, canonC]
  · simp [canon_v, canon_sl, canon_clo, canon_ptr, need_refl, elems_sl, sf_v, sf_sl, sf_ptr, sf_ptrh, sf_clo, sf_dead, sf_nil, sf_full, sf_fr, need_true, ibeq, beq_ba, nbeq, nble, nblt, AM.nth, List.getD_cons_succ, List.getD_cons_zero, Option.bind_some, Option.bind_none, Option.map_some, onBool, AM.onG, onFn, seqK, retK, Ex.outOf, cond_true, cond_false, bin_lss, bin_leq, bin_gtr, bin_geq, bin_eql, bin_neq, bin_add, bin_sub, bin_mul, un_not, str_eql, str_neq, app_push, app_stk, app_tk, app_lp, load_app, load_app0, load_fp, store_app, store_app0, leave_app, leave_app0, AM.ownPut, AM.cellsOf, AM.shift, aPick, fin_v, fin_sl, beq_true, okSz, List.length_cons, List.length_nil, Nat.zero_add, Nat.add_zero, Nat.reduceAdd, decide_true, decide_false, Bool.and_true, Bool.true_and, Bool.and_self, Bool.not_true, Bool.not_false, List.getElem?_cons_zero, List.getElem?_cons_succ, List.nil_append, List.cons_append, hpp_app, hpp_stk, hpp_tk, hpp_lp, hpp_hp, app_lpadd, hload, hload0, hloadh, hstore, hstore0, hleave, hleave0, hfin_v, hfin_sl, hback, hloop, hsetlp, max_int, min_int, hstore_v, hstore_v0, hstore_s, hstore_d, modify_concat, part1, hbackt, hbackl, hback0, List.take_succ_cons, List.take_left, List.take_zero, List.take_nil, endLp, q1, q2, gbl, len_31, ss_len, hmm, okCells, laid, hfin_tup, flatC, canonC]
end
end Go.Proofs.Ytkbhejcfejembaa.S

/- Trees: Count. No condition. -/
namespace Go.Proofs.Ytkbhejcfejembaa.S
open Go Go.AM Go.Proofs
set_option linter.unusedVariables false
set_option linter.unusedSimpArgs false

structure Nm where
  mk ::
  name : ByteArray
  kd : Int
  rc : ByteArray
  line : Int
  col : Int
def Nm.enc (p : Nm) : List PV := [str p.name, int p.kd, str p.rc, int p.line, int p.col]
def nms (l : List Nm) : List (List PV) := l.map Nm.enc
theorem nms_len (l : List Nm) : (nms l).length = l.length := List.length_map ..
theorem nms_ok (l : List Nm) : okSz 5 (nms l) = true := okSz_map Nm.enc (fun _ => rfl) l
theorem nms_app (l m : List Nm) : nms l ++ nms m = nms (l ++ m) := (List.map_append ..).symm
structure Rc where
  mk ::
  name : ByteArray
  fields : List Nm
def Rc.enc (p : Rc) : List PV := [str p.name, .sl (nms p.fields) .dead, int 0, int 0]
structure Fu where
  mk ::
  name : ByteArray
  params : List Nm
  body : List S
  line : Int
  col : Int
structure Th where
  mk ::
  body : List S
  line : Int
  col : Int
structure Pg where
  mk ::
  recs : List Rc
  globals : List Nm
  funs : List Fu
  threads : List Th
def Fu.enc (f : Fu) : List PV := [str f.name, .sl (nms f.params) .dead, .sl (sencs f.body) .dead, int f.line, int f.col]
def Th.enc (t : Th) : List PV := [.sl (sencs t.body) .dead, int t.line, int t.col]
def Pg.enc (p : Pg) : List PV := [.sl (p.recs.map Rc.enc) .dead, .sl (nms p.globals) .dead, .sl (p.funs.map Fu.enc) .dead, .sl (p.threads.map Th.enc) .dead]
def rowsE (l : List (List S)) : List (List PV) := l.map fun b => [.sl (sencs b) .dead]
theorem rowsE_len (l : List (List S)) : (rowsE l).length = l.length := List.length_map ..
theorem rowsE_ok (l : List (List S)) : okSz 1 (rowsE l) = true := okSz_map (fun b => [.sl (sencs b) .dead]) (fun _ => rfl) l
theorem rowsE_app (l m : List (List S)) : rowsE l ++ rowsE m = rowsE (l ++ m) := (List.map_append ..).symm
theorem map_get {α : Type} (f : α → List PV) (p : List α) (x : α) (xs : List α) : ((p ++ x :: xs).map f)[p.length]? = some (f x) := by simp

theorem bodies_loop0 (s : St) (pb : Blk) (hpb : pb.cs.all (sf true (s.stk.length + 1) 4) = true) (xs0 : List Fu) (hb : xs0.length ≤ 100000) : ∀ (xs p : List Fu) (acc : List (List S)) (c : Cap) (tk : List (Nat × Nat)), xs0 = p ++ xs → acc.length + xs.length ≤ 1000000 → Own s tk c (rowsE acc).length 1 →
    ∃ vs c' tk', itE (S42.b0 (E L) itE s.stk.length s.lp.length) [.ptr false s.stk.length 0, .sl (rowsE acc) c, .sl (xs0.map Fu.enc) .dead, int xs0.length, int p.length] (s.app [pb] tk []) =
      some (.exit 0, .ptr false s.stk.length 0 :: .sl (rowsE (acc ++ xs.map Fu.body)) c' :: vs, s.app [pb] tk' []) ∧ Own s tk' c' (rowsE (acc ++ xs.map Fu.body)).length 1
  | [], p, acc, c, tk, hx, ha, ho => by
    have e : xs0.length = p.length := by rw [hx]; simp
    refine ⟨[.sl (xs0.map Fu.enc) .dead, int xs0.length, int p.length], c, tk, ?_, by simpa using ho⟩
    rw [itE_eq]
    simp [S42.b0, canon_v, canon_sl, canon_clo, canon_ptr, need_refl, elems_sl, sf_v, sf_sl, sf_ptr, sf_ptrh, sf_clo, sf_dead, sf_nil, sf_full, sf_fr, need_true, ibeq, beq_ba, nbeq, nble, nblt, AM.nth, List.getD_cons_succ, List.getD_cons_zero, Option.bind_some, Option.bind_none, Option.map_some, onBool, AM.onG, onFn, seqK, retK, Ex.outOf, cond_true, cond_false, bin_lss, bin_leq, bin_gtr, bin_geq, bin_eql, bin_neq, bin_add, bin_sub, bin_mul, un_not, str_eql, str_neq, app_push, app_stk, app_tk, app_lp, load_app, load_app0, load_fp, store_app, store_app0, leave_app, leave_app0, AM.ownPut, AM.cellsOf, AM.shift, aPick, fin_v, fin_sl, beq_true, okSz, List.length_cons, List.length_nil, Nat.zero_add, Nat.add_zero, Nat.reduceAdd, decide_true, decide_false, Bool.and_true, Bool.true_and, Bool.and_self, Bool.not_true, Bool.not_false, List.getElem?_cons_zero, List.getElem?_cons_succ, List.nil_append, List.cons_append, hpp_app, hpp_stk, hpp_tk, hpp_lp, hpp_hp, app_lpadd, hload, hload0, hloadh, hstore, hstore0, hleave, hleave0, hfin_v, hfin_sl, hback, hloop, hsetlp, max_int, min_int, hstore_v, hstore_v0, hstore_s, hstore_d, modify_concat, part1, hbackt, hbackl, hback0, List.take_succ_cons, List.take_left, List.take_zero, List.take_nil, e, ho.sfc, hpb]
  | x :: xs, p, acc, c, tk, hx, ha, ho => by
    have hlt : (p.length : Int) < (xs0.length : Int) := by rw [hx]; simp; omega
    have g1 : (xs0.map Fu.enc)[p.length]? = some x.enc := by rw [hx]; exact map_get _ p x xs
    have r1 : inRange (p.length : Int) xs0.length = true := by rw [hx]; exact inR p x xs
    have hpl : p.length < xs0.length := by rw [hx]; simp
    have w1 : IntKind.i64.wrap ((p.length : Int) + 1) = (p.length : Int) + 1 := IntWalk.i64_in _ (by omega)
    obtain ⟨c1, tk1, e1, o1⟩ := app_own (ys := rowsE [x.body]) (bytes := 24) ho (by simp only [rowsE_len, maxLenB, List.length_cons] at ha ⊢; simp; omega) (rowsE_ok _) (rowsE_ok _) (by decide) (by decide)
    rw [rowsE_app] at e1 o1
    obtain ⟨vs, c2, tk2, h2, o2⟩ := bodies_loop0 s pb hpb xs0 hb xs (p ++ [x]) (acc ++ [x.body]) c1 tk1 (by simp [hx]) (by simp at ha ⊢; omega) o1
    have bb : rBuildSlice 1 [.sl [] .nil] 1 [(0, .sl (sencs x.body) .dead)] = some (.sl (rowsE [x.body]) .full) := rfl
    have whole : AM.part true 5 0 x.enc = some (.agg x.enc) := rfl
    have p2 : AM.part false 1 2 x.enc = some (.sl (sencs x.body) .dead) := rfl
    have hl : x.enc.length = 5 := rfl
    have hok : okCells x.enc = true := rfl
    refine ⟨vs, c2, tk2, ?_, by simpa using o2⟩
    rw [show acc ++ (x :: xs).map Fu.body = acc ++ [x.body] ++ xs.map Fu.body by simp, ← h2]
    refine it_step ?_
    generalize acc ++ [x.body] = acc' at e1 o1
    simp [S42.b0, canon_v, canon_sl, canon_clo, canon_ptr, need_refl, elems_sl, sf_v, sf_sl, sf_ptr, sf_ptrh, sf_clo, sf_dead, sf_nil, sf_full, sf_fr, need_true, ibeq, beq_ba, nbeq, nble, nblt, AM.nth, List.getD_cons_succ, List.getD_cons_zero, Option.bind_some, Option.bind_none, Option.map_some, onBool, AM.onG, onFn, seqK, retK, Ex.outOf, cond_true, cond_false, bin_lss, bin_leq, bin_gtr, bin_geq, bin_eql, bin_neq, bin_add, bin_sub, bin_mul, un_not, str_eql, str_neq, app_push, app_stk, app_tk, app_lp, load_app, load_app0, load_fp, store_app, store_app0, leave_app, leave_app0, AM.ownPut, AM.cellsOf, AM.shift, aPick, fin_v, fin_sl, beq_true, okSz, List.length_cons, List.length_nil, Nat.zero_add, Nat.add_zero, Nat.reduceAdd, decide_true, decide_false, Bool.and_true, Bool.true_and, Bool.and_self, Bool.not_true, Bool.not_false, List.getElem?_cons_zero, List.getElem?_cons_succ, List.nil_append, List.cons_append, hpp_app, hpp_stk, hpp_tk, hpp_lp, hpp_hp, app_lpadd, hload, hload0, hloadh, hstore, hstore0, hleave, hleave0, hfin_v, hfin_sl, hback, hloop, hsetlp, max_int, min_int, hstore_v, hstore_v0, hstore_s, hstore_d, modify_concat, part1, hbackt, hbackl, hback0, List.take_succ_cons, List.take_left, List.take_zero, List.take_nil, hlt, ia_26, r1, g1, hl, whole, hok, laid0, p2, bb, e1, w1, o1.sfc, hpb]
theorem bodies_loop1 (s : St) (pb : Blk) (hpb : pb.cs.all (sf true (s.stk.length + 1) 4) = true) (xs0 : List Th) (hb : xs0.length ≤ 100000) : ∀ (xs p : List Th) (acc : List (List S)) (c : Cap) (tk : List (Nat × Nat)), xs0 = p ++ xs → acc.length + xs.length ≤ 1000000 → Own s tk c (rowsE acc).length 1 →
    ∃ vs c' tk', itE (S42.b1 (E L) itE s.stk.length s.lp.length) [.sl (rowsE acc) c, .sl (xs0.map Th.enc) .dead, int xs0.length, int p.length] (s.app [pb] tk []) =
      some (.exit 2, .sl (rowsE (acc ++ xs.map Th.body)) c' :: vs, s.app [pb] tk' [])
  | [], p, acc, c, tk, hx, ha, ho => by
    have e : xs0.length = p.length := by rw [hx]; simp
    refine ⟨[.sl (xs0.map Th.enc) .dead, int xs0.length, int p.length], c, tk, ?_⟩
    rw [itE_eq]
    simp [S42.b1, canon_v, canon_sl, canon_clo, canon_ptr, need_refl, elems_sl, sf_v, sf_sl, sf_ptr, sf_ptrh, sf_clo, sf_dead, sf_nil, sf_full, sf_fr, need_true, ibeq, beq_ba, nbeq, nble, nblt, AM.nth, List.getD_cons_succ, List.getD_cons_zero, Option.bind_some, Option.bind_none, Option.map_some, onBool, AM.onG, onFn, seqK, retK, Ex.outOf, cond_true, cond_false, bin_lss, bin_leq, bin_gtr, bin_geq, bin_eql, bin_neq, bin_add, bin_sub, bin_mul, un_not, str_eql, str_neq, app_push, app_stk, app_tk, app_lp, load_app, load_app0, load_fp, store_app, store_app0, leave_app, leave_app0, AM.ownPut, AM.cellsOf, AM.shift, aPick, fin_v, fin_sl, beq_true, okSz, List.length_cons, List.length_nil, Nat.zero_add, Nat.add_zero, Nat.reduceAdd, decide_true, decide_false, Bool.and_true, Bool.true_and, Bool.and_self, Bool.not_true, Bool.not_false, List.getElem?_cons_zero, List.getElem?_cons_succ, List.nil_append, List.cons_append, hpp_app, hpp_stk, hpp_tk, hpp_lp, hpp_hp, app_lpadd, hload, hload0, hloadh, hstore, hstore0, hleave, hleave0, hfin_v, hfin_sl, hback, hloop, hsetlp, max_int, min_int, hstore_v, hstore_v0, hstore_s, hstore_d, modify_concat, part1, hbackt, hbackl, hback0, List.take_succ_cons, List.take_left, List.take_zero, List.take_nil, e, ho.sfc, hpb]
  | x :: xs, p, acc, c, tk, hx, ha, ho => by
    have hlt : (p.length : Int) < (xs0.length : Int) := by rw [hx]; simp; omega
    have g1 : (xs0.map Th.enc)[p.length]? = some x.enc := by rw [hx]; exact map_get _ p x xs
    have r1 : inRange (p.length : Int) xs0.length = true := by rw [hx]; exact inR p x xs
    have hpl : p.length < xs0.length := by rw [hx]; simp
    have w1 : IntKind.i64.wrap ((p.length : Int) + 1) = (p.length : Int) + 1 := IntWalk.i64_in _ (by omega)
    obtain ⟨c1, tk1, e1, o1⟩ := app_own (ys := rowsE [x.body]) (bytes := 24) ho (by simp only [rowsE_len, maxLenB, List.length_cons] at ha ⊢; simp; omega) (rowsE_ok _) (rowsE_ok _) (by decide) (by decide)
    rw [rowsE_app] at e1 o1
    obtain ⟨vs, c2, tk2, h2⟩ := bodies_loop1 s pb hpb xs0 hb xs (p ++ [x]) (acc ++ [x.body]) c1 tk1 (by simp [hx]) (by simp at ha ⊢; omega) o1
    have bb : rBuildSlice 1 [.sl [] .nil] 1 [(0, .sl (sencs x.body) .dead)] = some (.sl (rowsE [x.body]) .full) := rfl
    have whole : AM.part true 3 0 x.enc = some (.agg x.enc) := rfl
    have p2 : AM.part false 1 0 x.enc = some (.sl (sencs x.body) .dead) := rfl
    have hl : x.enc.length = 3 := rfl
    have hok : okCells x.enc = true := rfl
    refine ⟨vs, c2, tk2, ?_⟩
    rw [show acc ++ (x :: xs).map Th.body = acc ++ [x.body] ++ xs.map Th.body by simp, ← h2]
    refine it_step ?_
    generalize acc ++ [x.body] = acc' at e1 o1
    simp [S42.b1, canon_v, canon_sl, canon_clo, canon_ptr, need_refl, elems_sl, sf_v, sf_sl, sf_ptr, sf_ptrh, sf_clo, sf_dead, sf_nil, sf_full, sf_fr, need_true, ibeq, beq_ba, nbeq, nble, nblt, AM.nth, List.getD_cons_succ, List.getD_cons_zero, Option.bind_some, Option.bind_none, Option.map_some, onBool, AM.onG, onFn, seqK, retK, Ex.outOf, cond_true, cond_false, bin_lss, bin_leq, bin_gtr, bin_geq, bin_eql, bin_neq, bin_add, bin_sub, bin_mul, un_not, str_eql, str_neq, app_push, app_stk, app_tk, app_lp, load_app, load_app0, load_fp, store_app, store_app0, leave_app, leave_app0, AM.ownPut, AM.cellsOf, AM.shift, aPick, fin_v, fin_sl, beq_true, okSz, List.length_cons, List.length_nil, Nat.zero_add, Nat.add_zero, Nat.reduceAdd, decide_true, decide_false, Bool.and_true, Bool.true_and, Bool.and_self, Bool.not_true, Bool.not_false, List.getElem?_cons_zero, List.getElem?_cons_succ, List.nil_append, List.cons_append, hpp_app, hpp_stk, hpp_tk, hpp_lp, hpp_hp, app_lpadd, hload, hload0, hloadh, hstore, hstore0, hleave, hleave0, hfin_v, hfin_sl, hback, hloop, hsetlp, max_int, min_int, hstore_v, hstore_v0, hstore_s, hstore_d, modify_concat, part1, hbackt, hbackl, hback0, List.take_succ_cons, List.take_left, List.take_zero, List.take_nil, hlt, ia_27, r1, g1, hl, whole, hok, laid0, p2, bb, e1, w1, o1.sfc, hpb]
def Pg.bodies (p : Pg) : List (List S) := p.funs.map Fu.body ++ p.threads.map Th.body
theorem bodies_ev (p : Pg) (h1 : p.funs.length ≤ 1000) (h2 : p.threads.length ≤ 1000) (st : St) : E L (.func 42) [.agg p.enc] st = some (.sl (rowsE p.bodies) .dead, st) := by
  obtain ⟨s, rfl⟩ : ∃ s : St, st = s.app [] [] [] := ⟨st, (app_nil st).symm⟩
  have hpb : (⟨p.enc, []⟩ : Blk).cs.all (sf true (s.stk.length + 1) 4) = true := rfl
  obtain ⟨vs, c', tk', e1, o1⟩ := bodies_loop0 s ⟨p.enc, []⟩ hpb p.funs (by omega) p.funs [] [] .nil [] rfl (by simp; omega) (Own.nil ..)
  obtain ⟨vs2, c2, tk2, e2⟩ := bodies_loop1 s ⟨p.enc, []⟩ hpb p.threads (by omega) p.threads [] ([] ++ p.funs.map Fu.body) c' tk' rfl (by simp; omega) o1
  rw [S42_eq]
  have q2 : AM.part false 1 2 p.enc = some (.sl (p.funs.map Fu.enc) .dead) := rfl
  have q3 : AM.part false 1 3 p.enc = some (.sl (p.threads.map Th.enc) .dead) := rfl
  have e0 : rowsE [] = [] := rfl
  simp [e0] at e1
  simp at e2
  simp [S42, canon_v, canon_sl, canon_clo, canon_ptr, need_refl, elems_sl, sf_v, sf_sl, sf_ptr, sf_ptrh, sf_clo, sf_dead, sf_nil, sf_full, sf_fr, need_true, ibeq, beq_ba, nbeq, nble, nblt, AM.nth, List.getD_cons_succ, List.getD_cons_zero, Option.bind_some, Option.bind_none, Option.map_some, onBool, AM.onG, onFn, seqK, retK, Ex.outOf, cond_true, cond_false, bin_lss, bin_leq, bin_gtr, bin_geq, bin_eql, bin_neq, bin_add, bin_sub, bin_mul, un_not, str_eql, str_neq, app_push, app_stk, app_tk, app_lp, load_app, load_app0, load_fp, store_app, store_app0, leave_app, leave_app0, AM.ownPut, AM.cellsOf, AM.shift, aPick, fin_v, fin_sl, beq_true, okSz, List.length_cons, List.length_nil, Nat.zero_add, Nat.add_zero, Nat.reduceAdd, decide_true, decide_false, Bool.and_true, Bool.true_and, Bool.and_self, Bool.not_true, Bool.not_false, List.getElem?_cons_zero, List.getElem?_cons_succ, List.nil_append, List.cons_append, hpp_app, hpp_stk, hpp_tk, hpp_lp, hpp_hp, app_lpadd, hload, hload0, hloadh, hstore, hstore0, hleave, hleave0, hfin_v, hfin_sl, hback, hloop, hsetlp, max_int, min_int, hstore_v, hstore_v0, hstore_s, hstore_d, modify_concat, part1, hbackt, hbackl, hback0, List.take_succ_cons, List.take_left, List.take_zero, List.take_nil, q2, len_26, e1, q3, len_27, e2, Pg.bodies]
end Go.Proofs.Ytkbhejcfejembaa.S

/- Trees: Count. No condition. -/
namespace Go.Proofs.Ytkbhejcfejembaa.S
open Go Go.AM Go.Proofs
set_option linter.unusedVariables false
set_option linter.unusedSimpArgs false

def mx (W : List (S × Int)) (m : Int) : Int := W.foldl (fun m y => if y.2 > m then y.2 else m) m
theorem run_all (k : Nat) : ∀ n, run (fun _ => true) n k = (true, n + k) := by
  induction k with
  | zero => exact fun n => rfl
  | succ k ih => exact fun n => by simp only [run, cond_true, ih]; congr 1; omega
section
variable (s : St) (hs : List Blk) (pb : Blk) (c : Nat) (m : Int) (W : List (S × Int))
noncomputable def cst (n : Nat) : St := (s.hpp hs).app [pb, ⟨[int (c + n : Nat)], []⟩, ⟨[int (mx (W.take n) m)], []⟩] [] [.loop (S21.lp0 [.ptr false (s.stk.length + 1) 0, .ptr false (s.stk.length + 2) 0])]
theorem count_rnd (hl : c + W.length ≤ 1000000) (n : Nat) (x : S) (d : Int) (bl : List Blk) (h : W[n]? = some (x, d)) :
    E L (.yield s.lp.length) [int d, .agg x.enc] ((cst s hs pb c m W n).app bl [] []) = some (.v (.bool true), (cst s hs pb c m W (n + 1)).app bl [] []) := by
  have hlt : n < W.length := (List.getElem?_eq_some_iff.1 h).1
  have hst : ∀ n bl, (cst s hs pb c m W n).app bl [] [] = (s.hpp hs).app (pb :: ⟨[int (c + n : Nat)], []⟩ :: ⟨[int (mx (W.take n) m)], []⟩ :: bl) [] [.loop (S21.lp0 [.ptr false (s.stk.length + 1) 0, .ptr false (s.stk.length + 2) 0])] := fun n bl => by simp [cst, St.app]
  have hw1 : IntKind.i64.wrap (((c + n : Nat) : Int) + 1) = ((c + (n + 1) : Nat) : Int) := by rw [IntWalk.i64_in _ (by omega)]; rfl
  have hm : mx (W.take (n + 1)) m = if d > mx (W.take n) m then d else mx (W.take n) m := by
    rw [List.take_add_one, h, mx, List.foldl_append]; rfl
  rw [hst, hst, S21.r0_eq (hloop ..), hm]
  generalize mx (W.take n) m = k
  generalize ((c + n : Nat) : Int) = a at hw1
  generalize ((c + (n + 1) : Nat) : Int) = b at hw1
  simp [S21.r0, canon_v, canon_sl, canon_clo, canon_ptr, need_refl, elems_sl, sf_v, sf_sl, sf_ptr, sf_ptrh, sf_clo, sf_dead, sf_nil, sf_full, sf_fr, need_true, ibeq, beq_ba, nbeq, nble, nblt, AM.nth, List.getD_cons_succ, List.getD_cons_zero, Option.bind_some, Option.bind_none, Option.map_some, onBool, AM.onG, onFn, seqK, retK, Ex.outOf, cond_true, cond_false, bin_lss, bin_leq, bin_gtr, bin_geq, bin_eql, bin_neq, bin_add, bin_sub, bin_mul, un_not, str_eql, str_neq, app_push, app_stk, app_tk, app_lp, load_app, load_app0, load_fp, store_app, store_app0, leave_app, leave_app0, AM.ownPut, AM.cellsOf, AM.shift, aPick, fin_v, fin_sl, beq_true, okSz, List.length_cons, List.length_nil, Nat.zero_add, Nat.add_zero, Nat.reduceAdd, decide_true, decide_false, Bool.and_true, Bool.true_and, Bool.and_self, Bool.not_true, Bool.not_false, List.getElem?_cons_zero, List.getElem?_cons_succ, List.nil_append, List.cons_append, hpp_app, hpp_stk, hpp_tk, hpp_lp, hpp_hp, app_lpadd, hload, hload0, hloadh, hstore, hstore0, hleave, hleave0, hfin_v, hfin_sl, hback, hloop, hsetlp, max_int, min_int, hstore_v, hstore_v0, hstore_s, hstore_d, modify_concat, part1, hbackt, hbackl, hback0, List.take_succ_cons, List.take_left, List.take_zero, List.take_nil, okCells, laid, beginR, finR, isNormal, S21.lp0, hw1]
end
def tot (l : List (List S)) : Nat := (l.map fun b => (flats b 0).length).sum
def mxs (l : List (List S)) (m : Int) : Int := l.foldl (fun m b => mx (flats b 0) m) m
theorem count_loop (s : St) (pb : Blk) (R : List (List S)) (hR : R.length ≤ 10000) (hz : ∀ b ∈ R, sszs b ≤ 100000) : ∀ (xs p : List (List S)) (hs : List Blk) (c : Nat) (m : Int), R = p ++ xs → c + tot xs ≤ 1000000 →
    ∃ j hs', itE (S21.b0 (E L) itE s.stk.length s.lp.length) [.ptr false (s.stk.length + 1) 0, .ptr false (s.stk.length + 2) 0, .sl (rowsE R) .dead, int R.length, int p.length] ((s.hpp hs).app [pb, ⟨[int c], []⟩, ⟨[int m], []⟩] [] []) =
      some (.exit 0, [.ptr false (s.stk.length + 1) 0, .ptr false (s.stk.length + 2) 0, .sl (rowsE R) .dead, int R.length, int j], (s.hpp hs').app [pb, ⟨[int (c + tot xs : Nat)], []⟩, ⟨[int (mxs xs m)], []⟩] [] [])
  | [], p, hs, c, m, hx, hb => by
    have e : R.length = p.length := by rw [hx]; simp
    refine ⟨p.length, hs, ?_⟩
    rw [itE_eq]
    simp [S21.b0, canon_v, canon_sl, canon_clo, canon_ptr, need_refl, elems_sl, sf_v, sf_sl, sf_ptr, sf_ptrh, sf_clo, sf_dead, sf_nil, sf_full, sf_fr, need_true, ibeq, beq_ba, nbeq, nble, nblt, AM.nth, List.getD_cons_succ, List.getD_cons_zero, Option.bind_some, Option.bind_none, Option.map_some, onBool, AM.onG, onFn, seqK, retK, Ex.outOf, cond_true, cond_false, bin_lss, bin_leq, bin_gtr, bin_geq, bin_eql, bin_neq, bin_add, bin_sub, bin_mul, un_not, str_eql, str_neq, app_push, app_stk, app_tk, app_lp, load_app, load_app0, load_fp, store_app, store_app0, leave_app, leave_app0, AM.ownPut, AM.cellsOf, AM.shift, aPick, fin_v, fin_sl, beq_true, okSz, List.length_cons, List.length_nil, Nat.zero_add, Nat.add_zero, Nat.reduceAdd, decide_true, decide_false, Bool.and_true, Bool.true_and, Bool.and_self, Bool.not_true, Bool.not_false, List.getElem?_cons_zero, List.getElem?_cons_succ, List.nil_append, List.cons_append, hpp_app, hpp_stk, hpp_tk, hpp_lp, hpp_hp, app_lpadd, hload, hload0, hloadh, hstore, hstore0, hleave, hleave0, hfin_v, hfin_sl, hback, hloop, hsetlp, max_int, min_int, hstore_v, hstore_v0, hstore_s, hstore_d, modify_concat, part1, hbackt, hbackl, hback0, List.take_succ_cons, List.take_left, List.take_zero, List.take_nil, e, tot, mxs]
  | x :: xs, p, hs, c, m, hx, hb => by
    have hlt : (p.length : Int) < (R.length : Int) := by rw [hx]; simp; omega
    have g1 : (rowsE R)[p.length]? = some [.sl (sencs x) .dead] := by rw [hx]; exact map_get _ p x xs
    have r1 : inRange (p.length : Int) R.length = true := by rw [hx]; exact inR p x xs
    have hpl : p.length < R.length := by rw [hx]; simp
    have w1 : IntKind.i64.wrap ((p.length : Int) + 1) = (p.length : Int) + 1 := IntWalk.i64_in _ (by omega)
    have hzx := hz x (by rw [hx]; simp)
    have hl := flats_len x 0
    have htot : tot (x :: xs) = (flats x 0).length + tot xs := by simp [tot]
    have hmxs : mxs (x :: xs) m = mxs xs (mx (flats x 0) m) := rfl
    let hs' := hs ++ [⟨[.sl (sencs x) .dead], []⟩]
    obtain ⟨j, hs2, ih⟩ := count_loop s pb R hR hz xs (p ++ [x]) hs' (c + (flats x 0).length) (mx (flats x 0) m) (by simp [hx]) (by omega)
    refine ⟨j, hs2, ?_⟩
    rw [htot, hmxs, ← Nat.add_assoc, ← ih]
    refine it_step ?_
    have hw := walk_ev (W := flats x 0) (i := s.lp.length) (go := fun _ => true) (s.stk.length + 3) s.tk.length (s.lp.length + 1) (cst s hs' pb c m (flats x 0))
      (fun n => by simp [cst, app_stk, hpp_stk]) (fun n => by simp [cst, app_tk, hpp_tk]) (fun n => by simp [cst, app_lp, hpp_lp]) (fun n x' d bl _ h => count_rnd s hs' pb c m _ (by omega) n x' d bl h)
      1000000 x (by omega) (Nat.le_refl _) 0 (Int.le_refl _) (by omega) 0 [] (fun m hm => absurd hm (Nat.not_lt_zero _)) (fun j hj => by rw [Nat.zero_add])
    rw [run_all, Nat.zero_add] at hw
    have h45 := all1_ev (st := cst s hs' pb c m (flats x 0) 0) (b := s.hp.length + hs.length) (i := s.lp.length) (xs := x) (by rw [cst, hpp_blk]; simp [hs']) (by simpa [app_nil] using hw) (by simp [cst, app_stk, hpp_stk]) (by simp [cst, app_tk, hpp_tk]) (by simp [cst, app_lp, hpp_lp])
    simp only [cst, hs', List.take_zero, List.take_length, Nat.add_zero] at h45
    have hall := all_ev x
    have e0 : mx [] m = m := rfl
    rw [e0] at h45
    simp [S21.b0, canon_v, canon_sl, canon_clo, canon_ptr, need_refl, elems_sl, sf_v, sf_sl, sf_ptr, sf_ptrh, sf_clo, sf_dead, sf_nil, sf_full, sf_fr, need_true, ibeq, beq_ba, nbeq, nble, nblt, AM.nth, List.getD_cons_succ, List.getD_cons_zero, Option.bind_some, Option.bind_none, Option.map_some, onBool, AM.onG, onFn, seqK, retK, Ex.outOf, cond_true, cond_false, bin_lss, bin_leq, bin_gtr, bin_geq, bin_eql, bin_neq, bin_add, bin_sub, bin_mul, un_not, str_eql, str_neq, app_push, app_stk, app_tk, app_lp, load_app, load_app0, load_fp, store_app, store_app0, leave_app, leave_app0, AM.ownPut, AM.cellsOf, AM.shift, aPick, fin_v, fin_sl, beq_true, okSz, List.length_cons, List.length_nil, Nat.zero_add, Nat.add_zero, Nat.reduceAdd, decide_true, decide_false, Bool.and_true, Bool.true_and, Bool.and_self, Bool.not_true, Bool.not_false, List.getElem?_cons_zero, List.getElem?_cons_succ, List.nil_append, List.cons_append, hpp_app, hpp_stk, hpp_tk, hpp_lp, hpp_hp, app_lpadd, hload, hload0, hloadh, hstore, hstore0, hleave, hleave0, hfin_v, hfin_sl, hback, hloop, hsetlp, max_int, min_int, hstore_v, hstore_v0, hstore_s, hstore_d, modify_concat, part1, hbackt, hbackl, hback0, List.take_succ_cons, List.take_left, List.take_zero, List.take_nil, hlt, ia_61, rowsE_len, r1, g1, hall, plainFn]
    rw [h45]
    simp [canon_v, canon_sl, canon_clo, canon_ptr, need_refl, elems_sl, sf_v, sf_sl, sf_ptr, sf_ptrh, sf_clo, sf_dead, sf_nil, sf_full, sf_fr, need_true, ibeq, beq_ba, nbeq, nble, nblt, AM.nth, List.getD_cons_succ, List.getD_cons_zero, Option.bind_some, Option.bind_none, Option.map_some, onBool, AM.onG, onFn, seqK, retK, Ex.outOf, cond_true, cond_false, bin_lss, bin_leq, bin_gtr, bin_geq, bin_eql, bin_neq, bin_add, bin_sub, bin_mul, un_not, str_eql, str_neq, app_push, app_stk, app_tk, app_lp, load_app, load_app0, load_fp, store_app, store_app0, leave_app, leave_app0, AM.ownPut, AM.cellsOf, AM.shift, aPick, fin_v, fin_sl, beq_true, okSz, List.length_cons, List.length_nil, Nat.zero_add, Nat.add_zero, Nat.reduceAdd, decide_true, decide_false, Bool.and_true, Bool.true_and, Bool.and_self, Bool.not_true, Bool.not_false, List.getElem?_cons_zero, List.getElem?_cons_succ, List.nil_append, List.cons_append, hpp_app, hpp_stk, hpp_tk, hpp_lp, hpp_hp, app_lpadd, hload, hload0, hloadh, hstore, hstore0, hleave, hleave0, hfin_v, hfin_sl, hback, hloop, hsetlp, max_int, min_int, hstore_v, hstore_v0, hstore_s, hstore_d, modify_concat, part1, hbackt, hbackl, hback0, List.take_succ_cons, List.take_left, List.take_zero, List.take_nil, endLp, S21.lp0, w1, hs']

theorem count_ev (p : Pg) (h1 : p.funs.length ≤ 1000) (h2 : p.threads.length ≤ 1000) (hz : ∀ b ∈ p.bodies, sszs b ≤ 100000) (ht : tot p.bodies ≤ 1000000) (s : St) (hs : List Blk) :
    ∃ hs', E L (.func 21) [.agg p.enc] ((s.hpp hs).app [] [] []) = some (.tup [int (tot p.bodies : Nat), int (mxs p.bodies (-1))], (s.hpp hs').app [] [] []) := by
  obtain ⟨j, hs', hl⟩ := count_loop s ⟨p.enc, []⟩ p.bodies (by simp [Pg.bodies]; omega) hz p.bodies [] hs 0 (-1) rfl (by omega)
  refine ⟨hs', ?_⟩
  have hbo := bodies_ev p h1 h2
  have whole : AM.part true 4 0 p.enc = some (.agg p.enc) := rfl
  have hcan : canon (.agg p.enc) = .agg p.enc := rfl
  rw [S21_eq]
  simp at hl
  simp [S21, canon_v, canon_sl, canon_clo, canon_ptr, need_refl, elems_sl, sf_v, sf_sl, sf_ptr, sf_ptrh, sf_clo, sf_dead, sf_nil, sf_full, sf_fr, need_true, ibeq, beq_ba, nbeq, nble, nblt, AM.nth, List.getD_cons_succ, List.getD_cons_zero, Option.bind_some, Option.bind_none, Option.map_some, onBool, AM.onG, onFn, seqK, retK, Ex.outOf, cond_true, cond_false, bin_lss, bin_leq, bin_gtr, bin_geq, bin_eql, bin_neq, bin_add, bin_sub, bin_mul, un_not, str_eql, str_neq, app_push, app_stk, app_tk, app_lp, load_app, load_app0, load_fp, store_app, store_app0, leave_app, leave_app0, AM.ownPut, AM.cellsOf, AM.shift, aPick, fin_v, fin_sl, beq_true, okSz, List.length_cons, List.length_nil, Nat.zero_add, Nat.add_zero, Nat.reduceAdd, decide_true, decide_false, Bool.and_true, Bool.true_and, Bool.and_self, Bool.not_true, Bool.not_false, List.getElem?_cons_zero, List.getElem?_cons_succ, List.nil_append, List.cons_append, hpp_app, hpp_stk, hpp_tk, hpp_lp, hpp_hp, app_lpadd, hload, hload0, hloadh, hstore, hstore0, hleave, hleave0, hfin_v, hfin_sl, hback, hloop, hsetlp, max_int, min_int, hstore_v, hstore_v0, hstore_s, hstore_d, modify_concat, part1, hbackt, hbackl, hback0, List.take_succ_cons, List.take_left, List.take_zero, List.take_nil, okCells, laid, whole, hcan, hbo, len_61, rowsE_len]
  rw [hl]
  simp [canon_v, canon_sl, canon_clo, canon_ptr, need_refl, elems_sl, sf_v, sf_sl, sf_ptr, sf_ptrh, sf_clo, sf_dead, sf_nil, sf_full, sf_fr, need_true, ibeq, beq_ba, nbeq, nble, nblt, AM.nth, List.getD_cons_succ, List.getD_cons_zero, Option.bind_some, Option.bind_none, Option.map_some, onBool, AM.onG, onFn, seqK, retK, Ex.outOf, cond_true, cond_false, bin_lss, bin_leq, bin_gtr, bin_geq, bin_eql, bin_neq, bin_add, bin_sub, bin_mul, un_not, str_eql, str_neq, app_push, app_stk, app_tk, app_lp, load_app, load_app0, load_fp, store_app, store_app0, leave_app, leave_app0, AM.ownPut, AM.cellsOf, AM.shift, aPick, fin_v, fin_sl, beq_true, okSz, List.length_cons, List.length_nil, Nat.zero_add, Nat.add_zero, Nat.reduceAdd, decide_true, decide_false, Bool.and_true, Bool.true_and, Bool.and_self, Bool.not_true, Bool.not_false, List.getElem?_cons_zero, List.getElem?_cons_succ, List.nil_append, List.cons_append, hpp_app, hpp_stk, hpp_tk, hpp_lp, hpp_hp, app_lpadd, hload, hload0, hloadh, hstore, hstore0, hleave, hleave0, hfin_v, hfin_sl, hback, hloop, hsetlp, max_int, min_int, hstore_v, hstore_v0, hstore_s, hstore_d, modify_concat, part1, hbackt, hbackl, hback0, List.take_succ_cons, List.take_left, List.take_zero, List.take_nil, hfin_tup, flatC, canonC]
end Go.Proofs.Ytkbhejcfejembaa.S

/- Trees: the maker of programs: numbers, names, kinds. No condition. -/
namespace Go.Proofs.Ytkbhejcfejembaa.S
open Go Go.AM Go.Proofs
set_option linter.unusedVariables false
set_option linter.unusedSimpArgs false

/-- States that hold a maker of these numbers: where it stands, and how many statements are left. -/
structure Mk (nums : List Int) (Q : Nat → Nat → St) (N T Lb b : Nat) : Prop where
  hN : ∀ a l, (Q a l).stk.length = N
  hT : ∀ a l, (Q a l).tk.length = T
  hL : ∀ a l, (Q a l).lp.length = Lb
  hb : b < N
  ld : ∀ a l, (Q a l).blk false b = some [.sl (ints nums) .dead, int a, int l]
  st : ∀ a l a' l' : Nat, (Q a l).setBlk false b [.sl (ints nums) .dead, int a', int l'] = Q a' l'

theorem app_app (s : St) (bl bl' : List Blk) (tk tk' : List (Nat × Nat)) (lp lp' : List Aux) : (s.app bl tk lp).app bl' tk' lp' = s.app (bl ++ bl') (tk ++ tk') (lp ++ lp') := by simp [St.app]
theorem setBlk_old {s : St} {b : Nat} (h : b < s.stk.length) (cs : List PV) (bl : List Blk) (tk : List (Nat × Nat)) (lp : List Aux) : (s.app bl tk lp).setBlk false b cs = (s.setBlk false b cs).app bl tk lp := by
  simp only [St.setBlk, St.upB, St.app]
  congr 1
  apply List.ext_getElem?
  intro i
  rw [List.getElem?_modify, List.getElem?_append, List.getElem?_append, List.getElem?_modify, List.length_modify]
  by_cases hi : i < s.stk.length
  · rw [if_pos hi, if_pos hi]
  · rw [if_neg hi, if_neg hi]
    have : b ≠ i := by omega
    simp [this]
section
variable {nums : List Int} {Q : Nat → Nat → St} {N T Lb b : Nat} (M : Mk nums Q N T Lb b)
include M
theorem Mk.app (bl : List Blk) (tk : List (Nat × Nat)) : Mk nums (fun a l => (Q a l).app bl tk []) (N + bl.length) (T + tk.length) Lb b where
  hN a l := by rw [app_stk, M.hN]
  hT a l := by rw [app_tk, M.hT]
  hL a l := by rw [app_lp, M.hL]; rfl
  hb := by have := M.hb; omega
  ld a l := by rw [app_blk_old (by rw [M.hN]; exact M.hb), M.ld]
  st a l a' l' := by rw [setBlk_old (by rw [M.hN]; exact M.hb), M.st]
theorem Mk.ld0 (a l : Nat) (bl : List Blk) (tk : List (Nat × Nat)) (lp : List Aux) : aLoad false 1 (.ptr false b 0) ((Q a l).app bl tk lp) = some (.sl (ints nums) .dead) := by
  rw [load_old (by rw [M.hN]; exact M.hb), aLoad, M.ld]; rfl
theorem Mk.ld1 (a l : Nat) (bl : List Blk) (tk : List (Nat × Nat)) (lp : List Aux) : aLoad false 1 (.ptr false b 1) ((Q a l).app bl tk lp) = some (int a) := by
  rw [load_old (by rw [M.hN]; exact M.hb), aLoad, M.ld]; rfl
theorem Mk.ld2 (a l : Nat) (bl : List Blk) (tk : List (Nat × Nat)) (lp : List Aux) : aLoad false 1 (.ptr false b 2) ((Q a l).app bl tk lp) = some (int l) := by
  rw [load_old (by rw [M.hN]; exact M.hb), aLoad, M.ld]; rfl
theorem Mk.put (base : Nat) (a l : Nat) (bl : List Blk) (tk : List (Nat × Nat)) (lp : List Aux) (off : Nat) (v : Value) (ho : off < 3) : aStore base 1 (.ptr false b off) (.v v) ((Q a l).app bl tk lp) = some (((Q a l).setBlk false b (laid [.sl (ints nums) .dead, int a, int l] off [.v v])).app bl tk lp) := by
  have h : ((Q a l).app bl tk lp).blk false b = some [.sl (ints nums) .dead, int a, int l] := by rw [app_blk_old (by rw [M.hN]; exact M.hb), M.ld]
  have hle : Nat.ble (off + 1) 3 = true := by rw [Nat.ble_eq]; exact ho
  have h1 := fun cs => setBlk_old (s := Q a l) (b := b) (by rw [M.hN]; exact M.hb) cs bl tk lp
  simp only [aStore, AM.cellsOf, Option.bind_some, putCells, h, List.length_cons, List.length_nil, Nat.zero_add, nbeq, Nat.reduceAdd, hle, okCells, moveCs, moveC, h1]
  cases Nat.blt b base <;> rfl
theorem Mk.st1 (base : Nat) (a a' l : Nat) (bl : List Blk) (tk : List (Nat × Nat)) (lp : List Aux) : aStore base 1 (.ptr false b 1) (int a') ((Q a l).app bl tk lp) = some ((Q a' l).app bl tk lp) := by
  rw [M.put base a l bl tk lp 1 _ (by decide)]
  exact congrArg (fun x => some (x.app bl tk lp)) (M.st a l a' l)
theorem Mk.st2 (base : Nat) (a l l' : Nat) (bl : List Blk) (tk : List (Nat × Nat)) (lp : List Aux) : aStore base 1 (.ptr false b 2) (int l') ((Q a l).app bl tk lp) = some ((Q a l').app bl tk lp) := by
  rw [M.put base a l bl tk lp 2 _ (by decide)]
  exact congrArg (fun x => some (x.app bl tk lp)) (M.st a l a l')
theorem Mk.own (a l : Nat) (agg : Bool) (sz off j : Nat) (bl : List Blk) (tk : List (Nat × Nat)) (lp : List Aux) : aLoad agg sz (.ptr false (N + j) off) ((Q a l).app bl tk lp) = ((bl[j]?).map Blk.cs).bind (AM.part agg sz off) := by
  have := load_app agg sz off j (Q a l) bl tk lp
  rwa [M.hN] at this
theorem Mk.own0 (a l : Nat) (agg : Bool) (sz off : Nat) (bl : List Blk) (tk : List (Nat × Nat)) (lp : List Aux) : aLoad agg sz (.ptr false N off) ((Q a l).app bl tk lp) = ((bl[0]?).map Blk.cs).bind (AM.part agg sz off) := M.own a l agg sz off 0 bl tk lp
theorem Mk.sto (a l : Nat) (sz off j : Nat) (v : PV) (bl : List Blk) (tk : List (Nat × Nat)) (lp : List Aux) : aStore N sz (.ptr false (N + j) off) v ((Q a l).app bl tk lp) = (ownPut bl j off sz v).map fun bl => (Q a l).app bl tk lp := by
  have := store_app sz off j v (Q a l) bl tk lp
  rwa [M.hN] at this
theorem Mk.sto0 (a l : Nat) (sz off : Nat) (v : PV) (bl : List Blk) (tk : List (Nat × Nat)) (lp : List Aux) : aStore N sz (.ptr false N off) v ((Q a l).app bl tk lp) = (ownPut bl 0 off sz v).map fun bl => (Q a l).app bl tk lp := M.sto a l sz off 0 v bl tk lp
theorem Mk.fv (a l : Nat) (x : Value) (bl : List Blk) (tk : List (Nat × Nat)) (lp : List Aux) : fin N T Lb [.v x] ((Q a l).app bl tk lp) = some (.v x, (Q a l).app [] [] []) := by
  have := fin_v (Q a l) bl tk lp x
  rwa [M.hN, M.hT, M.hL] at this
theorem Mk.fs (a l : Nat) (es : List (List PV)) (c : Cap) (bl : List Blk) (tk : List (Nat × Nat)) (lp : List Aux) : fin N T Lb [.sl es c] ((Q a l).app bl tk lp) = some (.sl es .dead, (Q a l).app [] [] []) := by
  have := fin_sl (Q a l) bl tk lp es c
  rwa [M.hN, M.hT, M.hL] at this
theorem Mk.fa (a l : Nat) {cs : List PV} (h : cs.all flatC = true) (bl : List Blk) (tk : List (Nat × Nat)) (lp : List Aux) : fin N T Lb [.agg cs] ((Q a l).app bl tk lp) = some (.agg (cs.map canonC), (Q a l).app [] [] []) := by
  have := fin_agg (Q a l) bl tk lp h
  rwa [M.hN, M.hT, M.hL] at this
end

/-- What a maker's function comes to, wherever the maker lies. -/
def Does (nums : List Int) (f : FuncId) (args : List PV) (a l : Nat) (v : PV) (a' l' : Nat) : Prop := ∀ (Q : Nat → Nat → St) (N T Lb b : Nat), Mk nums Q N T Lb b → ∀ (bl : List Blk) (tk : List (Nat × Nat)), E L (.func f) (.ptr false b 0 :: args) ((Q a l).app bl tk []) = some (v, (Q a' l').app bl tk [])
theorem Does.of {nums : List Int} {f : FuncId} {args : List PV} {a l : Nat} {v : PV} {a' l' : Nat} (h : ∀ (Q : Nat → Nat → St) (N T Lb b : Nat), Mk nums Q N T Lb b → E L (.func f) (.ptr false b 0 :: args) ((Q a l).app [] [] []) = some (v, (Q a' l').app [] [] [])) : Does nums f args a l v a' l' :=
  fun Q N T Lb b M bl tk => by
    have := h _ _ _ _ _ (M.app bl tk)
    simpa only [app_nil] using this

theorem rem_u64 (P : Program) (c : Bool) (t : TypeId) (x y : Int) (h : 0 < y) : aBin P c .rem t (.v (.int .u64 x)) (.v (.int .u64 y)) = some (.v (.int .u64 (x.tmod y))) := by
  show flatRes (pureIn P (Op.intDiv .rem .u64 x y)) = _
  have : ¬ y = 0 := by omega
  simp only [Op.intDiv, this, if_false]
  exact flat_pure P (.int .u64 (x.tmod y)) rfl
theorem wrap_u64_nonneg (n : Int) : 0 ≤ IntKind.u64.wrap n := by
  simp only [IntKind.wrap, IntKind.bits, IntKind.signed]; simp; omega

theorem pick_ev (nums : List Int) (hn : nums.length ≤ 400) (a l : Nat) (k : Int) (h1 : 0 < k) (h2 : k ≤ 1000) : ∃ r a', 0 ≤ r ∧ r < k ∧ Does nums 22 [int k] a l (int r) a' l := by
  by_cases ha : a < nums.length
  · have h0 := wrap_u64_nonneg (nums[a]'ha)
    have hk : IntKind.u64.wrap k = k := IntWalk.u64_in _ (by omega)
    have hr := rem_u64 Try.prog false 59 (IntKind.u64.wrap (nums[a]'ha)) k h1
    have e : (IntKind.u64.wrap (nums[a]'ha)).tmod k = IntKind.u64.wrap (nums[a]'ha) % k := Int.tmod_eq_emod_of_nonneg h0
    have b0 := Int.emod_nonneg (IntKind.u64.wrap (nums[a]'ha)) (show k ≠ 0 by omega)
    have b1 := Int.emod_lt_of_pos (IntKind.u64.wrap (nums[a]'ha)) h1
    rw [e] at hr
    have hg : (ints nums)[a]? = some [int (nums[a]'ha)] := by simp [ints, ha]
    generalize hv : IntKind.u64.wrap (nums[a]'ha) = v at *
    have hw : IntKind.i64.wrap (v % k) = v % k := IntWalk.i64_in _ (by omega)
    generalize v % k = r at *
    refine ⟨r, a + 1, b0, b1, Does.of fun Q N T Lb b M => ?_⟩
    have hge : ¬ (a : Int) ≥ nums.length := by omega
    have w1 : IntKind.i64.wrap ((a : Int) + 1) = ((a + 1 : Nat) : Int) := by rw [IntWalk.i64_in _ (by omega)]; rfl
    have w2 : IntKind.i64.wrap (((a + 1 : Nat) : Int) - 1) = (a : Int) := by rw [IntWalk.i64_in _ (by omega)]; omega
    have hin : inRange (a : Int) nums.length = true := by simp [inRange]; omega
    rw [S22_eq]
    simp only [S22, canon_v, canon_sl, canon_clo, canon_ptr, need_refl, elems_sl, sf_v, sf_sl, sf_ptr, sf_ptrh, sf_clo, sf_dead, sf_nil, sf_full, sf_fr, need_true, ibeq, beq_ba, nbeq, nble, nblt, AM.nth, List.getD_cons_succ, List.getD_cons_zero, Option.bind_some, Option.bind_none, Option.map_some, onBool, AM.onG, onFn, seqK, retK, Ex.outOf, cond_true, cond_false, bin_lss, bin_leq, bin_gtr, bin_geq, bin_eql, bin_neq, bin_add, bin_sub, bin_mul, un_not, str_eql, str_neq, app_push, app_stk, app_tk, app_lp, load_app, load_app0, load_fp, store_app, store_app0, leave_app, leave_app0, AM.ownPut, AM.cellsOf, AM.shift, aPick, fin_v, fin_sl, beq_true, okSz, List.length_cons, List.length_nil, Nat.zero_add, Nat.add_zero, Nat.reduceAdd, decide_true, decide_false, Bool.and_true, Bool.true_and, Bool.and_self, Bool.not_true, Bool.not_false, List.getElem?_cons_zero, List.getElem?_cons_succ, List.nil_append, List.cons_append, hpp_app, hpp_stk, hpp_tk, hpp_lp, hpp_hp, app_lpadd, hload, hload0, hloadh, hstore, hstore0, hleave, hleave0, hfin_v, hfin_sl, hback, hloop, hsetlp, max_int, min_int, hstore_v, hstore_v0, hstore_s, hstore_d, modify_concat, part1, hbackt, hbackl, hback0, List.take_succ_cons, List.take_left, List.take_zero, List.take_nil, aNilCheck, M.ld0, M.ld1, len_22, ints_len, hge, M.hN, M.hT, M.hL, M.fv, w1, M.st1, w2, ia_22, hin, Int.toNat_natCast, hg, part1, conv_3_59, conv_59_3, hv, hk, hr, hw]
  · refine ⟨0, a, Int.le_refl _, h1, Does.of fun Q N T Lb b M => ?_⟩
    have hge : (a : Int) ≥ nums.length := by omega
    rw [S22_eq]
    simp [S22, canon_v, canon_sl, canon_clo, canon_ptr, need_refl, elems_sl, sf_v, sf_sl, sf_ptr, sf_ptrh, sf_clo, sf_dead, sf_nil, sf_full, sf_fr, need_true, ibeq, beq_ba, nbeq, nble, nblt, AM.nth, List.getD_cons_succ, List.getD_cons_zero, Option.bind_some, Option.bind_none, Option.map_some, onBool, AM.onG, onFn, seqK, retK, Ex.outOf, cond_true, cond_false, bin_lss, bin_leq, bin_gtr, bin_geq, bin_eql, bin_neq, bin_add, bin_sub, bin_mul, un_not, str_eql, str_neq, app_push, app_stk, app_tk, app_lp, load_app, load_app0, load_fp, store_app, store_app0, leave_app, leave_app0, AM.ownPut, AM.cellsOf, AM.shift, aPick, fin_v, fin_sl, beq_true, okSz, List.length_cons, List.length_nil, Nat.zero_add, Nat.add_zero, Nat.reduceAdd, decide_true, decide_false, Bool.and_true, Bool.true_and, Bool.and_self, Bool.not_true, Bool.not_false, List.getElem?_cons_zero, List.getElem?_cons_succ, List.nil_append, List.cons_append, hpp_app, hpp_stk, hpp_tk, hpp_lp, hpp_hp, app_lpadd, hload, hload0, hloadh, hstore, hstore0, hleave, hleave0, hfin_v, hfin_sl, hback, hloop, hsetlp, max_int, min_int, hstore_v, hstore_v0, hstore_s, hstore_d, modify_concat, part1, hbackt, hbackl, hback0, List.take_succ_cons, List.take_left, List.take_zero, List.take_nil, aNilCheck, M.ld0, M.ld1, len_22, ints_len, hge, M.hN, M.hT, M.hL, M.fv]
end Go.Proofs.Ytkbhejcfejembaa.S

/- Trees: the maker of programs: names, kinds, expressions. No condition. -/
namespace Go.Proofs.Ytkbhejcfejembaa.S
open Go Go.AM Go.Proofs
set_option linter.unusedVariables false
set_option linter.unusedSimpArgs false

def names8 : List ByteArray := [⟨#[97]⟩, ⟨#[98]⟩, ⟨#[120]⟩, ⟨#[121]⟩, ⟨#[103]⟩, ⟨#[82]⟩, ⟨#[81]⟩, ⟨#[102]⟩]
theorem strs_at {l : List ByteArray} {n : Nat} (h : n < l.length) : (strs l)[n]? = some [str l[n]] := by simp [strs, h]
theorem fin8 {r n : Int} (h0 : 0 ≤ r) (h1 : r < n) : r.toNat < n.toNat := by omega
theorem inR2 {r : Int} {n : Nat} (h0 : 0 ≤ r) (h1 : r < n) : inRange r n = true := by simp [inRange, h0, h1]

theorem part_all {n : Nat} {cs : List PV} (h : cs.length = n) : AM.part true n 0 cs = some (.agg cs) := by
  subst h
  have : Nat.ble (0 + cs.length) cs.length = true := by simp
  simp only [AM.part, this, cond_true, List.drop_zero, List.take_length]
section
variable (nums : List Int) (hn : nums.length ≤ 400)
include hn
theorem name_ev (a l : Nat) : ∃ nm a', Does nums 23 [] a l (str nm) a' l := by
  obtain ⟨r, a', h0, h1, hp⟩ := pick_ev nums hn a l 8 (by decide) (by decide)
  have hlt : r.toNat < names8.length := by show r.toNat < 8; omega
  refine ⟨names8[r.toNat], a', Does.of fun Q N T Lb b M => ?_⟩
  have hp := hp Q N T Lb b M
  have hlit : rBuildSlice 1 [.v (.string ⟨#[]⟩)] 8 [(0, (PV.v (.string ⟨#[97]⟩))), (1, (PV.v (.string ⟨#[98]⟩))), (2, (PV.v (.string ⟨#[120]⟩))), (3, (PV.v (.string ⟨#[121]⟩))), (4, (PV.v (.string ⟨#[103]⟩))), (5, (PV.v (.string ⟨#[82]⟩))), (6, (PV.v (.string ⟨#[81]⟩))), (7, (PV.v (.string ⟨#[102]⟩)))] = some (.sl (strs names8) .full) := rfl
  have hg := strs_at hlt
  have hin : inRange r (strs names8).length = true := inR2 h0 h1
  rw [S23_eq]
  simp only [S23, hlit, canon_v, canon_sl, canon_clo, canon_ptr, need_refl, elems_sl, sf_v, sf_sl, sf_ptr, sf_ptrh, sf_clo, sf_dead, sf_nil, sf_full, sf_fr, need_true, ibeq, beq_ba, nbeq, nble, nblt, AM.nth, List.getD_cons_succ, List.getD_cons_zero, Option.bind_some, Option.bind_none, Option.map_some, onBool, AM.onG, onFn, seqK, retK, Ex.outOf, cond_true, cond_false, bin_lss, bin_leq, bin_gtr, bin_geq, bin_eql, bin_neq, bin_add, bin_sub, bin_mul, un_not, str_eql, str_neq, app_push, app_stk, app_tk, app_lp, load_app, load_app0, load_fp, store_app, store_app0, leave_app, leave_app0, AM.ownPut, AM.cellsOf, AM.shift, aPick, fin_v, fin_sl, beq_true, okSz, List.length_cons, List.length_nil, Nat.zero_add, Nat.add_zero, Nat.reduceAdd, decide_true, decide_false, Bool.and_true, Bool.true_and, Bool.and_self, Bool.not_true, Bool.not_false, List.getElem?_cons_zero, List.getElem?_cons_succ, List.nil_append, List.cons_append, hpp_app, hpp_stk, hpp_tk, hpp_lp, hpp_hp, app_lpadd, hload, hload0, hloadh, hstore, hstore0, hleave, hleave0, hfin_v, hfin_sl, hback, hloop, hsetlp, max_int, min_int, hstore_v, hstore_v0, hstore_s, hstore_d, modify_concat, part1, hbackt, hbackl, hback0, List.take_succ_cons, List.take_left, List.take_zero, List.take_nil, hp, ia_47, hin, hg, part1, M.own, M.own0, M.sto, M.sto0, M.fv, M.fs, M.fa, M.hN, M.hT, M.hL, M.ld0, M.ld1, M.ld2, aNilCheck, okCells, laid, flatC, canonC_v, canonC_sl, List.all_cons, List.all_nil, List.map_cons, List.map_nil, part_all, rBuild, fillP, List.set_cons_zero, List.set_cons_succ]

theorem kind_ev (a l : Nat) : ∃ k rc a', I64 k ∧ Does nums 43 [] a l (.agg [int k, str rc]) a' l := by
  obtain ⟨r, a', h0, h1, hp⟩ := pick_ev nums hn a l 4 (by decide) (by decide)
  obtain ⟨o, ho⟩ : ∃ o, o = 1 + r := ⟨_, rfl⟩
  have hw : IntKind.i64.wrap (1 + r) = o := by rw [ho]; exact IntWalk.i64_in _ (by omega)
  by_cases h3 : o = 4
  · obtain ⟨nm, a2, hq⟩ := name_ev nums hn a' l
    refine ⟨4, nm, a2, by unfold I64; omega, Does.of fun Q N T Lb b M => ?_⟩
    have hp := hp Q N T Lb b M
    have hq := hq Q N T Lb b M
    rw [S43_eq]
    simp [S43, canon_v, canon_sl, canon_clo, canon_ptr, need_refl, elems_sl, sf_v, sf_sl, sf_ptr, sf_ptrh, sf_clo, sf_dead, sf_nil, sf_full, sf_fr, need_true, ibeq, beq_ba, nbeq, nble, nblt, AM.nth, List.getD_cons_succ, List.getD_cons_zero, Option.bind_some, Option.bind_none, Option.map_some, onBool, AM.onG, onFn, seqK, retK, Ex.outOf, cond_true, cond_false, bin_lss, bin_leq, bin_gtr, bin_geq, bin_eql, bin_neq, bin_add, bin_sub, bin_mul, un_not, str_eql, str_neq, app_push, app_stk, app_tk, app_lp, load_app, load_app0, load_fp, store_app, store_app0, leave_app, leave_app0, AM.ownPut, AM.cellsOf, AM.shift, aPick, fin_v, fin_sl, beq_true, okSz, List.length_cons, List.length_nil, Nat.zero_add, Nat.add_zero, Nat.reduceAdd, decide_true, decide_false, Bool.and_true, Bool.true_and, Bool.and_self, Bool.not_true, Bool.not_false, List.getElem?_cons_zero, List.getElem?_cons_succ, List.nil_append, List.cons_append, hpp_app, hpp_stk, hpp_tk, hpp_lp, hpp_hp, app_lpadd, hload, hload0, hloadh, hstore, hstore0, hleave, hleave0, hfin_v, hfin_sl, hback, hloop, hsetlp, max_int, min_int, hstore_v, hstore_v0, hstore_s, hstore_d, modify_concat, part1, hbackt, hbackl, hback0, List.take_succ_cons, List.take_left, List.take_zero, List.take_nil, hp, hw, h3, hq, M.own, M.own0, M.sto, M.sto0, M.fv, M.fs, M.fa, M.hN, M.hT, M.hL, M.ld0, M.ld1, M.ld2, aNilCheck, okCells, laid, flatC, canonC_v, canonC_sl, List.all_cons, List.all_nil, List.map_cons, List.map_nil, part_all, rBuild, fillP, List.set_cons_zero, List.set_cons_succ]
  · refine ⟨o, ⟨#[]⟩, a', by unfold I64; omega, Does.of fun Q N T Lb b M => ?_⟩
    have hp := hp Q N T Lb b M
    rw [S43_eq]
    simp [S43, canon_v, canon_sl, canon_clo, canon_ptr, need_refl, elems_sl, sf_v, sf_sl, sf_ptr, sf_ptrh, sf_clo, sf_dead, sf_nil, sf_full, sf_fr, need_true, ibeq, beq_ba, nbeq, nble, nblt, AM.nth, List.getD_cons_succ, List.getD_cons_zero, Option.bind_some, Option.bind_none, Option.map_some, onBool, AM.onG, onFn, seqK, retK, Ex.outOf, cond_true, cond_false, bin_lss, bin_leq, bin_gtr, bin_geq, bin_eql, bin_neq, bin_add, bin_sub, bin_mul, un_not, str_eql, str_neq, app_push, app_stk, app_tk, app_lp, load_app, load_app0, load_fp, store_app, store_app0, leave_app, leave_app0, AM.ownPut, AM.cellsOf, AM.shift, aPick, fin_v, fin_sl, beq_true, okSz, List.length_cons, List.length_nil, Nat.zero_add, Nat.add_zero, Nat.reduceAdd, decide_true, decide_false, Bool.and_true, Bool.true_and, Bool.and_self, Bool.not_true, Bool.not_false, List.getElem?_cons_zero, List.getElem?_cons_succ, List.nil_append, List.cons_append, hpp_app, hpp_stk, hpp_tk, hpp_lp, hpp_hp, app_lpadd, hload, hload0, hloadh, hstore, hstore0, hleave, hleave0, hfin_v, hfin_sl, hback, hloop, hsetlp, max_int, min_int, hstore_v, hstore_v0, hstore_s, hstore_d, modify_concat, part1, hbackt, hbackl, hback0, List.take_succ_cons, List.take_left, List.take_zero, List.take_nil, hp, hw, h3, M.own, M.own0, M.sto, M.sto0, M.fv, M.fs, M.fa, M.hN, M.hT, M.hL, M.ld0, M.ld1, M.ld2, aNilCheck, okCells, laid, flatC, canonC_v, canonC_sl, List.all_cons, List.all_nil, List.map_cons, List.map_nil, part_all, rBuild, fillP, List.set_cons_zero, List.set_cons_succ]
end
end Go.Proofs.Ytkbhejcfejembaa.S

/- Trees: the maker of programs: expressions. Printed by mkEx.py. No condition. -/
namespace Go.Proofs.Ytkbhejcfejembaa.S
open Go Go.AM Go.Proofs
set_option linter.unusedVariables false
set_option linter.unusedSimpArgs false
set_option maxHeartbeats 4000000

def lits4 : List Int := [0, 9223372036854775808, 9221120237041090560, 4607182418800017408]
def u64s (l : List Int) : List (List PV) := l.map fun n => [.v (.int .u64 n)]
theorem u64s_at {l : List Int} {n : Nat} (h : n < l.length) : (u64s l)[n]? = some [.v (.int .u64 l[n])] := by simp [u64s, h]
theorem X.lit1 (x : X) (z : List PV) (hz : z.length = 9) : rBuildSlice 9 z 1 [(0, .agg x.enc)] = some (.sl (encs [x]) .full) := by rw [AM.lit1 hz x.len x.pl x.len]; rfl
theorem X.lit2 (x y : X) (z : List PV) (hz : z.length = 9) : rBuildSlice 9 z 2 [(0, .agg x.enc), (1, .agg y.enc)] = some (.sl (encs [x, y]) .full) := by rw [AM.lit2 hz x.len y.len x.pl y.pl]; rfl
theorem rng_mk (x : X) {y : X} (e : x = y) (h : -1000 ≤ x.op ∧ x.op ≤ 1000 ∧ -1000 ≤ x.bin ∧ x.bin ≤ 1000 ∧ 0 ≤ x.n ∧ x.n ≤ 18446744073709551615 ∧ -1000 ≤ x.kd ∧ x.kd ≤ 1000) (hl : x.kids.length ≤ 1000) (hk : rngs x.kids) : y.rng := by
  subst e
  rw [X.rng_eq]
  unfold I64 U64
  exact ⟨by omega, by omega, by omega, by omega, by omega, hk⟩
theorem lits4_rng {i : Nat} (h : i < lits4.length) : U64 lits4[i] := by
  have : ∀ j : Fin 4, U64 (lits4[j.1]'(show j.1 < 4 from j.2)) := by unfold U64; decide
  exact this ⟨i, h⟩
theorem sz_leaf (op bin n kd : Int) (rc name : ByteArray) (d : Nat) : (X.mk op bin n kd rc name [] 0 0).sz + 1 ≤ 2 ^ (d + 1) := by
  have : 1 ≤ 2 ^ d := Nat.one_le_two_pow
  simp [X.sz, szs, Nat.pow_succ]; omega
section
variable (nums : List Int) (hn : nums.length ≤ 400)
include hn

/-- What the switch does with an operation, where the depth lets it be. -/
theorem expr_leaf (d a l : Nat) (r : Int) (a1 : Nat) (h0 : 0 ≤ r) (h1 : r < 9) (hp : Does nums 22 [int 9] a l (int r) a1 l) (o : Int) (hw : IntKind.i64.wrap (1 + r) = o)
    (hpre : (d = 0 ∧ ¬ o > 5) ∨ ¬ d = 0) (ho : o = 1 ∨ o = 2 ∨ o = 3 ∨ o = 4 ∨ o = 5) : ∃ (x : X) (a' : Nat), x.sz + 1 ≤ 2 ^ (d + 1) ∧ x.rng ∧ Does nums 49 [int d] a l (.agg x.enc) a' l := by
  rcases ho with ho | ho | ho | ho | ho
  · -- 1
    obtain ⟨q, a2, q0, q1, hq⟩ := pick_ev nums hn a1 l 200 (by decide) (by decide)
    refine ⟨⟨1, 0, IntKind.u64.wrap q, 0, ⟨#[]⟩, ⟨#[]⟩, [], 0, 0⟩, a2, sz_leaf .., rng_mk ⟨1, 0, IntKind.u64.wrap q, 0, ⟨#[]⟩, ⟨#[]⟩, [], 0, 0⟩ rfl (by simp only [X.op, X.bin, X.n, X.kd, u64w]; omega) (Nat.zero_le _) trivial, Does.of fun Q N T Lb b M => ?_⟩
    have hp := hp Q N T Lb b M
    have hq := hq Q N T Lb b M
    rw [S49_eq]
    rcases hpre with ⟨rfl, h5⟩ | hd
    · simp [S49, canon_v, canon_sl, canon_clo, canon_ptr, need_refl, elems_sl, sf_v, sf_sl, sf_ptr, sf_ptrh, sf_clo, sf_dead, sf_nil, sf_full, sf_fr, need_true, ibeq, beq_ba, nbeq, nble, nblt, AM.nth, List.getD_cons_succ, List.getD_cons_zero, Option.bind_some, Option.bind_none, Option.map_some, onBool, AM.onG, onFn, seqK, retK, Ex.outOf, cond_true, cond_false, bin_lss, bin_leq, bin_gtr, bin_geq, bin_eql, bin_neq, bin_add, bin_sub, bin_mul, un_not, str_eql, str_neq, app_push, app_stk, app_tk, app_lp, load_app, load_app0, load_fp, store_app, store_app0, leave_app, leave_app0, AM.ownPut, AM.cellsOf, AM.shift, aPick, fin_v, fin_sl, beq_true, okSz, List.length_cons, List.length_nil, Nat.zero_add, Nat.add_zero, Nat.reduceAdd, decide_true, decide_false, Bool.and_true, Bool.true_and, Bool.and_self, Bool.not_true, Bool.not_false, List.getElem?_cons_zero, List.getElem?_cons_succ, List.nil_append, List.cons_append, hpp_app, hpp_stk, hpp_tk, hpp_lp, hpp_hp, app_lpadd, hload, hload0, hloadh, hstore, hstore0, hleave, hleave0, hfin_v, hfin_sl, hback, hloop, hsetlp, max_int, min_int, hstore_v, hstore_v0, hstore_s, hstore_d, modify_concat, part1, hbackt, hbackl, hback0, List.take_succ_cons, List.take_left, List.take_zero, List.take_nil, hp, hq, hw, ho, conv_3_38, h5, M.own, M.own0, M.sto, M.sto0, M.fv, M.fs, M.fa, M.hN, M.hT, M.hL, M.ld0, M.ld1, M.ld2, aNilCheck, okCells, laid, flatC, canonC_v, canonC_sl, List.all_cons, List.all_nil, List.map_cons, List.map_nil, part_all, rBuild, fillP, List.set_cons_zero, List.set_cons_succ, X.enc, encs]
    · simp [S49, canon_v, canon_sl, canon_clo, canon_ptr, need_refl, elems_sl, sf_v, sf_sl, sf_ptr, sf_ptrh, sf_clo, sf_dead, sf_nil, sf_full, sf_fr, need_true, ibeq, beq_ba, nbeq, nble, nblt, AM.nth, List.getD_cons_succ, List.getD_cons_zero, Option.bind_some, Option.bind_none, Option.map_some, onBool, AM.onG, onFn, seqK, retK, Ex.outOf, cond_true, cond_false, bin_lss, bin_leq, bin_gtr, bin_geq, bin_eql, bin_neq, bin_add, bin_sub, bin_mul, un_not, str_eql, str_neq, app_push, app_stk, app_tk, app_lp, load_app, load_app0, load_fp, store_app, store_app0, leave_app, leave_app0, AM.ownPut, AM.cellsOf, AM.shift, aPick, fin_v, fin_sl, beq_true, okSz, List.length_cons, List.length_nil, Nat.zero_add, Nat.add_zero, Nat.reduceAdd, decide_true, decide_false, Bool.and_true, Bool.true_and, Bool.and_self, Bool.not_true, Bool.not_false, List.getElem?_cons_zero, List.getElem?_cons_succ, List.nil_append, List.cons_append, hpp_app, hpp_stk, hpp_tk, hpp_lp, hpp_hp, app_lpadd, hload, hload0, hloadh, hstore, hstore0, hleave, hleave0, hfin_v, hfin_sl, hback, hloop, hsetlp, max_int, min_int, hstore_v, hstore_v0, hstore_s, hstore_d, modify_concat, part1, hbackt, hbackl, hback0, List.take_succ_cons, List.take_left, List.take_zero, List.take_nil, hp, hq, hw, ho, conv_3_38, hd, M.own, M.own0, M.sto, M.sto0, M.fv, M.fs, M.fa, M.hN, M.hT, M.hL, M.ld0, M.ld1, M.ld2, aNilCheck, okCells, laid, flatC, canonC_v, canonC_sl, List.all_cons, List.all_nil, List.map_cons, List.map_nil, part_all, rBuild, fillP, List.set_cons_zero, List.set_cons_succ, X.enc, encs]
  · -- 2
    have hlit : rBuildSlice 1 [.v (.int .u64 0)] 4 [(0, (PV.v (.int .u64 0))), (1, (PV.v (.int .u64 9223372036854775808))), (2, (PV.v (.int .u64 9221120237041090560))), (3, (PV.v (.int .u64 4607182418800017408)))] = some (.sl (u64s lits4) .full) := rfl
    obtain ⟨q, a2, q0, q1, hq⟩ := pick_ev nums hn a1 l 4 (by decide) (by decide)
    have hlt : q.toNat < lits4.length := by show q.toNat < 4; omega
    have hg := u64s_at hlt
    have hin : inRange q (u64s lits4).length = true := inR2 q0 q1
    have hu := lits4_rng hlt
    refine ⟨⟨2, 0, lits4[q.toNat], 0, ⟨#[]⟩, ⟨#[]⟩, [], 0, 0⟩, a2, sz_leaf .., rng_mk ⟨2, 0, lits4[q.toNat], 0, ⟨#[]⟩, ⟨#[]⟩, [], 0, 0⟩ rfl (by simp only [X.op, X.bin, X.n, X.kd]; unfold U64 at hu; omega) (Nat.zero_le _) trivial, Does.of fun Q N T Lb b M => ?_⟩
    have hp := hp Q N T Lb b M
    have hq := hq Q N T Lb b M
    rw [S49_eq]
    rcases hpre with ⟨rfl, h5⟩ | hd
    · simp [S49, canon_v, canon_sl, canon_clo, canon_ptr, need_refl, elems_sl, sf_v, sf_sl, sf_ptr, sf_ptrh, sf_clo, sf_dead, sf_nil, sf_full, sf_fr, need_true, ibeq, beq_ba, nbeq, nble, nblt, AM.nth, List.getD_cons_succ, List.getD_cons_zero, Option.bind_some, Option.bind_none, Option.map_some, onBool, AM.onG, onFn, seqK, retK, Ex.outOf, cond_true, cond_false, bin_lss, bin_leq, bin_gtr, bin_geq, bin_eql, bin_neq, bin_add, bin_sub, bin_mul, un_not, str_eql, str_neq, app_push, app_stk, app_tk, app_lp, load_app, load_app0, load_fp, store_app, store_app0, leave_app, leave_app0, AM.ownPut, AM.cellsOf, AM.shift, aPick, fin_v, fin_sl, beq_true, okSz, List.length_cons, List.length_nil, Nat.zero_add, Nat.add_zero, Nat.reduceAdd, decide_true, decide_false, Bool.and_true, Bool.true_and, Bool.and_self, Bool.not_true, Bool.not_false, List.getElem?_cons_zero, List.getElem?_cons_succ, List.nil_append, List.cons_append, hpp_app, hpp_stk, hpp_tk, hpp_lp, hpp_hp, app_lpadd, hload, hload0, hloadh, hstore, hstore0, hleave, hleave0, hfin_v, hfin_sl, hback, hloop, hsetlp, max_int, min_int, hstore_v, hstore_v0, hstore_s, hstore_d, modify_concat, part1, hbackt, hbackl, hback0, List.take_succ_cons, List.take_left, List.take_zero, List.take_nil, hp, hq, hw, ho, hlit, ia_107, hin, hg, h5, M.own, M.own0, M.sto, M.sto0, M.fv, M.fs, M.fa, M.hN, M.hT, M.hL, M.ld0, M.ld1, M.ld2, aNilCheck, okCells, laid, flatC, canonC_v, canonC_sl, List.all_cons, List.all_nil, List.map_cons, List.map_nil, part_all, rBuild, fillP, List.set_cons_zero, List.set_cons_succ, X.enc, encs]
    · simp [S49, canon_v, canon_sl, canon_clo, canon_ptr, need_refl, elems_sl, sf_v, sf_sl, sf_ptr, sf_ptrh, sf_clo, sf_dead, sf_nil, sf_full, sf_fr, need_true, ibeq, beq_ba, nbeq, nble, nblt, AM.nth, List.getD_cons_succ, List.getD_cons_zero, Option.bind_some, Option.bind_none, Option.map_some, onBool, AM.onG, onFn, seqK, retK, Ex.outOf, cond_true, cond_false, bin_lss, bin_leq, bin_gtr, bin_geq, bin_eql, bin_neq, bin_add, bin_sub, bin_mul, un_not, str_eql, str_neq, app_push, app_stk, app_tk, app_lp, load_app, load_app0, load_fp, store_app, store_app0, leave_app, leave_app0, AM.ownPut, AM.cellsOf, AM.shift, aPick, fin_v, fin_sl, beq_true, okSz, List.length_cons, List.length_nil, Nat.zero_add, Nat.add_zero, Nat.reduceAdd, decide_true, decide_false, Bool.and_true, Bool.true_and, Bool.and_self, Bool.not_true, Bool.not_false, List.getElem?_cons_zero, List.getElem?_cons_succ, List.nil_append, List.cons_append, hpp_app, hpp_stk, hpp_tk, hpp_lp, hpp_hp, app_lpadd, hload, hload0, hloadh, hstore, hstore0, hleave, hleave0, hfin_v, hfin_sl, hback, hloop, hsetlp, max_int, min_int, hstore_v, hstore_v0, hstore_s, hstore_d, modify_concat, part1, hbackt, hbackl, hback0, List.take_succ_cons, List.take_left, List.take_zero, List.take_nil, hp, hq, hw, ho, hlit, ia_107, hin, hg, hd, M.own, M.own0, M.sto, M.sto0, M.fv, M.fs, M.fa, M.hN, M.hT, M.hL, M.ld0, M.ld1, M.ld2, aNilCheck, okCells, laid, flatC, canonC_v, canonC_sl, List.all_cons, List.all_nil, List.map_cons, List.map_nil, part_all, rBuild, fillP, List.set_cons_zero, List.set_cons_succ, X.enc, encs]
  · -- 3
    obtain ⟨q, a2, q0, q1, hq⟩ := pick_ev nums hn a1 l 4 (by decide) (by decide)
    by_cases hq0 : q = 0
    · skip
      refine ⟨⟨3, 0, 0, 3, ⟨#[]⟩, ⟨#[]⟩, [], 0, 0⟩, a2, sz_leaf .., rng_mk ⟨3, 0, 0, 3, ⟨#[]⟩, ⟨#[]⟩, [], 0, 0⟩ rfl (by simp only [X.op, X.bin, X.n, X.kd, u64w]; omega) (Nat.zero_le _) trivial, Does.of fun Q N T Lb b M => ?_⟩
      have hp := hp Q N T Lb b M
      have hq := hq Q N T Lb b M
      rw [S49_eq]
      rcases hpre with ⟨rfl, h5⟩ | hd
      · simp [S49, canon_v, canon_sl, canon_clo, canon_ptr, need_refl, elems_sl, sf_v, sf_sl, sf_ptr, sf_ptrh, sf_clo, sf_dead, sf_nil, sf_full, sf_fr, need_true, ibeq, beq_ba, nbeq, nble, nblt, AM.nth, List.getD_cons_succ, List.getD_cons_zero, Option.bind_some, Option.bind_none, Option.map_some, onBool, AM.onG, onFn, seqK, retK, Ex.outOf, cond_true, cond_false, bin_lss, bin_leq, bin_gtr, bin_geq, bin_eql, bin_neq, bin_add, bin_sub, bin_mul, un_not, str_eql, str_neq, app_push, app_stk, app_tk, app_lp, load_app, load_app0, load_fp, store_app, store_app0, leave_app, leave_app0, AM.ownPut, AM.cellsOf, AM.shift, aPick, fin_v, fin_sl, beq_true, okSz, List.length_cons, List.length_nil, Nat.zero_add, Nat.add_zero, Nat.reduceAdd, decide_true, decide_false, Bool.and_true, Bool.true_and, Bool.and_self, Bool.not_true, Bool.not_false, List.getElem?_cons_zero, List.getElem?_cons_succ, List.nil_append, List.cons_append, hpp_app, hpp_stk, hpp_tk, hpp_lp, hpp_hp, app_lpadd, hload, hload0, hloadh, hstore, hstore0, hleave, hleave0, hfin_v, hfin_sl, hback, hloop, hsetlp, max_int, min_int, hstore_v, hstore_v0, hstore_s, hstore_d, modify_concat, part1, hbackt, hbackl, hback0, List.take_succ_cons, List.take_left, List.take_zero, List.take_nil, hp, hq, hw, ho, hq0, h5, M.own, M.own0, M.sto, M.sto0, M.fv, M.fs, M.fa, M.hN, M.hT, M.hL, M.ld0, M.ld1, M.ld2, aNilCheck, okCells, laid, flatC, canonC_v, canonC_sl, List.all_cons, List.all_nil, List.map_cons, List.map_nil, part_all, rBuild, fillP, List.set_cons_zero, List.set_cons_succ, X.enc, encs]
      · simp [S49, canon_v, canon_sl, canon_clo, canon_ptr, need_refl, elems_sl, sf_v, sf_sl, sf_ptr, sf_ptrh, sf_clo, sf_dead, sf_nil, sf_full, sf_fr, need_true, ibeq, beq_ba, nbeq, nble, nblt, AM.nth, List.getD_cons_succ, List.getD_cons_zero, Option.bind_some, Option.bind_none, Option.map_some, onBool, AM.onG, onFn, seqK, retK, Ex.outOf, cond_true, cond_false, bin_lss, bin_leq, bin_gtr, bin_geq, bin_eql, bin_neq, bin_add, bin_sub, bin_mul, un_not, str_eql, str_neq, app_push, app_stk, app_tk, app_lp, load_app, load_app0, load_fp, store_app, store_app0, leave_app, leave_app0, AM.ownPut, AM.cellsOf, AM.shift, aPick, fin_v, fin_sl, beq_true, okSz, List.length_cons, List.length_nil, Nat.zero_add, Nat.add_zero, Nat.reduceAdd, decide_true, decide_false, Bool.and_true, Bool.true_and, Bool.and_self, Bool.not_true, Bool.not_false, List.getElem?_cons_zero, List.getElem?_cons_succ, List.nil_append, List.cons_append, hpp_app, hpp_stk, hpp_tk, hpp_lp, hpp_hp, app_lpadd, hload, hload0, hloadh, hstore, hstore0, hleave, hleave0, hfin_v, hfin_sl, hback, hloop, hsetlp, max_int, min_int, hstore_v, hstore_v0, hstore_s, hstore_d, modify_concat, part1, hbackt, hbackl, hback0, List.take_succ_cons, List.take_left, List.take_zero, List.take_nil, hp, hq, hw, ho, hq0, hd, M.own, M.own0, M.sto, M.sto0, M.fv, M.fs, M.fa, M.hN, M.hT, M.hL, M.ld0, M.ld1, M.ld2, aNilCheck, okCells, laid, flatC, canonC_v, canonC_sl, List.all_cons, List.all_nil, List.map_cons, List.map_nil, part_all, rBuild, fillP, List.set_cons_zero, List.set_cons_succ, X.enc, encs]
    · skip
      obtain ⟨nm, a3, hr⟩ := name_ev nums hn a2 l
      refine ⟨⟨3, 0, 0, 4, nm, ⟨#[]⟩, [], 0, 0⟩, a3, sz_leaf .., rng_mk ⟨3, 0, 0, 4, nm, ⟨#[]⟩, [], 0, 0⟩ rfl (by simp only [X.op, X.bin, X.n, X.kd, u64w]; omega) (Nat.zero_le _) trivial, Does.of fun Q N T Lb b M => ?_⟩
      have hp := hp Q N T Lb b M
      have hq := hq Q N T Lb b M
      have hr := hr Q N T Lb b M
      rw [S49_eq]
      rcases hpre with ⟨rfl, h5⟩ | hd
      · simp [S49, canon_v, canon_sl, canon_clo, canon_ptr, need_refl, elems_sl, sf_v, sf_sl, sf_ptr, sf_ptrh, sf_clo, sf_dead, sf_nil, sf_full, sf_fr, need_true, ibeq, beq_ba, nbeq, nble, nblt, AM.nth, List.getD_cons_succ, List.getD_cons_zero, Option.bind_some, Option.bind_none, Option.map_some, onBool, AM.onG, onFn, seqK, retK, Ex.outOf, cond_true, cond_false, bin_lss, bin_leq, bin_gtr, bin_geq, bin_eql, bin_neq, bin_add, bin_sub, bin_mul, un_not, str_eql, str_neq, app_push, app_stk, app_tk, app_lp, load_app, load_app0, load_fp, store_app, store_app0, leave_app, leave_app0, AM.ownPut, AM.cellsOf, AM.shift, aPick, fin_v, fin_sl, beq_true, okSz, List.length_cons, List.length_nil, Nat.zero_add, Nat.add_zero, Nat.reduceAdd, decide_true, decide_false, Bool.and_true, Bool.true_and, Bool.and_self, Bool.not_true, Bool.not_false, List.getElem?_cons_zero, List.getElem?_cons_succ, List.nil_append, List.cons_append, hpp_app, hpp_stk, hpp_tk, hpp_lp, hpp_hp, app_lpadd, hload, hload0, hloadh, hstore, hstore0, hleave, hleave0, hfin_v, hfin_sl, hback, hloop, hsetlp, max_int, min_int, hstore_v, hstore_v0, hstore_s, hstore_d, modify_concat, part1, hbackt, hbackl, hback0, List.take_succ_cons, List.take_left, List.take_zero, List.take_nil, hp, hq, hr, hw, ho, hq0, h5, M.own, M.own0, M.sto, M.sto0, M.fv, M.fs, M.fa, M.hN, M.hT, M.hL, M.ld0, M.ld1, M.ld2, aNilCheck, okCells, laid, flatC, canonC_v, canonC_sl, List.all_cons, List.all_nil, List.map_cons, List.map_nil, part_all, rBuild, fillP, List.set_cons_zero, List.set_cons_succ, X.enc, encs]
      · simp [S49, canon_v, canon_sl, canon_clo, canon_ptr, need_refl, elems_sl, sf_v, sf_sl, sf_ptr, sf_ptrh, sf_clo, sf_dead, sf_nil, sf_full, sf_fr, need_true, ibeq, beq_ba, nbeq, nble, nblt, AM.nth, List.getD_cons_succ, List.getD_cons_zero, Option.bind_some, Option.bind_none, Option.map_some, onBool, AM.onG, onFn, seqK, retK, Ex.outOf, cond_true, cond_false, bin_lss, bin_leq, bin_gtr, bin_geq, bin_eql, bin_neq, bin_add, bin_sub, bin_mul, un_not, str_eql, str_neq, app_push, app_stk, app_tk, app_lp, load_app, load_app0, load_fp, store_app, store_app0, leave_app, leave_app0, AM.ownPut, AM.cellsOf, AM.shift, aPick, fin_v, fin_sl, beq_true, okSz, List.length_cons, List.length_nil, Nat.zero_add, Nat.add_zero, Nat.reduceAdd, decide_true, decide_false, Bool.and_true, Bool.true_and, Bool.and_self, Bool.not_true, Bool.not_false, List.getElem?_cons_zero, List.getElem?_cons_succ, List.nil_append, List.cons_append, hpp_app, hpp_stk, hpp_tk, hpp_lp, hpp_hp, app_lpadd, hload, hload0, hloadh, hstore, hstore0, hleave, hleave0, hfin_v, hfin_sl, hback, hloop, hsetlp, max_int, min_int, hstore_v, hstore_v0, hstore_s, hstore_d, modify_concat, part1, hbackt, hbackl, hback0, List.take_succ_cons, List.take_left, List.take_zero, List.take_nil, hp, hq, hr, hw, ho, hq0, hd, M.own, M.own0, M.sto, M.sto0, M.fv, M.fs, M.fa, M.hN, M.hT, M.hL, M.ld0, M.ld1, M.ld2, aNilCheck, okCells, laid, flatC, canonC_v, canonC_sl, List.all_cons, List.all_nil, List.map_cons, List.map_nil, part_all, rBuild, fillP, List.set_cons_zero, List.set_cons_succ, X.enc, encs]
  · -- 4
    obtain ⟨q, a2, q0, q1, hq⟩ := pick_ev nums hn a1 l 16 (by decide) (by decide)
    refine ⟨⟨4, 0, IntKind.u64.wrap q, 0, ⟨#[]⟩, ⟨#[]⟩, [], 0, 0⟩, a2, sz_leaf .., rng_mk ⟨4, 0, IntKind.u64.wrap q, 0, ⟨#[]⟩, ⟨#[]⟩, [], 0, 0⟩ rfl (by simp only [X.op, X.bin, X.n, X.kd, u64w]; omega) (Nat.zero_le _) trivial, Does.of fun Q N T Lb b M => ?_⟩
    have hp := hp Q N T Lb b M
    have hq := hq Q N T Lb b M
    rw [S49_eq]
    rcases hpre with ⟨rfl, h5⟩ | hd
    · simp [S49, canon_v, canon_sl, canon_clo, canon_ptr, need_refl, elems_sl, sf_v, sf_sl, sf_ptr, sf_ptrh, sf_clo, sf_dead, sf_nil, sf_full, sf_fr, need_true, ibeq, beq_ba, nbeq, nble, nblt, AM.nth, List.getD_cons_succ, List.getD_cons_zero, Option.bind_some, Option.bind_none, Option.map_some, onBool, AM.onG, onFn, seqK, retK, Ex.outOf, cond_true, cond_false, bin_lss, bin_leq, bin_gtr, bin_geq, bin_eql, bin_neq, bin_add, bin_sub, bin_mul, un_not, str_eql, str_neq, app_push, app_stk, app_tk, app_lp, load_app, load_app0, load_fp, store_app, store_app0, leave_app, leave_app0, AM.ownPut, AM.cellsOf, AM.shift, aPick, fin_v, fin_sl, beq_true, okSz, List.length_cons, List.length_nil, Nat.zero_add, Nat.add_zero, Nat.reduceAdd, decide_true, decide_false, Bool.and_true, Bool.true_and, Bool.and_self, Bool.not_true, Bool.not_false, List.getElem?_cons_zero, List.getElem?_cons_succ, List.nil_append, List.cons_append, hpp_app, hpp_stk, hpp_tk, hpp_lp, hpp_hp, app_lpadd, hload, hload0, hloadh, hstore, hstore0, hleave, hleave0, hfin_v, hfin_sl, hback, hloop, hsetlp, max_int, min_int, hstore_v, hstore_v0, hstore_s, hstore_d, modify_concat, part1, hbackt, hbackl, hback0, List.take_succ_cons, List.take_left, List.take_zero, List.take_nil, hp, hq, hw, ho, conv_3_38, h5, M.own, M.own0, M.sto, M.sto0, M.fv, M.fs, M.fa, M.hN, M.hT, M.hL, M.ld0, M.ld1, M.ld2, aNilCheck, okCells, laid, flatC, canonC_v, canonC_sl, List.all_cons, List.all_nil, List.map_cons, List.map_nil, part_all, rBuild, fillP, List.set_cons_zero, List.set_cons_succ, X.enc, encs]
    · simp [S49, canon_v, canon_sl, canon_clo, canon_ptr, need_refl, elems_sl, sf_v, sf_sl, sf_ptr, sf_ptrh, sf_clo, sf_dead, sf_nil, sf_full, sf_fr, need_true, ibeq, beq_ba, nbeq, nble, nblt, AM.nth, List.getD_cons_succ, List.getD_cons_zero, Option.bind_some, Option.bind_none, Option.map_some, onBool, AM.onG, onFn, seqK, retK, Ex.outOf, cond_true, cond_false, bin_lss, bin_leq, bin_gtr, bin_geq, bin_eql, bin_neq, bin_add, bin_sub, bin_mul, un_not, str_eql, str_neq, app_push, app_stk, app_tk, app_lp, load_app, load_app0, load_fp, store_app, store_app0, leave_app, leave_app0, AM.ownPut, AM.cellsOf, AM.shift, aPick, fin_v, fin_sl, beq_true, okSz, List.length_cons, List.length_nil, Nat.zero_add, Nat.add_zero, Nat.reduceAdd, decide_true, decide_false, Bool.and_true, Bool.true_and, Bool.and_self, Bool.not_true, Bool.not_false, List.getElem?_cons_zero, List.getElem?_cons_succ, List.nil_append, List.cons_append, hpp_app, hpp_stk, hpp_tk, hpp_lp, hpp_hp, app_lpadd, hload, hload0, hloadh, hstore, hstore0, hleave, hleave0, hfin_v, hfin_sl, hback, hloop, hsetlp, max_int, min_int, hstore_v, hstore_v0, hstore_s, hstore_d, modify_concat, part1, hbackt, hbackl, hback0, List.take_succ_cons, List.take_left, List.take_zero, List.take_nil, hp, hq, hw, ho, conv_3_38, hd, M.own, M.own0, M.sto, M.sto0, M.fv, M.fs, M.fa, M.hN, M.hT, M.hL, M.ld0, M.ld1, M.ld2, aNilCheck, okCells, laid, flatC, canonC_v, canonC_sl, List.all_cons, List.all_nil, List.map_cons, List.map_nil, part_all, rBuild, fillP, List.set_cons_zero, List.set_cons_succ, X.enc, encs]
  · -- 5
    obtain ⟨nm, a2, hq⟩ := name_ev nums hn a1 l
    refine ⟨⟨5, 0, 0, 0, ⟨#[]⟩, nm, [], 0, 0⟩, a2, sz_leaf .., rng_mk ⟨5, 0, 0, 0, ⟨#[]⟩, nm, [], 0, 0⟩ rfl (by simp only [X.op, X.bin, X.n, X.kd, u64w]; omega) (Nat.zero_le _) trivial, Does.of fun Q N T Lb b M => ?_⟩
    have hp := hp Q N T Lb b M
    have hq := hq Q N T Lb b M
    rw [S49_eq]
    rcases hpre with ⟨rfl, h5⟩ | hd
    · simp [S49, canon_v, canon_sl, canon_clo, canon_ptr, need_refl, elems_sl, sf_v, sf_sl, sf_ptr, sf_ptrh, sf_clo, sf_dead, sf_nil, sf_full, sf_fr, need_true, ibeq, beq_ba, nbeq, nble, nblt, AM.nth, List.getD_cons_succ, List.getD_cons_zero, Option.bind_some, Option.bind_none, Option.map_some, onBool, AM.onG, onFn, seqK, retK, Ex.outOf, cond_true, cond_false, bin_lss, bin_leq, bin_gtr, bin_geq, bin_eql, bin_neq, bin_add, bin_sub, bin_mul, un_not, str_eql, str_neq, app_push, app_stk, app_tk, app_lp, load_app, load_app0, load_fp, store_app, store_app0, leave_app, leave_app0, AM.ownPut, AM.cellsOf, AM.shift, aPick, fin_v, fin_sl, beq_true, okSz, List.length_cons, List.length_nil, Nat.zero_add, Nat.add_zero, Nat.reduceAdd, decide_true, decide_false, Bool.and_true, Bool.true_and, Bool.and_self, Bool.not_true, Bool.not_false, List.getElem?_cons_zero, List.getElem?_cons_succ, List.nil_append, List.cons_append, hpp_app, hpp_stk, hpp_tk, hpp_lp, hpp_hp, app_lpadd, hload, hload0, hloadh, hstore, hstore0, hleave, hleave0, hfin_v, hfin_sl, hback, hloop, hsetlp, max_int, min_int, hstore_v, hstore_v0, hstore_s, hstore_d, modify_concat, part1, hbackt, hbackl, hback0, List.take_succ_cons, List.take_left, List.take_zero, List.take_nil, hp, hq, hw, ho, h5, M.own, M.own0, M.sto, M.sto0, M.fv, M.fs, M.fa, M.hN, M.hT, M.hL, M.ld0, M.ld1, M.ld2, aNilCheck, okCells, laid, flatC, canonC_v, canonC_sl, List.all_cons, List.all_nil, List.map_cons, List.map_nil, part_all, rBuild, fillP, List.set_cons_zero, List.set_cons_succ, X.enc, encs]
    · simp [S49, canon_v, canon_sl, canon_clo, canon_ptr, need_refl, elems_sl, sf_v, sf_sl, sf_ptr, sf_ptrh, sf_clo, sf_dead, sf_nil, sf_full, sf_fr, need_true, ibeq, beq_ba, nbeq, nble, nblt, AM.nth, List.getD_cons_succ, List.getD_cons_zero, Option.bind_some, Option.bind_none, Option.map_some, onBool, AM.onG, onFn, seqK, retK, Ex.outOf, cond_true, cond_false, bin_lss, bin_leq, bin_gtr, bin_geq, bin_eql, bin_neq, bin_add, bin_sub, bin_mul, un_not, str_eql, str_neq, app_push, app_stk, app_tk, app_lp, load_app, load_app0, load_fp, store_app, store_app0, leave_app, leave_app0, AM.ownPut, AM.cellsOf, AM.shift, aPick, fin_v, fin_sl, beq_true, okSz, List.length_cons, List.length_nil, Nat.zero_add, Nat.add_zero, Nat.reduceAdd, decide_true, decide_false, Bool.and_true, Bool.true_and, Bool.and_self, Bool.not_true, Bool.not_false, List.getElem?_cons_zero, List.getElem?_cons_succ, List.nil_append, List.cons_append, hpp_app, hpp_stk, hpp_tk, hpp_lp, hpp_hp, app_lpadd, hload, hload0, hloadh, hstore, hstore0, hleave, hleave0, hfin_v, hfin_sl, hback, hloop, hsetlp, max_int, min_int, hstore_v, hstore_v0, hstore_s, hstore_d, modify_concat, part1, hbackt, hbackl, hback0, List.take_succ_cons, List.take_left, List.take_zero, List.take_nil, hp, hq, hw, ho, hd, M.own, M.own0, M.sto, M.sto0, M.fv, M.fs, M.fa, M.hN, M.hT, M.hL, M.ld0, M.ld1, M.ld2, aNilCheck, okCells, laid, flatC, canonC_v, canonC_sl, List.all_cons, List.all_nil, List.map_cons, List.map_nil, part_all, rBuild, fillP, List.set_cons_zero, List.set_cons_succ, X.enc, encs]

theorem expr_mk : ∀ (d : Nat), d ≤ 10 → ∀ a l : Nat, ∃ (x : X) (a' : Nat), x.sz + 1 ≤ 2 ^ (d + 1) ∧ x.rng ∧ Does nums 49 [int d] a l (.agg x.enc) a' l := by
  intro d
  induction d with
  | zero =>
    intro _ a l
    obtain ⟨r, a1, h0, h1, hp⟩ := pick_ev nums hn a l 9 (by decide) (by decide)
    obtain ⟨o, ho⟩ : ∃ o, o = 1 + r := ⟨_, rfl⟩
    have hw : IntKind.i64.wrap (1 + r) = o := by rw [ho]; exact IntWalk.i64_in _ (by omega)
    by_cases h5 : o > 5
    · obtain ⟨nm, a2, hq⟩ := name_ev nums hn a1 l
      refine ⟨⟨5, 0, 0, 0, ⟨#[]⟩, nm, [], 0, 0⟩, a2, sz_leaf .., rng_mk _ rfl (by simp only [X.op, X.bin, X.n, X.kd]; omega) (Nat.zero_le _) trivial, Does.of fun Q N T Lb b M => ?_⟩
      have hp := hp Q N T Lb b M
      have hq := hq Q N T Lb b M
      rw [S49_eq]
      simp [S49, canon_v, canon_sl, canon_clo, canon_ptr, need_refl, elems_sl, sf_v, sf_sl, sf_ptr, sf_ptrh, sf_clo, sf_dead, sf_nil, sf_full, sf_fr, need_true, ibeq, beq_ba, nbeq, nble, nblt, AM.nth, List.getD_cons_succ, List.getD_cons_zero, Option.bind_some, Option.bind_none, Option.map_some, onBool, AM.onG, onFn, seqK, retK, Ex.outOf, cond_true, cond_false, bin_lss, bin_leq, bin_gtr, bin_geq, bin_eql, bin_neq, bin_add, bin_sub, bin_mul, un_not, str_eql, str_neq, app_push, app_stk, app_tk, app_lp, load_app, load_app0, load_fp, store_app, store_app0, leave_app, leave_app0, AM.ownPut, AM.cellsOf, AM.shift, aPick, fin_v, fin_sl, beq_true, okSz, List.length_cons, List.length_nil, Nat.zero_add, Nat.add_zero, Nat.reduceAdd, decide_true, decide_false, Bool.and_true, Bool.true_and, Bool.and_self, Bool.not_true, Bool.not_false, List.getElem?_cons_zero, List.getElem?_cons_succ, List.nil_append, List.cons_append, hpp_app, hpp_stk, hpp_tk, hpp_lp, hpp_hp, app_lpadd, hload, hload0, hloadh, hstore, hstore0, hleave, hleave0, hfin_v, hfin_sl, hback, hloop, hsetlp, max_int, min_int, hstore_v, hstore_v0, hstore_s, hstore_d, modify_concat, part1, hbackt, hbackl, hback0, List.take_succ_cons, List.take_left, List.take_zero, List.take_nil, hp, hq, hw, h5, M.own, M.own0, M.sto, M.sto0, M.fv, M.fs, M.fa, M.hN, M.hT, M.hL, M.ld0, M.ld1, M.ld2, aNilCheck, okCells, laid, flatC, canonC_v, canonC_sl, List.all_cons, List.all_nil, List.map_cons, List.map_nil, part_all, rBuild, fillP, List.set_cons_zero, List.set_cons_succ, X.enc, encs]
    · exact expr_leaf nums hn 0 a l r a1 h0 h1 hp o hw (.inl ⟨rfl, h5⟩) (by omega)
  | succ d ih =>
    intro hd10 a l
    obtain ⟨r, a1, h0, h1, hp⟩ := pick_ev nums hn a l 9 (by decide) (by decide)
    obtain ⟨o, ho⟩ : ∃ o, o = 1 + r := ⟨_, rfl⟩
    have hw : IntKind.i64.wrap (1 + r) = o := by rw [ho]; exact IntWalk.i64_in _ (by omega)
    have hd : ¬ ((d + 1 : Nat) : Int) = 0 := by omega
    have hm : IntKind.i64.wrap (((d + 1 : Nat) : Int) - 1) = (d : Int) := by rw [IntWalk.i64_in _ (by omega)]; omega
    by_cases h5 : o ≤ 5
    · exact expr_leaf nums hn (d + 1) a l r a1 h0 h1 hp o hw (.inr (by omega)) (by omega)
    have t1 : ¬ o = 1 := by omega
    have t2 : ¬ o = 2 := by omega
    have t3 : ¬ o = 3 := by omega
    have t4 : ¬ o = 4 := by omega
    have t5 : ¬ o = 5 := by omega
    generalize hD : ((d + 1 : Nat) : Int) = D at hd hm
    by_cases h9 : o = 9
    · obtain ⟨q, a2, q0, q1, hq⟩ := pick_ev nums hn a1 l 9 (by decide) (by decide)
      obtain ⟨x, a3, zx, gx, hx⟩ := ih (by omega) a2 l
      obtain ⟨y, a4, zy, gy, hy⟩ := ih (by omega) a3 l
      refine ⟨⟨9, q, 0, 0, ⟨#[]⟩, ⟨#[]⟩, [x, y], 0, 0⟩, a4, by simp only [X.sz, szs, Nat.pow_succ] at zx zy ⊢; omega, rng_mk _ rfl (by simp only [X.op, X.bin, X.n, X.kd]; omega) (by show 2 ≤ 1000; decide) ⟨gx, gy, trivial⟩, Does.of fun Q N T Lb b M => ?_⟩
      have hp := hp Q N T Lb b M
      have hq := hq Q N T Lb b M
      have hx := hx Q N T Lb b M
      have hy := hy Q N T Lb b M
      rw [S49_eq]
      simp [S49, canon_v, canon_sl, canon_clo, canon_ptr, need_refl, elems_sl, sf_v, sf_sl, sf_ptr, sf_ptrh, sf_clo, sf_dead, sf_nil, sf_full, sf_fr, need_true, ibeq, beq_ba, nbeq, nble, nblt, AM.nth, List.getD_cons_succ, List.getD_cons_zero, Option.bind_some, Option.bind_none, Option.map_some, onBool, AM.onG, onFn, seqK, retK, Ex.outOf, cond_true, cond_false, bin_lss, bin_leq, bin_gtr, bin_geq, bin_eql, bin_neq, bin_add, bin_sub, bin_mul, un_not, str_eql, str_neq, app_push, app_stk, app_tk, app_lp, load_app, load_app0, load_fp, store_app, store_app0, leave_app, leave_app0, AM.ownPut, AM.cellsOf, AM.shift, aPick, fin_v, fin_sl, beq_true, okSz, List.length_cons, List.length_nil, Nat.zero_add, Nat.add_zero, Nat.reduceAdd, decide_true, decide_false, Bool.and_true, Bool.true_and, Bool.and_self, Bool.not_true, Bool.not_false, List.getElem?_cons_zero, List.getElem?_cons_succ, List.nil_append, List.cons_append, hpp_app, hpp_stk, hpp_tk, hpp_lp, hpp_hp, app_lpadd, hload, hload0, hloadh, hstore, hstore0, hleave, hleave0, hfin_v, hfin_sl, hback, hloop, hsetlp, max_int, min_int, hstore_v, hstore_v0, hstore_s, hstore_d, modify_concat, part1, hbackt, hbackl, hback0, List.take_succ_cons, List.take_left, List.take_zero, List.take_nil, hp, hq, hw, hd, h9, hm, hx, hy, X.lit2, M.own, M.own0, M.sto, M.sto0, M.fv, M.fs, M.fa, M.hN, M.hT, M.hL, M.ld0, M.ld1, M.ld2, aNilCheck, okCells, laid, flatC, canonC_v, canonC_sl, List.all_cons, List.all_nil, List.map_cons, List.map_nil, part_all, rBuild, fillP, List.set_cons_zero, List.set_cons_succ, X.enc]
    · obtain ⟨x, a3, zx, gx, hx⟩ := ih (by omega) a1 l
      refine ⟨⟨o, 0, 0, 0, ⟨#[]⟩, ⟨#[]⟩, [x], 0, 0⟩, a3, by simp only [X.sz, szs, Nat.pow_succ] at zx ⊢; omega, rng_mk _ rfl (by simp only [X.op, X.bin, X.n, X.kd]; omega) (by show 1 ≤ 1000; decide) ⟨gx, trivial⟩, Does.of fun Q N T Lb b M => ?_⟩
      have hp := hp Q N T Lb b M
      have hx := hx Q N T Lb b M
      rw [S49_eq]
      simp [S49, canon_v, canon_sl, canon_clo, canon_ptr, need_refl, elems_sl, sf_v, sf_sl, sf_ptr, sf_ptrh, sf_clo, sf_dead, sf_nil, sf_full, sf_fr, need_true, ibeq, beq_ba, nbeq, nble, nblt, AM.nth, List.getD_cons_succ, List.getD_cons_zero, Option.bind_some, Option.bind_none, Option.map_some, onBool, AM.onG, onFn, seqK, retK, Ex.outOf, cond_true, cond_false, bin_lss, bin_leq, bin_gtr, bin_geq, bin_eql, bin_neq, bin_add, bin_sub, bin_mul, un_not, str_eql, str_neq, app_push, app_stk, app_tk, app_lp, load_app, load_app0, load_fp, store_app, store_app0, leave_app, leave_app0, AM.ownPut, AM.cellsOf, AM.shift, aPick, fin_v, fin_sl, beq_true, okSz, List.length_cons, List.length_nil, Nat.zero_add, Nat.add_zero, Nat.reduceAdd, decide_true, decide_false, Bool.and_true, Bool.true_and, Bool.and_self, Bool.not_true, Bool.not_false, List.getElem?_cons_zero, List.getElem?_cons_succ, List.nil_append, List.cons_append, hpp_app, hpp_stk, hpp_tk, hpp_lp, hpp_hp, app_lpadd, hload, hload0, hloadh, hstore, hstore0, hleave, hleave0, hfin_v, hfin_sl, hback, hloop, hsetlp, max_int, min_int, hstore_v, hstore_v0, hstore_s, hstore_d, modify_concat, part1, hbackt, hbackl, hback0, List.take_succ_cons, List.take_left, List.take_zero, List.take_nil, hp, hw, hd, t1, t2, t3, t4, t5, h9, hm, hx, X.lit1, M.own, M.own0, M.sto, M.sto0, M.fv, M.fs, M.fa, M.hN, M.hT, M.hL, M.ld0, M.ld1, M.ld2, aNilCheck, okCells, laid, flatC, canonC_v, canonC_sl, List.all_cons, List.all_nil, List.map_cons, List.map_nil, part_all, rBuild, fillP, List.set_cons_zero, List.set_cons_succ, X.enc]
end
end Go.Proofs.Ytkbhejcfejembaa.S

/- Trees: the maker of programs: places, right sides. No condition. -/
namespace Go.Proofs.Ytkbhejcfejembaa.S
open Go Go.AM Go.Proofs
set_option linter.unusedVariables false
set_option linter.unusedSimpArgs false
set_option maxHeartbeats 4000000

def X0 : X := ⟨0, 0, 0, 0, ⟨#[]⟩, ⟨#[]⟩, [], 0, 0⟩
def Pl0 : Pl := ⟨0, ⟨#[]⟩, ⟨#[]⟩, X0, 0, 0⟩
def Rt0 : Rt := ⟨0, X0, Pl0, ⟨#[]⟩, 0, 0⟩
def Rt.rng (p : Rt) : Prop := I64 p.op ∧ p.e.rng ∧ p.place.rng
theorem X0_rng : X0.rng := rng_mk X0 rfl (by decide) (Nat.zero_le _) trivial
theorem Pl0_rng : Pl0.rng := ⟨by unfold I64; decide, X0_rng⟩
theorem Rt0_rng : Rt0.rng := ⟨by unfold I64; decide, X0_rng, Pl0_rng⟩
theorem X0_sz : X0.sz = 1 := rfl
theorem x0le {n : Nat} (h : 1 ≤ n) : X0.sz ≤ n := h
section
variable (nums : List Int) (hn : nums.length ≤ 400)
include hn
theorem place_mk (a l : Nat) : ∃ (p : Pl) (a' : Nat), p.index.sz ≤ 7 ∧ p.rng ∧ Does nums 48 [] a l (.agg p.enc) a' l := by
  obtain ⟨r, a1, h0, h1, hp⟩ := pick_ev nums hn a l 3 (by decide) (by decide)
  obtain ⟨nm, a2, hq⟩ := name_ev nums hn a1 l
  by_cases c0 : r = 0
  · refine ⟨⟨1, nm, ⟨#[]⟩, X0, 0, 0⟩, a2, x0le (by decide), ⟨by dsimp only; unfold I64; decide, X0_rng⟩, Does.of fun Q N T Lb b M => ?_⟩
    have hp := hp Q N T Lb b M
    have hq := hq Q N T Lb b M
    rw [S48_eq]
    simp [S48, canon_v, canon_sl, canon_clo, canon_ptr, need_refl, elems_sl, sf_v, sf_sl, sf_ptr, sf_ptrh, sf_clo, sf_dead, sf_nil, sf_full, sf_fr, need_true, ibeq, beq_ba, nbeq, nble, nblt, AM.nth, List.getD_cons_succ, List.getD_cons_zero, Option.bind_some, Option.bind_none, Option.map_some, onBool, AM.onG, onFn, seqK, retK, Ex.outOf, cond_true, cond_false, bin_lss, bin_leq, bin_gtr, bin_geq, bin_eql, bin_neq, bin_add, bin_sub, bin_mul, un_not, str_eql, str_neq, app_push, app_stk, app_tk, app_lp, load_app, load_app0, load_fp, store_app, store_app0, leave_app, leave_app0, AM.ownPut, AM.cellsOf, AM.shift, aPick, fin_v, fin_sl, beq_true, okSz, List.length_cons, List.length_nil, Nat.zero_add, Nat.add_zero, Nat.reduceAdd, decide_true, decide_false, Bool.and_true, Bool.true_and, Bool.and_self, Bool.not_true, Bool.not_false, List.getElem?_cons_zero, List.getElem?_cons_succ, List.nil_append, List.cons_append, hpp_app, hpp_stk, hpp_tk, hpp_lp, hpp_hp, app_lpadd, hload, hload0, hloadh, hstore, hstore0, hleave, hleave0, hfin_v, hfin_sl, hback, hloop, hsetlp, max_int, min_int, hstore_v, hstore_v0, hstore_s, hstore_d, modify_concat, part1, hbackt, hbackl, hback0, List.take_succ_cons, List.take_left, List.take_zero, List.take_nil, hp, hq, c0, M.own, M.own0, M.sto, M.sto0, M.fv, M.fs, M.fa, M.hN, M.hT, M.hL, M.ld0, M.ld1, M.ld2, aNilCheck, okCells, laid, flatC, canonC_v, canonC_sl, List.all_cons, List.all_nil, List.map_cons, List.map_nil, part_all, rBuild, fillP, List.set_cons_zero, List.set_cons_succ, Pl.enc, X0, X.enc, encs]
  by_cases c1 : r = 1
  · obtain ⟨nm2, a3, hr⟩ := name_ev nums hn a2 l
    refine ⟨⟨2, nm, nm2, X0, 0, 0⟩, a3, x0le (by decide), ⟨by dsimp only; unfold I64; decide, X0_rng⟩, Does.of fun Q N T Lb b M => ?_⟩
    have hp := hp Q N T Lb b M
    have hq := hq Q N T Lb b M
    have hr := hr Q N T Lb b M
    rw [S48_eq]
    simp [S48, canon_v, canon_sl, canon_clo, canon_ptr, need_refl, elems_sl, sf_v, sf_sl, sf_ptr, sf_ptrh, sf_clo, sf_dead, sf_nil, sf_full, sf_fr, need_true, ibeq, beq_ba, nbeq, nble, nblt, AM.nth, List.getD_cons_succ, List.getD_cons_zero, Option.bind_some, Option.bind_none, Option.map_some, onBool, AM.onG, onFn, seqK, retK, Ex.outOf, cond_true, cond_false, bin_lss, bin_leq, bin_gtr, bin_geq, bin_eql, bin_neq, bin_add, bin_sub, bin_mul, un_not, str_eql, str_neq, app_push, app_stk, app_tk, app_lp, load_app, load_app0, load_fp, store_app, store_app0, leave_app, leave_app0, AM.ownPut, AM.cellsOf, AM.shift, aPick, fin_v, fin_sl, beq_true, okSz, List.length_cons, List.length_nil, Nat.zero_add, Nat.add_zero, Nat.reduceAdd, decide_true, decide_false, Bool.and_true, Bool.true_and, Bool.and_self, Bool.not_true, Bool.not_false, List.getElem?_cons_zero, List.getElem?_cons_succ, List.nil_append, List.cons_append, hpp_app, hpp_stk, hpp_tk, hpp_lp, hpp_hp, app_lpadd, hload, hload0, hloadh, hstore, hstore0, hleave, hleave0, hfin_v, hfin_sl, hback, hloop, hsetlp, max_int, min_int, hstore_v, hstore_v0, hstore_s, hstore_d, modify_concat, part1, hbackt, hbackl, hback0, List.take_succ_cons, List.take_left, List.take_zero, List.take_nil, hp, hq, hr, c1, M.own, M.own0, M.sto, M.sto0, M.fv, M.fs, M.fa, M.hN, M.hT, M.hL, M.ld0, M.ld1, M.ld2, aNilCheck, okCells, laid, flatC, canonC_v, canonC_sl, List.all_cons, List.all_nil, List.map_cons, List.map_nil, part_all, rBuild, fillP, List.set_cons_zero, List.set_cons_succ, Pl.enc, X0, X.enc, encs]
  · obtain ⟨x, a3, hz, hg, hx⟩ := expr_mk nums hn 2 (by decide) a2 l
    refine ⟨⟨3, nm, ⟨#[]⟩, x, 0, 0⟩, a3, by simp at hz; show x.sz ≤ 7; omega, ⟨by dsimp only; unfold I64; decide, hg⟩, Does.of fun Q N T Lb b M => ?_⟩
    have hp := hp Q N T Lb b M
    have hq := hq Q N T Lb b M
    have hx := hx Q N T Lb b M
    rw [show ((2 : Nat) : Int) = 2 from rfl] at hx
    rw [S48_eq]
    simp [S48, canon_v, canon_sl, canon_clo, canon_ptr, need_refl, elems_sl, sf_v, sf_sl, sf_ptr, sf_ptrh, sf_clo, sf_dead, sf_nil, sf_full, sf_fr, need_true, ibeq, beq_ba, nbeq, nble, nblt, AM.nth, List.getD_cons_succ, List.getD_cons_zero, Option.bind_some, Option.bind_none, Option.map_some, onBool, AM.onG, onFn, seqK, retK, Ex.outOf, cond_true, cond_false, bin_lss, bin_leq, bin_gtr, bin_geq, bin_eql, bin_neq, bin_add, bin_sub, bin_mul, un_not, str_eql, str_neq, app_push, app_stk, app_tk, app_lp, load_app, load_app0, load_fp, store_app, store_app0, leave_app, leave_app0, AM.ownPut, AM.cellsOf, AM.shift, aPick, fin_v, fin_sl, beq_true, okSz, List.length_cons, List.length_nil, Nat.zero_add, Nat.add_zero, Nat.reduceAdd, decide_true, decide_false, Bool.and_true, Bool.true_and, Bool.and_self, Bool.not_true, Bool.not_false, List.getElem?_cons_zero, List.getElem?_cons_succ, List.nil_append, List.cons_append, hpp_app, hpp_stk, hpp_tk, hpp_lp, hpp_hp, app_lpadd, hload, hload0, hloadh, hstore, hstore0, hleave, hleave0, hfin_v, hfin_sl, hback, hloop, hsetlp, max_int, min_int, hstore_v, hstore_v0, hstore_s, hstore_d, modify_concat, part1, hbackt, hbackl, hback0, List.take_succ_cons, List.take_left, List.take_zero, List.take_nil, hp, hq, hx, c0, c1, M.own, M.own0, M.sto, M.sto0, M.fv, M.fs, M.fa, M.hN, M.hT, M.hL, M.ld0, M.ld1, M.ld2, aNilCheck, okCells, laid, flatC, canonC_v, canonC_sl, List.all_cons, List.all_nil, List.map_cons, List.map_nil, part_all, rBuild, fillP, List.set_cons_zero, List.set_cons_succ, Pl.enc, X.enc_eq]

theorem right_mk (a l : Nat) : ∃ (p : Rt) (a' : Nat), p.e.sz ≤ 15 ∧ p.place.index.sz ≤ 7 ∧ p.rng ∧ Does nums 47 [] a l (.agg p.enc) a' l := by
  obtain ⟨r, a1, h0, h1, hp⟩ := pick_ev nums hn a l 6 (by decide) (by decide)
  by_cases c0 : r = 0
  · obtain ⟨p, a2, pz, pg, hq⟩ := place_mk nums hn a1 l
    refine ⟨⟨2, X0, p, ⟨#[]⟩, 0, 0⟩, a2, x0le (by decide), pz, ⟨by dsimp only; unfold I64; decide, X0_rng, pg⟩, Does.of fun Q N T Lb b M => ?_⟩
    have hp := hp Q N T Lb b M
    have hq := hq Q N T Lb b M
    rw [S47_eq]
    simp [S47, canon_v, canon_sl, canon_clo, canon_ptr, need_refl, elems_sl, sf_v, sf_sl, sf_ptr, sf_ptrh, sf_clo, sf_dead, sf_nil, sf_full, sf_fr, need_true, ibeq, beq_ba, nbeq, nble, nblt, AM.nth, List.getD_cons_succ, List.getD_cons_zero, Option.bind_some, Option.bind_none, Option.map_some, onBool, AM.onG, onFn, seqK, retK, Ex.outOf, cond_true, cond_false, bin_lss, bin_leq, bin_gtr, bin_geq, bin_eql, bin_neq, bin_add, bin_sub, bin_mul, un_not, str_eql, str_neq, app_push, app_stk, app_tk, app_lp, load_app, load_app0, load_fp, store_app, store_app0, leave_app, leave_app0, AM.ownPut, AM.cellsOf, AM.shift, aPick, fin_v, fin_sl, beq_true, okSz, List.length_cons, List.length_nil, Nat.zero_add, Nat.add_zero, Nat.reduceAdd, decide_true, decide_false, Bool.and_true, Bool.true_and, Bool.and_self, Bool.not_true, Bool.not_false, List.getElem?_cons_zero, List.getElem?_cons_succ, List.nil_append, List.cons_append, hpp_app, hpp_stk, hpp_tk, hpp_lp, hpp_hp, app_lpadd, hload, hload0, hloadh, hstore, hstore0, hleave, hleave0, hfin_v, hfin_sl, hback, hloop, hsetlp, max_int, min_int, hstore_v, hstore_v0, hstore_s, hstore_d, modify_concat, part1, hbackt, hbackl, hback0, List.take_succ_cons, List.take_left, List.take_zero, List.take_nil, hp, hq, c0, M.own, M.own0, M.sto, M.sto0, M.fv, M.fs, M.fa, M.hN, M.hT, M.hL, M.ld0, M.ld1, M.ld2, aNilCheck, okCells, laid, flatC, canonC_v, canonC_sl, List.all_cons, List.all_nil, List.map_cons, List.map_nil, part_all, rBuild, fillP, List.set_cons_zero, List.set_cons_succ, Rt.enc, Pl.enc, X0, X.enc_eq, X.op, X.bin, X.n, X.kd, X.rc, X.name, X.kids, X.line, X.col, encs]
  by_cases c1 : r = 1
  · obtain ⟨nm, a2, hq⟩ := name_ev nums hn a1 l
    refine ⟨⟨3, X0, Pl0, nm, 0, 0⟩, a2, x0le (by decide), x0le (by decide), ⟨by dsimp only; unfold I64; decide, X0_rng, Pl0_rng⟩, Does.of fun Q N T Lb b M => ?_⟩
    have hp := hp Q N T Lb b M
    have hq := hq Q N T Lb b M
    rw [S47_eq]
    simp [S47, canon_v, canon_sl, canon_clo, canon_ptr, need_refl, elems_sl, sf_v, sf_sl, sf_ptr, sf_ptrh, sf_clo, sf_dead, sf_nil, sf_full, sf_fr, need_true, ibeq, beq_ba, nbeq, nble, nblt, AM.nth, List.getD_cons_succ, List.getD_cons_zero, Option.bind_some, Option.bind_none, Option.map_some, onBool, AM.onG, onFn, seqK, retK, Ex.outOf, cond_true, cond_false, bin_lss, bin_leq, bin_gtr, bin_geq, bin_eql, bin_neq, bin_add, bin_sub, bin_mul, un_not, str_eql, str_neq, app_push, app_stk, app_tk, app_lp, load_app, load_app0, load_fp, store_app, store_app0, leave_app, leave_app0, AM.ownPut, AM.cellsOf, AM.shift, aPick, fin_v, fin_sl, beq_true, okSz, List.length_cons, List.length_nil, Nat.zero_add, Nat.add_zero, Nat.reduceAdd, decide_true, decide_false, Bool.and_true, Bool.true_and, Bool.and_self, Bool.not_true, Bool.not_false, List.getElem?_cons_zero, List.getElem?_cons_succ, List.nil_append, List.cons_append, hpp_app, hpp_stk, hpp_tk, hpp_lp, hpp_hp, app_lpadd, hload, hload0, hloadh, hstore, hstore0, hleave, hleave0, hfin_v, hfin_sl, hback, hloop, hsetlp, max_int, min_int, hstore_v, hstore_v0, hstore_s, hstore_d, modify_concat, part1, hbackt, hbackl, hback0, List.take_succ_cons, List.take_left, List.take_zero, List.take_nil, hp, hq, c1, M.own, M.own0, M.sto, M.sto0, M.fv, M.fs, M.fa, M.hN, M.hT, M.hL, M.ld0, M.ld1, M.ld2, aNilCheck, okCells, laid, flatC, canonC_v, canonC_sl, List.all_cons, List.all_nil, List.map_cons, List.map_nil, part_all, rBuild, fillP, List.set_cons_zero, List.set_cons_succ, Rt.enc, Pl0, Pl.enc, X0, X.enc, encs]
  by_cases c2 : r = 2
  · obtain ⟨x, a2, hz, hg, hx⟩ := expr_mk nums hn 2 (by decide) a1 l
    refine ⟨⟨4, x, Pl0, ⟨#[]⟩, 0, 0⟩, a2, by simp at hz; show x.sz ≤ 15; omega, x0le (by decide), ⟨by dsimp only; unfold I64; decide, hg, Pl0_rng⟩, Does.of fun Q N T Lb b M => ?_⟩
    have hp := hp Q N T Lb b M
    have hx := hx Q N T Lb b M
    rw [show ((2 : Nat) : Int) = 2 from rfl] at hx
    rw [S47_eq]
    simp [S47, canon_v, canon_sl, canon_clo, canon_ptr, need_refl, elems_sl, sf_v, sf_sl, sf_ptr, sf_ptrh, sf_clo, sf_dead, sf_nil, sf_full, sf_fr, need_true, ibeq, beq_ba, nbeq, nble, nblt, AM.nth, List.getD_cons_succ, List.getD_cons_zero, Option.bind_some, Option.bind_none, Option.map_some, onBool, AM.onG, onFn, seqK, retK, Ex.outOf, cond_true, cond_false, bin_lss, bin_leq, bin_gtr, bin_geq, bin_eql, bin_neq, bin_add, bin_sub, bin_mul, un_not, str_eql, str_neq, app_push, app_stk, app_tk, app_lp, load_app, load_app0, load_fp, store_app, store_app0, leave_app, leave_app0, AM.ownPut, AM.cellsOf, AM.shift, aPick, fin_v, fin_sl, beq_true, okSz, List.length_cons, List.length_nil, Nat.zero_add, Nat.add_zero, Nat.reduceAdd, decide_true, decide_false, Bool.and_true, Bool.true_and, Bool.and_self, Bool.not_true, Bool.not_false, List.getElem?_cons_zero, List.getElem?_cons_succ, List.nil_append, List.cons_append, hpp_app, hpp_stk, hpp_tk, hpp_lp, hpp_hp, app_lpadd, hload, hload0, hloadh, hstore, hstore0, hleave, hleave0, hfin_v, hfin_sl, hback, hloop, hsetlp, max_int, min_int, hstore_v, hstore_v0, hstore_s, hstore_d, modify_concat, part1, hbackt, hbackl, hback0, List.take_succ_cons, List.take_left, List.take_zero, List.take_nil, hp, hx, c2, M.own, M.own0, M.sto, M.sto0, M.fv, M.fs, M.fa, M.hN, M.hT, M.hL, M.ld0, M.ld1, M.ld2, aNilCheck, okCells, laid, flatC, canonC_v, canonC_sl, List.all_cons, List.all_nil, List.map_cons, List.map_nil, part_all, rBuild, fillP, List.set_cons_zero, List.set_cons_succ, Rt.enc, Pl0, Pl.enc, X0, X.enc_eq, X.op, X.bin, X.n, X.kd, X.rc, X.name, X.kids, X.line, X.col, encs]
  by_cases c3 : r = 3
  · obtain ⟨nm, a2, hq⟩ := name_ev nums hn a1 l
    refine ⟨⟨5, X0, Pl0, nm, 0, 0⟩, a2, x0le (by decide), x0le (by decide), ⟨by dsimp only; unfold I64; decide, X0_rng, Pl0_rng⟩, Does.of fun Q N T Lb b M => ?_⟩
    have hp := hp Q N T Lb b M
    have hq := hq Q N T Lb b M
    rw [S47_eq]
    simp [S47, canon_v, canon_sl, canon_clo, canon_ptr, need_refl, elems_sl, sf_v, sf_sl, sf_ptr, sf_ptrh, sf_clo, sf_dead, sf_nil, sf_full, sf_fr, need_true, ibeq, beq_ba, nbeq, nble, nblt, AM.nth, List.getD_cons_succ, List.getD_cons_zero, Option.bind_some, Option.bind_none, Option.map_some, onBool, AM.onG, onFn, seqK, retK, Ex.outOf, cond_true, cond_false, bin_lss, bin_leq, bin_gtr, bin_geq, bin_eql, bin_neq, bin_add, bin_sub, bin_mul, un_not, str_eql, str_neq, app_push, app_stk, app_tk, app_lp, load_app, load_app0, load_fp, store_app, store_app0, leave_app, leave_app0, AM.ownPut, AM.cellsOf, AM.shift, aPick, fin_v, fin_sl, beq_true, okSz, List.length_cons, List.length_nil, Nat.zero_add, Nat.add_zero, Nat.reduceAdd, decide_true, decide_false, Bool.and_true, Bool.true_and, Bool.and_self, Bool.not_true, Bool.not_false, List.getElem?_cons_zero, List.getElem?_cons_succ, List.nil_append, List.cons_append, hpp_app, hpp_stk, hpp_tk, hpp_lp, hpp_hp, app_lpadd, hload, hload0, hloadh, hstore, hstore0, hleave, hleave0, hfin_v, hfin_sl, hback, hloop, hsetlp, max_int, min_int, hstore_v, hstore_v0, hstore_s, hstore_d, modify_concat, part1, hbackt, hbackl, hback0, List.take_succ_cons, List.take_left, List.take_zero, List.take_nil, hp, hq, c3, M.own, M.own0, M.sto, M.sto0, M.fv, M.fs, M.fa, M.hN, M.hT, M.hL, M.ld0, M.ld1, M.ld2, aNilCheck, okCells, laid, flatC, canonC_v, canonC_sl, List.all_cons, List.all_nil, List.map_cons, List.map_nil, part_all, rBuild, fillP, List.set_cons_zero, List.set_cons_succ, Rt.enc, Pl0, Pl.enc, X0, X.enc, encs]
  · obtain ⟨x, a2, hz, hg, hx⟩ := expr_mk nums hn 3 (by decide) a1 l
    refine ⟨⟨1, x, Pl0, ⟨#[]⟩, 0, 0⟩, a2, by simp at hz; show x.sz ≤ 15; omega, x0le (by decide), ⟨by dsimp only; unfold I64; decide, hg, Pl0_rng⟩, Does.of fun Q N T Lb b M => ?_⟩
    have hp := hp Q N T Lb b M
    have hx := hx Q N T Lb b M
    rw [show ((3 : Nat) : Int) = 3 from rfl] at hx
    rw [S47_eq]
    simp [S47, canon_v, canon_sl, canon_clo, canon_ptr, need_refl, elems_sl, sf_v, sf_sl, sf_ptr, sf_ptrh, sf_clo, sf_dead, sf_nil, sf_full, sf_fr, need_true, ibeq, beq_ba, nbeq, nble, nblt, AM.nth, List.getD_cons_succ, List.getD_cons_zero, Option.bind_some, Option.bind_none, Option.map_some, onBool, AM.onG, onFn, seqK, retK, Ex.outOf, cond_true, cond_false, bin_lss, bin_leq, bin_gtr, bin_geq, bin_eql, bin_neq, bin_add, bin_sub, bin_mul, un_not, str_eql, str_neq, app_push, app_stk, app_tk, app_lp, load_app, load_app0, load_fp, store_app, store_app0, leave_app, leave_app0, AM.ownPut, AM.cellsOf, AM.shift, aPick, fin_v, fin_sl, beq_true, okSz, List.length_cons, List.length_nil, Nat.zero_add, Nat.add_zero, Nat.reduceAdd, decide_true, decide_false, Bool.and_true, Bool.true_and, Bool.and_self, Bool.not_true, Bool.not_false, List.getElem?_cons_zero, List.getElem?_cons_succ, List.nil_append, List.cons_append, hpp_app, hpp_stk, hpp_tk, hpp_lp, hpp_hp, app_lpadd, hload, hload0, hloadh, hstore, hstore0, hleave, hleave0, hfin_v, hfin_sl, hback, hloop, hsetlp, max_int, min_int, hstore_v, hstore_v0, hstore_s, hstore_d, modify_concat, part1, hbackt, hbackl, hback0, List.take_succ_cons, List.take_left, List.take_zero, List.take_nil, hp, hx, c0, c1, c2, c3, M.own, M.own0, M.sto, M.sto0, M.fv, M.fs, M.fa, M.hN, M.hT, M.hL, M.ld0, M.ld1, M.ld2, aNilCheck, okCells, laid, flatC, canonC_v, canonC_sl, List.all_cons, List.all_nil, List.map_cons, List.map_nil, part_all, rBuild, fillP, List.set_cons_zero, List.set_cons_succ, Rt.enc, Pl0, Pl.enc, X0, X.enc_eq, X.op, X.bin, X.n, X.kd, X.rc, X.name, X.kids, X.line, X.col, encs]
end
end Go.Proofs.Ytkbhejcfejembaa.S
