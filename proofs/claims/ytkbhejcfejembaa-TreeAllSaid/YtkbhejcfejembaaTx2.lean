/- Trees: the reference's texts of places and statements, and when two texts are the same. No condition. -/
import Derived.Test.YtkbhejcfejembaaTx
set_option linter.all false
namespace Go.Proofs.Ytkbhejcfejembaa.S
open Go Go.AM Go.Proofs
set_option linter.unusedVariables false
set_option linter.unusedSimpArgs false

def Pl.tx (p : Pl) : List ByteArray := [⟨#[112, 108, 97, 99, 101]⟩, numT p.op, p.base, p.field] ++ p.index.text
theorem Pl.tx_len (p : Pl) : p.tx.length = 4 + 8 * p.index.sz := by simp [Pl.tx, X.text_len]; omega
theorem place_ev (p : Pl) (h : p.index.sz ≤ 1000000) (st : St) : E L (.func 39) [.agg p.enc] st = some (.sl (strs p.tx) .dead, st) := by
  have he := expr_ev p.index.sz p.index (Nat.le_refl _) h
  obtain ⟨s, rfl⟩ : ∃ s : St, st = s.app [] [] [] := ⟨st, (app_nil st).symm⟩
  have hx := X.text_len p.index
  obtain ⟨c1, tk1, e1, o1⟩ := app_own (s := s) (tk := []) (es := strs [⟨#[112, 108, 97, 99, 101]⟩, numT p.op, p.base, p.field]) (ys := strs p.index.text) (bytes := 16) (Own.full ..) (by simp only [strs_len, maxLenB, List.length_cons, List.length_nil]; omega) (strs_ok _) (strs_ok _) (by decide) (by decide)
  rw [S39_eq]
  simp [strs] at e1
  simp [S39, canon_v, canon_sl, canon_clo, canon_ptr, need_refl, elems_sl, sf_v, sf_sl, sf_ptr, sf_ptrh, sf_clo, sf_dead, sf_nil, sf_full, sf_fr, need_true, ibeq, beq_ba, nbeq, nble, nblt, AM.nth, List.getD_cons_succ, List.getD_cons_zero, Option.bind_some, Option.bind_none, Option.map_some, onBool, AM.onG, onFn, seqK, retK, Ex.outOf, cond_true, cond_false, bin_lss, bin_leq, bin_gtr, bin_geq, bin_eql, bin_neq, bin_add, bin_sub, bin_mul, un_not, str_eql, str_neq, app_push, app_stk, app_tk, app_lp, load_app, load_app0, load_fp, store_app, store_app0, leave_app, leave_app0, AM.ownPut, AM.cellsOf, AM.shift, aPick, fin_v, fin_sl, beq_true, okSz, List.length_cons, List.length_nil, Nat.zero_add, Nat.add_zero, Nat.reduceAdd, decide_true, decide_false, Bool.and_true, Bool.true_and, Bool.and_self, Bool.not_true, Bool.not_false, List.getElem?_cons_zero, List.getElem?_cons_succ, List.nil_append, List.cons_append, hpp_app, hpp_stk, hpp_tk, hpp_lp, hpp_hp, app_lpadd, hload, hload0, hloadh, hstore, hstore0, hleave, hleave0, hfin_v, hfin_sl, hback, hloop, hsetlp, max_int, min_int, hstore_v, hstore_v0, hstore_s, hstore_d, modify_concat, part1, hbackt, hbackl, hback0, List.take_succ_cons, List.take_left, List.take_zero, List.take_nil, Pl.p0_1, Pl.p1_1, Pl.p2_1, Pl.p3_9a, X.can, he, text_ev, rBuildSlice, rLit, fillP, reps, laid, plainCs, plainC, chunks, strs, e1, Pl.tx]

mutual
def S.tx : S → List ByteArray
  | ⟨op, name, right, place, e, n, args, body, els, _, _⟩ => [⟨#[115, 116, 109, 116]⟩, numT op, name, numT n, numT right.op, right.name, numT args.length] ++ right.e.text ++ right.place.tx ++ place.tx ++ e.text ++ xtexts args ++ ([⟨#[114, 111, 119]⟩, numT body.length] ++ stxs body) ++ ([⟨#[114, 111, 119]⟩, numT els.length] ++ stxs els)
def stxs : List S → List ByteArray
  | [] => []
  | x :: xs => x.tx ++ stxs xs
end
def rowT (xs : List S) : List ByteArray := [⟨#[114, 111, 119]⟩, numT xs.length] ++ stxs xs
def S.hd (x : S) : List ByteArray := [⟨#[115, 116, 109, 116]⟩, numT x.op, x.name, numT x.n, numT x.right.op, x.right.name, numT x.args.length]
theorem S.tx_eq (x : S) : x.tx = x.hd ++ x.right.e.text ++ x.right.place.tx ++ x.place.tx ++ x.e.text ++ xtexts x.args ++ rowT x.body ++ rowT x.els := by
  cases x; simp only [S.tx]; rfl
mutual
theorem S.tx_len : ∀ x : S, x.tx.length ≤ 40 * x.sz
  | ⟨op, name, right, place, e, n, args, body, els, _, _⟩ => by
    have := stxs_len body
    have := stxs_len els
    simp [S.tx, S.sz, X.text_len, xtexts_len, Pl.tx_len, *]; omega
theorem stxs_len : ∀ xs : List S, (stxs xs).length ≤ 40 * sszs xs
  | [] => by simp [stxs, sszs]
  | x :: xs => by
    have := stxs_len xs
    have := S.tx_len x
    simp [stxs, sszs]; omega
end

theorem args_loop (s : St) (b : Blk) (xs0 : List X) (hb : szs xs0 ≤ 1000000) (hbk : b.cs.all (sf true (s.stk.length + 1) 4) = true) (L0 : List (List PV)) (n0 i0 : Int) : ∀ (xs p : List X) (acc : List ByteArray) (c : Cap) (tk : List (Nat × Nat)), xs0 = p ++ xs → acc.length + 8 * szs xs ≤ 100000000 → Own s tk c (strs acc).length 1 →
    ∃ j c' tk', itE (S15.b1 (E L) itE s.stk.length s.lp.length) [.sl (strs acc) c, .ptr false s.stk.length 0, .sl L0 .dead, int n0, int i0, .sl (encs xs0) .dead, int xs0.length, int p.length] (s.app [b] tk []) =
      some (.exit 2, [.sl (strs (acc ++ xtexts xs)) c', .ptr false s.stk.length 0, .sl L0 .dead, int n0, int i0, .sl (encs xs0) .dead, int xs0.length, int j], s.app [b] tk' []) ∧ Own s tk' c' (strs (acc ++ xtexts xs)).length 1
  | [], p, acc, c, tk, hx, ha, ho => by
    have e : xs0.length = p.length := by rw [hx]; simp
    refine ⟨p.length, c, tk, ?_, by simpa [xtexts] using ho⟩
    rw [itE_eq]
    simp [S15.b1, canon_v, canon_sl, canon_clo, canon_ptr, need_refl, elems_sl, sf_v, sf_sl, sf_ptr, sf_ptrh, sf_clo, sf_dead, sf_nil, sf_full, sf_fr, need_true, ibeq, beq_ba, nbeq, nble, nblt, AM.nth, List.getD_cons_succ, List.getD_cons_zero, Option.bind_some, Option.bind_none, Option.map_some, onBool, AM.onG, onFn, seqK, retK, Ex.outOf, cond_true, cond_false, bin_lss, bin_leq, bin_gtr, bin_geq, bin_eql, bin_neq, bin_add, bin_sub, bin_mul, un_not, str_eql, str_neq, app_push, app_stk, app_tk, app_lp, load_app, load_app0, load_fp, store_app, store_app0, leave_app, leave_app0, AM.ownPut, AM.cellsOf, AM.shift, aPick, fin_v, fin_sl, beq_true, okSz, List.length_cons, List.length_nil, Nat.zero_add, Nat.add_zero, Nat.reduceAdd, decide_true, decide_false, Bool.and_true, Bool.true_and, Bool.and_self, Bool.not_true, Bool.not_false, List.getElem?_cons_zero, List.getElem?_cons_succ, List.nil_append, List.cons_append, hpp_app, hpp_stk, hpp_tk, hpp_lp, hpp_hp, app_lpadd, hload, hload0, hloadh, hstore, hstore0, hleave, hleave0, hfin_v, hfin_sl, hback, hloop, hsetlp, max_int, min_int, hstore_v, hstore_v0, hstore_s, hstore_d, modify_concat, part1, hbackt, hbackl, hback0, List.take_succ_cons, List.take_left, List.take_zero, List.take_nil, e, xtexts, ho.sfc, hbk]
  | x :: xs, p, acc, c, tk, hx, ha, ho => by
    have hlt : (p.length : Int) < (xs0.length : Int) := by rw [hx]; simp; omega
    have g1 : (encs xs0)[p.length]? = some x.enc := by rw [hx]; exact encs_get p x xs
    have r1 : inRange (p.length : Int) (encs xs0).length = true := by rw [encs_length, hx]; exact inR p x xs
    have hl0 := szs_len xs0
    have hs0 : szs xs0 = szs p + (x.sz + szs xs) := by rw [hx, szs_app]; rfl
    have hpl : p.length < xs0.length := by rw [hx]; simp
    have w1 : IntKind.i64.wrap ((p.length : Int) + 1) = (p.length : Int) + 1 := IntWalk.i64_in _ (by omega)
    have hc := expr_ev x.sz x (Nat.le_refl _) (by omega)
    have hxl := X.text_len x
    have hsx : szs (x :: xs) = x.sz + szs xs := rfl
    obtain ⟨c1, tk1, e1, o1⟩ := app_own (ys := strs x.text) (bytes := 16) ho (by simp only [strs_len, maxLenB]; omega) (strs_ok _) (strs_ok _) (by decide) (by decide)
    rw [strs_app] at e1 o1
    obtain ⟨j, c2, tk2, h2, o2⟩ := args_loop s b xs0 hb hbk L0 n0 i0 xs (p ++ [x]) (acc ++ x.text) c1 tk1 (by simp [hx]) (by rw [List.length_append]; omega) o1
    rw [show xtexts (x :: xs) = x.text ++ xtexts xs from rfl, ← List.append_assoc]
    refine ⟨j, c2, tk2, ?_, o2⟩
    rw [← h2]
    refine it_step ?_
    simp [S15.b1, canon_v, canon_sl, canon_clo, canon_ptr, need_refl, elems_sl, sf_v, sf_sl, sf_ptr, sf_ptrh, sf_clo, sf_dead, sf_nil, sf_full, sf_fr, need_true, ibeq, beq_ba, nbeq, nble, nblt, AM.nth, List.getD_cons_succ, List.getD_cons_zero, Option.bind_some, Option.bind_none, Option.map_some, onBool, AM.onG, onFn, seqK, retK, Ex.outOf, cond_true, cond_false, bin_lss, bin_leq, bin_gtr, bin_geq, bin_eql, bin_neq, bin_add, bin_sub, bin_mul, un_not, str_eql, str_neq, app_push, app_stk, app_tk, app_lp, load_app, load_app0, load_fp, store_app, store_app0, leave_app, leave_app0, AM.ownPut, AM.cellsOf, AM.shift, aPick, fin_v, fin_sl, beq_true, okSz, List.length_cons, List.length_nil, Nat.zero_add, Nat.add_zero, Nat.reduceAdd, decide_true, decide_false, Bool.and_true, Bool.true_and, Bool.and_self, Bool.not_true, Bool.not_false, List.getElem?_cons_zero, List.getElem?_cons_succ, List.nil_append, List.cons_append, hpp_app, hpp_stk, hpp_tk, hpp_lp, hpp_hp, app_lpadd, hload, hload0, hloadh, hstore, hstore0, hleave, hleave0, hfin_v, hfin_sl, hback, hloop, hsetlp, max_int, min_int, hstore_v, hstore_v0, hstore_s, hstore_d, modify_concat, part1, hbackt, hbackl, hback0, List.take_succ_cons, List.take_left, List.take_zero, List.take_nil, hlt, ia_41, r1, g1, X.len, X.whole, X.okc, X.can, laid0, hc, e1, w1, o1.sfc, hbk]

theorem stxs_app1 : ∀ (p : List S) (x : S), stxs (p ++ [x]) = stxs p ++ x.tx
  | [], x => by simp [stxs]
  | y :: ys, x => by simp [stxs, stxs_app1 ys x]
theorem sszs_app : ∀ xs ys : List S, sszs (xs ++ ys) = sszs xs + sszs ys
  | [], ys => by simp [sszs]
  | x :: xs, ys => by simp [sszs, sszs_app xs ys]; omega

set_option maxHeartbeats 4000000 in
theorem stmts_loop (s : St) (xs0 : List S) (hb : sszs xs0 ≤ 1000000) : ∀ (xs p : List S) (acc : List ByteArray) (c : Cap) (tk : List (Nat × Nat)), xs0 = p ++ xs → acc.length = 2 + (stxs p).length → Own s tk c (strs acc).length 1 →
    (∀ x ∈ xs, ∀ (st : St), E L (.func 15) [.sl (sencs x.body) .dead] st = some (.sl (strs (rowT x.body)) .dead, st) ∧ E L (.func 15) [.sl (sencs x.els) .dead] st = some (.sl (strs (rowT x.els)) .dead, st)) →
    ∃ vs c' tk', itE (S15.b0 (E L) itE s.stk.length s.lp.length) [.sl (strs acc) c, .sl (sencs xs0) .dead, int xs0.length, int p.length] (s.app [] tk []) =
      some (.exit 0, .sl (strs (acc ++ stxs xs)) c' :: vs, s.app [] tk' [])
  | [], p, acc, c, tk, hx, ha, ho, hf => by
    have e : xs0.length = p.length := by rw [hx]; simp
    refine ⟨[.sl (sencs xs0) .dead, int xs0.length, int p.length], c, tk, ?_⟩
    rw [itE_eq]
    simp [S15.b0, canon_v, canon_sl, canon_clo, canon_ptr, need_refl, elems_sl, sf_v, sf_sl, sf_ptr, sf_ptrh, sf_clo, sf_dead, sf_nil, sf_full, sf_fr, need_true, ibeq, beq_ba, nbeq, nble, nblt, AM.nth, List.getD_cons_succ, List.getD_cons_zero, Option.bind_some, Option.bind_none, Option.map_some, onBool, AM.onG, onFn, seqK, retK, Ex.outOf, cond_true, cond_false, bin_lss, bin_leq, bin_gtr, bin_geq, bin_eql, bin_neq, bin_add, bin_sub, bin_mul, un_not, str_eql, str_neq, app_push, app_stk, app_tk, app_lp, load_app, load_app0, load_fp, store_app, store_app0, leave_app, leave_app0, AM.ownPut, AM.cellsOf, AM.shift, aPick, fin_v, fin_sl, beq_true, okSz, List.length_cons, List.length_nil, Nat.zero_add, Nat.add_zero, Nat.reduceAdd, decide_true, decide_false, Bool.and_true, Bool.true_and, Bool.and_self, Bool.not_true, Bool.not_false, List.getElem?_cons_zero, List.getElem?_cons_succ, List.nil_append, List.cons_append, hpp_app, hpp_stk, hpp_tk, hpp_lp, hpp_hp, app_lpadd, hload, hload0, hloadh, hstore, hstore0, hleave, hleave0, hfin_v, hfin_sl, hback, hloop, hsetlp, max_int, min_int, hstore_v, hstore_v0, hstore_s, hstore_d, modify_concat, part1, hbackt, hbackl, hback0, List.take_succ_cons, List.take_left, List.take_zero, List.take_nil, e, stxs, ho.sfc]
  | x :: xs, p, acc, c, tk, hx, ha, ho, hf => by
    have hlt : (p.length : Int) < (xs0.length : Int) := by rw [hx]; simp; omega
    have g1 : (sencs xs0)[p.length]? = some x.enc := by rw [hx]; exact sencs_get p x xs
    have r1 : inRange (p.length : Int) (sencs xs0).length = true := by rw [sencs_length, hx]; exact inR p x xs
    have hl0 := sszs_len xs0
    have hs0 : sszs xs0 = sszs p + (x.sz + sszs xs) := by rw [hx, sszs_app]; rfl
    have hpl : p.length < xs0.length := by rw [hx]; simp
    have w1 : IntKind.i64.wrap ((p.length : Int) + 1) = (p.length : Int) + 1 := IntWalk.i64_in _ (by omega)
    have hxl := S.tx_len x
    have hxp := stxs_len p
    have hz := S.sz_eq x
    have q1 := expr_ev _ x.right.e (Nat.le_refl _) (by omega)
    have q2 := place_ev x.right.place (by omega)
    have q3 := place_ev x.place (by omega)
    have q4 := expr_ev _ x.e (Nat.le_refl _) (by omega)
    have l1 := X.text_len x.right.e
    have l2 := Pl.tx_len x.right.place
    have l3 := Pl.tx_len x.place
    have l4 := X.text_len x.e
    have l5 := xtexts_len x.args
    have l6 : (rowT x.body).length = 2 + (stxs x.body).length := by simp [rowT]; omega
    have l7 : (rowT x.els).length = 2 + (stxs x.els).length := by simp [rowT]; omega
    have l8 := stxs_len x.body
    have l9 := stxs_len x.els
    have l0 : x.hd.length = 7 := rfl
    obtain ⟨c1, tk1, e1, o1⟩ := app_own (ys := strs x.hd) (bytes := 16) ho (by simp only [strs_len, maxLenB]; omega) (strs_ok _) (strs_ok _) (by decide) (by decide)
    rw [strs_app] at e1 o1
    generalize hA1 : acc ++ x.hd = A1 at e1 o1
    have m1 := congrArg List.length hA1
    rw [List.length_append] at m1
    obtain ⟨c2, tk2, e2, o2⟩ := app_own (ys := strs x.right.e.text) (bytes := 16) o1 (by simp only [strs_len, maxLenB]; omega) (strs_ok _) (strs_ok _) (by decide) (by decide)
    rw [strs_app] at e2 o2
    generalize hA2 : A1 ++ x.right.e.text = A2 at e2 o2
    have m2 := congrArg List.length hA2
    rw [List.length_append] at m2
    obtain ⟨c3, tk3, e3, o3⟩ := app_own (ys := strs x.right.place.tx) (bytes := 16) o2 (by simp only [strs_len, maxLenB]; omega) (strs_ok _) (strs_ok _) (by decide) (by decide)
    rw [strs_app] at e3 o3
    generalize hA3 : A2 ++ x.right.place.tx = A3 at e3 o3
    have m3 := congrArg List.length hA3
    rw [List.length_append] at m3
    obtain ⟨c4, tk4, e4, o4⟩ := app_own (ys := strs x.place.tx) (bytes := 16) o3 (by simp only [strs_len, maxLenB]; omega) (strs_ok _) (strs_ok _) (by decide) (by decide)
    rw [strs_app] at e4 o4
    generalize hA4 : A3 ++ x.place.tx = A4 at e4 o4
    have m4 := congrArg List.length hA4
    rw [List.length_append] at m4
    obtain ⟨c5, tk5, e5, o5⟩ := app_own (ys := strs x.e.text) (bytes := 16) o4 (by simp only [strs_len, maxLenB]; omega) (strs_ok _) (strs_ok _) (by decide) (by decide)
    rw [strs_app] at e5 o5
    generalize hA5 : A4 ++ x.e.text = A5 at e5 o5
    have m5 := congrArg List.length hA5
    rw [List.length_append] at m5
    obtain ⟨j, c6, tk6, h6, o6⟩ := args_loop s ⟨x.enc, []⟩ x.args (by omega) (S.sf4 ..) (sencs xs0) xs0.length p.length x.args [] _ c5 tk5 rfl (by omega) o5
    generalize hA6 : A5 ++ xtexts x.args = A6 at h6 o6
    have m6 := congrArg List.length hA6
    rw [List.length_append] at m6
    obtain ⟨c7, tk7, e7, o7⟩ := app_own (ys := strs (rowT x.body)) (bytes := 16) o6 (by simp only [strs_len, maxLenB]; omega) (strs_ok _) (strs_ok _) (by decide) (by decide)
    rw [strs_app] at e7 o7
    generalize hA7 : A6 ++ rowT x.body = A7 at e7 o7
    have m7 := congrArg List.length hA7
    rw [List.length_append] at m7
    obtain ⟨c8, tk8, e8, o8⟩ := app_own (ys := strs (rowT x.els)) (bytes := 16) o7 (by simp only [strs_len, maxLenB]; omega) (strs_ok _) (strs_ok _) (by decide) (by decide)
    rw [strs_app] at e8 o8
    have etx : A7 ++ rowT x.els = acc ++ x.tx := by rw [S.tx_eq, ← hA7, ← hA6, ← hA5, ← hA4, ← hA3, ← hA2, ← hA1]; simp only [List.append_assoc]
    generalize hA8 : A7 ++ rowT x.els = A8 at e8 o8 etx
    have hstx := stxs_app1 p x
    obtain ⟨vs, c9, tk9, h9⟩ := stmts_loop s xs0 hb xs (p ++ [x]) A8 c8 tk8 (by simp [hx]) (by rw [etx, hstx, List.length_append, List.length_append]; omega) o8 fun z hz => hf z (List.mem_cons_of_mem _ hz)
    refine ⟨vs, c9, tk9, ?_⟩
    rw [show stxs (x :: xs) = x.tx ++ stxs xs from rfl, ← List.append_assoc, ← etx, ← h9]
    refine it_step ?_
    have hhd : [[str ⟨#[115, 116, 109, 116]⟩], [str (numT x.op)], [str x.name], [str (numT x.n)], [str (numT x.right.op)], [str x.right.name], [str (numT x.args.length)]] = strs x.hd := rfl
    have hb1 := fun st => (hf x List.mem_cons_self st).1
    have hb2 := fun st => (hf x List.mem_cons_self st).2
    clear hf h9 hz hs0 l0 l1 l2 l3 l4 l5 l6 l7 l8 l9 hxl hxp
    simp [S15.b0, canon_v, canon_sl, canon_clo, canon_ptr, need_refl, elems_sl, sf_v, sf_sl, sf_ptr, sf_ptrh, sf_clo, sf_dead, sf_nil, sf_full, sf_fr, need_true, ibeq, beq_ba, nbeq, nble, nblt, AM.nth, List.getD_cons_succ, List.getD_cons_zero, Option.bind_some, Option.bind_none, Option.map_some, onBool, AM.onG, onFn, seqK, retK, Ex.outOf, cond_true, cond_false, bin_lss, bin_leq, bin_gtr, bin_geq, bin_eql, bin_neq, bin_add, bin_sub, bin_mul, un_not, str_eql, str_neq, app_push, app_stk, app_tk, app_lp, load_app, load_app0, load_fp, store_app, store_app0, leave_app, leave_app0, AM.ownPut, AM.cellsOf, AM.shift, aPick, fin_v, fin_sl, beq_true, okSz, List.length_cons, List.length_nil, Nat.zero_add, Nat.add_zero, Nat.reduceAdd, decide_true, decide_false, Bool.and_true, Bool.true_and, Bool.and_self, Bool.not_true, Bool.not_false, List.getElem?_cons_zero, List.getElem?_cons_succ, List.nil_append, List.cons_append, hpp_app, hpp_stk, hpp_tk, hpp_lp, hpp_hp, app_lpadd, hload, hload0, hloadh, hstore, hstore0, hleave, hleave0, hfin_v, hfin_sl, hback, hloop, hsetlp, max_int, min_int, hstore_v, hstore_v0, hstore_s, hstore_d, modify_concat, part1, hbackt, hbackl, hback0, List.take_succ_cons, List.take_left, List.take_zero, List.take_nil, hlt, ia_31, r1, g1, S.len, S.whole, S.okc, laid0, S.p0_1, S.p1_1, S.p52_1, S.p2_1, S.p26_1, S.p53_1, text_ev, len_41, encs_length, rBuildSlice, rLit, fillP, reps, laid, plainCs, plainC, chunks, hhd, e1, S.p3_9a, X.can, q1, e2, S.p12_14a, Pl.can, q2, e3, S.p29_14a, q3, e4, S.p43_9a, q4, e5]
    simp at h6
    simp [h6, canon_v, canon_sl, canon_clo, canon_ptr, need_refl, elems_sl, sf_v, sf_sl, sf_ptr, sf_ptrh, sf_clo, sf_dead, sf_nil, sf_full, sf_fr, need_true, ibeq, beq_ba, nbeq, nble, nblt, AM.nth, List.getD_cons_succ, List.getD_cons_zero, Option.bind_some, Option.bind_none, Option.map_some, onBool, AM.onG, onFn, seqK, retK, Ex.outOf, cond_true, cond_false, bin_lss, bin_leq, bin_gtr, bin_geq, bin_eql, bin_neq, bin_add, bin_sub, bin_mul, un_not, str_eql, str_neq, app_push, app_stk, app_tk, app_lp, load_app, load_app0, load_fp, store_app, store_app0, leave_app, leave_app0, AM.ownPut, AM.cellsOf, AM.shift, aPick, fin_v, fin_sl, beq_true, okSz, List.length_cons, List.length_nil, Nat.zero_add, Nat.add_zero, Nat.reduceAdd, decide_true, decide_false, Bool.and_true, Bool.true_and, Bool.and_self, Bool.not_true, Bool.not_false, List.getElem?_cons_zero, List.getElem?_cons_succ, List.nil_append, List.cons_append, hpp_app, hpp_stk, hpp_tk, hpp_lp, hpp_hp, app_lpadd, hload, hload0, hloadh, hstore, hstore0, hleave, hleave0, hfin_v, hfin_sl, hback, hloop, hsetlp, max_int, min_int, hstore_v, hstore_v0, hstore_s, hstore_d, modify_concat, part1, hbackt, hbackl, hback0, List.take_succ_cons, List.take_left, List.take_zero, List.take_nil, S.p54_1, hb1, e7, S.p55_1, hb2, e8, w1, o8.sfc]

theorem rowT_len (xs : List S) : (rowT xs).length = 2 + (stxs xs).length := by simp [rowT]; omega
theorem row_ev : ∀ (n : Nat) (xs : List S), sszs xs ≤ n → n ≤ 1000000 → ∀ st : St, E L (.func 15) [.sl (sencs xs) .dead] st = some (.sl (strs (rowT xs)) .dead, st) := by
  intro n
  induction n with
  | zero => exact fun xs h hn st => row0 xs 0 h hn (fun x hx => by have := sszs_mem hx; have := S.sz_eq x; omega) st
  | succ n ih => exact fun xs h hn st => row0 xs (n + 1) h hn (fun x hx => by
      have := sszs_mem hx
      have hz := S.sz_eq x
      exact fun st => ⟨ih x.body (by omega) (by omega) st, ih x.els (by omega) (by omega) st⟩) st
where
  row0 (xs : List S) (n : Nat) (h : sszs xs ≤ n) (hn : n ≤ 1000000) (hf : ∀ x ∈ xs, ∀ (st : St), E L (.func 15) [.sl (sencs x.body) .dead] st = some (.sl (strs (rowT x.body)) .dead, st) ∧ E L (.func 15) [.sl (sencs x.els) .dead] st = some (.sl (strs (rowT x.els)) .dead, st)) (st : St) :
      E L (.func 15) [.sl (sencs xs) .dead] st = some (.sl (strs (rowT xs)) .dead, st) := by
    obtain ⟨s, rfl⟩ : ∃ s : St, st = s.app [] [] [] := ⟨st, (app_nil st).symm⟩
    obtain ⟨vs, c', tk', hl⟩ := stmts_loop s xs (by omega) xs [] [⟨#[114, 111, 119]⟩, numT xs.length] .full [] rfl rfl (Own.full ..) hf
    rw [S15_eq]
    simp [S15, canon_v, canon_sl, canon_clo, canon_ptr, need_refl, elems_sl, sf_v, sf_sl, sf_ptr, sf_ptrh, sf_clo, sf_dead, sf_nil, sf_full, sf_fr, need_true, ibeq, beq_ba, nbeq, nble, nblt, AM.nth, List.getD_cons_succ, List.getD_cons_zero, Option.bind_some, Option.bind_none, Option.map_some, onBool, AM.onG, onFn, seqK, retK, Ex.outOf, cond_true, cond_false, bin_lss, bin_leq, bin_gtr, bin_geq, bin_eql, bin_neq, bin_add, bin_sub, bin_mul, un_not, str_eql, str_neq, app_push, app_stk, app_tk, app_lp, load_app, load_app0, load_fp, store_app, store_app0, leave_app, leave_app0, AM.ownPut, AM.cellsOf, AM.shift, aPick, fin_v, fin_sl, beq_true, okSz, List.length_cons, List.length_nil, Nat.zero_add, Nat.add_zero, Nat.reduceAdd, decide_true, decide_false, Bool.and_true, Bool.true_and, Bool.and_self, Bool.not_true, Bool.not_false, List.getElem?_cons_zero, List.getElem?_cons_succ, List.nil_append, List.cons_append, hpp_app, hpp_stk, hpp_tk, hpp_lp, hpp_hp, app_lpadd, hload, hload0, hloadh, hstore, hstore0, hleave, hleave0, hfin_v, hfin_sl, hback, hloop, hsetlp, max_int, min_int, hstore_v, hstore_v0, hstore_s, hstore_d, modify_concat, part1, hbackt, hbackl, hback0, List.take_succ_cons, List.take_left, List.take_zero, List.take_nil, text_ev, len_31, sencs_length, rBuildSlice, rLit, fillP, reps, laid, plainCs, plainC, chunks]
    simp [strs] at hl
    rw [hl]
    simp [canon_v, canon_sl, canon_clo, canon_ptr, need_refl, elems_sl, sf_v, sf_sl, sf_ptr, sf_ptrh, sf_clo, sf_dead, sf_nil, sf_full, sf_fr, need_true, ibeq, beq_ba, nbeq, nble, nblt, AM.nth, List.getD_cons_succ, List.getD_cons_zero, Option.bind_some, Option.bind_none, Option.map_some, onBool, AM.onG, onFn, seqK, retK, Ex.outOf, cond_true, cond_false, bin_lss, bin_leq, bin_gtr, bin_geq, bin_eql, bin_neq, bin_add, bin_sub, bin_mul, un_not, str_eql, str_neq, app_push, app_stk, app_tk, app_lp, load_app, load_app0, load_fp, store_app, store_app0, leave_app, leave_app0, AM.ownPut, AM.cellsOf, AM.shift, aPick, fin_v, fin_sl, beq_true, okSz, List.length_cons, List.length_nil, Nat.zero_add, Nat.add_zero, Nat.reduceAdd, decide_true, decide_false, Bool.and_true, Bool.true_and, Bool.and_self, Bool.not_true, Bool.not_false, List.getElem?_cons_zero, List.getElem?_cons_succ, List.nil_append, List.cons_append, hpp_app, hpp_stk, hpp_tk, hpp_lp, hpp_hp, app_lpadd, hload, hload0, hloadh, hstore, hstore0, hleave, hleave0, hfin_v, hfin_sl, hback, hloop, hsetlp, max_int, min_int, hstore_v, hstore_v0, hstore_s, hstore_d, modify_concat, part1, hbackt, hbackl, hback0, List.take_succ_cons, List.take_left, List.take_zero, List.take_nil, rowT, strs]

/-! ### when two texts are the same -/
theorem strs_get (p : List ByteArray) (x : ByteArray) (xs : List ByteArray) : (strs (p ++ x :: xs))[p.length]? = some [str x] := by simp [strs]
theorem ssm_loop (s : St) (xs0 ys0 : List ByteArray) (hb : xs0.length ≤ 1000000000) (hl : xs0.length = ys0.length) : ∀ (xs ys p q : List ByteArray), xs0 = p ++ xs → ys0 = q ++ ys → p.length = q.length →
    ∃ j : Int, itE (S13.b0 (E L) itE s.stk.length s.lp.length) [.sl (strs xs0) .dead, .sl (strs ys0) .dead, .v (.bool false), int xs0.length, int p.length] (s.app [] [] []) =
      some (bif decide (xs = ys) then .exit 0 else .ret, [.sl (strs xs0) .dead, .sl (strs ys0) .dead, .v (.bool false), int xs0.length, int j], s.app [] [] [])
  | [], ys, p, q, hx, hy, hp => by
    obtain rfl : ys = [] := by
      have := congrArg List.length hx
      have := congrArg List.length hy
      simp at *
      exact List.length_eq_zero_iff.1 (by omega)
    refine ⟨p.length, ?_⟩
    rw [itE_eq]
    have e : xs0.length = p.length := by rw [hx]; simp
    simp [S13.b0, canon_v, canon_sl, canon_clo, canon_ptr, need_refl, elems_sl, sf_v, sf_sl, sf_ptr, sf_ptrh, sf_clo, sf_dead, sf_nil, sf_full, sf_fr, need_true, ibeq, beq_ba, nbeq, nble, nblt, AM.nth, List.getD_cons_succ, List.getD_cons_zero, Option.bind_some, Option.bind_none, Option.map_some, onBool, AM.onG, onFn, seqK, retK, Ex.outOf, cond_true, cond_false, bin_lss, bin_leq, bin_gtr, bin_geq, bin_eql, bin_neq, bin_add, bin_sub, bin_mul, un_not, str_eql, str_neq, app_push, app_stk, app_tk, app_lp, load_app, load_app0, load_fp, store_app, store_app0, leave_app, leave_app0, AM.ownPut, AM.cellsOf, AM.shift, aPick, fin_v, fin_sl, beq_true, okSz, List.length_cons, List.length_nil, Nat.zero_add, Nat.add_zero, Nat.reduceAdd, decide_true, decide_false, Bool.and_true, Bool.true_and, Bool.and_self, Bool.not_true, Bool.not_false, List.getElem?_cons_zero, List.getElem?_cons_succ, List.nil_append, List.cons_append, hpp_app, hpp_stk, hpp_tk, hpp_lp, hpp_hp, app_lpadd, hload, hload0, hloadh, hstore, hstore0, hleave, hleave0, hfin_v, hfin_sl, hback, hloop, hsetlp, max_int, min_int, hstore_v, hstore_v0, hstore_s, hstore_d, modify_concat, part1, hbackt, hbackl, hback0, List.take_succ_cons, List.take_left, List.take_zero, List.take_nil, e]
  | x :: xs, ys, p, q, hx, hy, hp => by
    match ys, hy with
    | [], hy =>
      exfalso
      have := congrArg List.length hx
      have := congrArg List.length hy
      simp at *
      omega
    | y :: ys, hy =>
      have hlt : (p.length : Int) < (xs0.length : Int) := by rw [hx]; simp; omega
      have g1 : (strs xs0)[p.length]? = some [str x] := by rw [hx]; exact strs_get p x xs
      have g2 : (strs ys0)[p.length]? = some [str y] := by rw [hy, hp]; exact strs_get q y ys
      have r1 : inRange (p.length : Int) (strs xs0).length = true := by rw [strs_len, hx]; exact inR p x xs
      have r2 : inRange (p.length : Int) (strs ys0).length = true := by rw [strs_len, hy, hp]; exact inR q y ys
      have w1 : IntKind.i64.wrap ((p.length : Int) + 1) = ((p ++ [x]).length : Int) := by rw [IntWalk.i64_in _ (by omega)]; simp
      have hstep : S13.b0 (E L) itE s.stk.length s.lp.length [.sl (strs xs0) .dead, .sl (strs ys0) .dead, .v (.bool false), int xs0.length, int p.length] (s.app [] [] []) =
          some (bif decide (x = y) then (.normal, [.sl (strs xs0) .dead, .sl (strs ys0) .dead, .v (.bool false), int xs0.length, int (p ++ [x]).length], s.app [] [] []) else
            (.ret, [.sl (strs xs0) .dead, .sl (strs ys0) .dead, .v (.bool false), int xs0.length, int p.length], s.app [] [] [])) := by
        by_cases hxy : x = y
        · subst hxy; simp [S13.b0, canon_v, canon_sl, canon_clo, canon_ptr, need_refl, elems_sl, sf_v, sf_sl, sf_ptr, sf_ptrh, sf_clo, sf_dead, sf_nil, sf_full, sf_fr, need_true, ibeq, beq_ba, nbeq, nble, nblt, AM.nth, List.getD_cons_succ, List.getD_cons_zero, Option.bind_some, Option.bind_none, Option.map_some, onBool, AM.onG, onFn, seqK, retK, Ex.outOf, cond_true, cond_false, bin_lss, bin_leq, bin_gtr, bin_geq, bin_eql, bin_neq, bin_add, bin_sub, bin_mul, un_not, str_eql, str_neq, app_push, app_stk, app_tk, app_lp, load_app, load_app0, load_fp, store_app, store_app0, leave_app, leave_app0, AM.ownPut, AM.cellsOf, AM.shift, aPick, fin_v, fin_sl, beq_true, okSz, List.length_cons, List.length_nil, Nat.zero_add, Nat.add_zero, Nat.reduceAdd, decide_true, decide_false, Bool.and_true, Bool.true_and, Bool.and_self, Bool.not_true, Bool.not_false, List.getElem?_cons_zero, List.getElem?_cons_succ, List.nil_append, List.cons_append, hpp_app, hpp_stk, hpp_tk, hpp_lp, hpp_hp, app_lpadd, hload, hload0, hloadh, hstore, hstore0, hleave, hleave0, hfin_v, hfin_sl, hback, hloop, hsetlp, max_int, min_int, hstore_v, hstore_v0, hstore_s, hstore_d, modify_concat, part1, hbackt, hbackl, hback0, List.take_succ_cons, List.take_left, List.take_zero, List.take_nil, hlt, ia_47, r1, r2, g1, g2, w1, AM.part]
        · simp [S13.b0, canon_v, canon_sl, canon_clo, canon_ptr, need_refl, elems_sl, sf_v, sf_sl, sf_ptr, sf_ptrh, sf_clo, sf_dead, sf_nil, sf_full, sf_fr, need_true, ibeq, beq_ba, nbeq, nble, nblt, AM.nth, List.getD_cons_succ, List.getD_cons_zero, Option.bind_some, Option.bind_none, Option.map_some, onBool, AM.onG, onFn, seqK, retK, Ex.outOf, cond_true, cond_false, bin_lss, bin_leq, bin_gtr, bin_geq, bin_eql, bin_neq, bin_add, bin_sub, bin_mul, un_not, str_eql, str_neq, app_push, app_stk, app_tk, app_lp, load_app, load_app0, load_fp, store_app, store_app0, leave_app, leave_app0, AM.ownPut, AM.cellsOf, AM.shift, aPick, fin_v, fin_sl, beq_true, okSz, List.length_cons, List.length_nil, Nat.zero_add, Nat.add_zero, Nat.reduceAdd, decide_true, decide_false, Bool.and_true, Bool.true_and, Bool.and_self, Bool.not_true, Bool.not_false, List.getElem?_cons_zero, List.getElem?_cons_succ, List.nil_append, List.cons_append, hpp_app, hpp_stk, hpp_tk, hpp_lp, hpp_hp, app_lpadd, hload, hload0, hloadh, hstore, hstore0, hleave, hleave0, hfin_v, hfin_sl, hback, hloop, hsetlp, max_int, min_int, hstore_v, hstore_v0, hstore_s, hstore_d, modify_concat, part1, hbackt, hbackl, hback0, List.take_succ_cons, List.take_left, List.take_zero, List.take_nil, hlt, ia_47, r1, r2, g1, g2, w1, hxy, AM.part]
      by_cases hxy : x = y
      · subst hxy
        rw [decide_eq_true rfl] at hstep
        obtain ⟨j, hj⟩ := ssm_loop s xs0 ys0 hb hl xs ys (p ++ [x]) (q ++ [x]) (by simp [hx]) (by simp [hy]) (by simp [hp])
        refine ⟨j, ?_⟩
        rw [it_step hstep, hj]
        simp
      · rw [decide_eq_false hxy] at hstep
        refine ⟨p.length, ?_⟩
        rw [it_ret hstep]
        simp [hxy]
theorem ssm_ev (xs ys : List ByteArray) (hb : xs.length ≤ 1000000000) (st : St) : E L (.func 13) [.sl (strs xs) .dead, .sl (strs ys) .dead] st = some (.v (.bool (decide (xs = ys))), st) := by
  obtain ⟨s, rfl⟩ : ∃ s : St, st = s.app [] [] [] := ⟨st, (app_nil st).symm⟩
  rw [S13_eq]
  by_cases hl : xs.length = ys.length
  · obtain ⟨j, hj⟩ := ssm_loop s xs ys hb hl xs ys [] [] rfl rfl rfl
    simp [S13, canon_v, canon_sl, canon_clo, canon_ptr, need_refl, elems_sl, sf_v, sf_sl, sf_ptr, sf_ptrh, sf_clo, sf_dead, sf_nil, sf_full, sf_fr, need_true, ibeq, beq_ba, nbeq, nble, nblt, AM.nth, List.getD_cons_succ, List.getD_cons_zero, Option.bind_some, Option.bind_none, Option.map_some, onBool, AM.onG, onFn, seqK, retK, Ex.outOf, cond_true, cond_false, bin_lss, bin_leq, bin_gtr, bin_geq, bin_eql, bin_neq, bin_add, bin_sub, bin_mul, un_not, str_eql, str_neq, app_push, app_stk, app_tk, app_lp, load_app, load_app0, load_fp, store_app, store_app0, leave_app, leave_app0, AM.ownPut, AM.cellsOf, AM.shift, aPick, fin_v, fin_sl, beq_true, okSz, List.length_cons, List.length_nil, Nat.zero_add, Nat.add_zero, Nat.reduceAdd, decide_true, decide_false, Bool.and_true, Bool.true_and, Bool.and_self, Bool.not_true, Bool.not_false, List.getElem?_cons_zero, List.getElem?_cons_succ, List.nil_append, List.cons_append, hpp_app, hpp_stk, hpp_tk, hpp_lp, hpp_hp, app_lpadd, hload, hload0, hloadh, hstore, hstore0, hleave, hleave0, hfin_v, hfin_sl, hback, hloop, hsetlp, max_int, min_int, hstore_v, hstore_v0, hstore_s, hstore_d, modify_concat, part1, hbackt, hbackl, hback0, List.take_succ_cons, List.take_left, List.take_zero, List.take_nil, len_47, strs_len, hl] at hj ⊢
    rw [hj]
    by_cases h : xs = ys <;> simp [canon_v, canon_sl, canon_clo, canon_ptr, need_refl, elems_sl, sf_v, sf_sl, sf_ptr, sf_ptrh, sf_clo, sf_dead, sf_nil, sf_full, sf_fr, need_true, ibeq, beq_ba, nbeq, nble, nblt, AM.nth, List.getD_cons_succ, List.getD_cons_zero, Option.bind_some, Option.bind_none, Option.map_some, onBool, AM.onG, onFn, seqK, retK, Ex.outOf, cond_true, cond_false, bin_lss, bin_leq, bin_gtr, bin_geq, bin_eql, bin_neq, bin_add, bin_sub, bin_mul, un_not, str_eql, str_neq, app_push, app_stk, app_tk, app_lp, load_app, load_app0, load_fp, store_app, store_app0, leave_app, leave_app0, AM.ownPut, AM.cellsOf, AM.shift, aPick, fin_v, fin_sl, beq_true, okSz, List.length_cons, List.length_nil, Nat.zero_add, Nat.add_zero, Nat.reduceAdd, decide_true, decide_false, Bool.and_true, Bool.true_and, Bool.and_self, Bool.not_true, Bool.not_false, List.getElem?_cons_zero, List.getElem?_cons_succ, List.nil_append, List.cons_append, hpp_app, hpp_stk, hpp_tk, hpp_lp, hpp_hp, app_lpadd, hload, hload0, hloadh, hstore, hstore0, hleave, hleave0, hfin_v, hfin_sl, hback, hloop, hsetlp, max_int, min_int, hstore_v, hstore_v0, hstore_s, hstore_d, modify_concat, part1, hbackt, hbackl, hback0, List.take_succ_cons, List.take_left, List.take_zero, List.take_nil, h]
  · have : ¬ (xs.length : Int) = ys.length := by omega
    have h2 : ¬ xs = ys := fun e => hl (by rw [e])
    simp [S13, canon_v, canon_sl, canon_clo, canon_ptr, need_refl, elems_sl, sf_v, sf_sl, sf_ptr, sf_ptrh, sf_clo, sf_dead, sf_nil, sf_full, sf_fr, need_true, ibeq, beq_ba, nbeq, nble, nblt, AM.nth, List.getD_cons_succ, List.getD_cons_zero, Option.bind_some, Option.bind_none, Option.map_some, onBool, AM.onG, onFn, seqK, retK, Ex.outOf, cond_true, cond_false, bin_lss, bin_leq, bin_gtr, bin_geq, bin_eql, bin_neq, bin_add, bin_sub, bin_mul, un_not, str_eql, str_neq, app_push, app_stk, app_tk, app_lp, load_app, load_app0, load_fp, store_app, store_app0, leave_app, leave_app0, AM.ownPut, AM.cellsOf, AM.shift, aPick, fin_v, fin_sl, beq_true, okSz, List.length_cons, List.length_nil, Nat.zero_add, Nat.add_zero, Nat.reduceAdd, decide_true, decide_false, Bool.and_true, Bool.true_and, Bool.and_self, Bool.not_true, Bool.not_false, List.getElem?_cons_zero, List.getElem?_cons_succ, List.nil_append, List.cons_append, hpp_app, hpp_stk, hpp_tk, hpp_lp, hpp_hp, app_lpadd, hload, hload0, hloadh, hstore, hstore0, hleave, hleave0, hfin_v, hfin_sl, hback, hloop, hsetlp, max_int, min_int, hstore_v, hstore_v0, hstore_s, hstore_d, modify_concat, part1, hbackt, hbackl, hback0, List.take_succ_cons, List.take_left, List.take_zero, List.take_nil, len_47, strs_len, this, h2]
end Go.Proofs.Ytkbhejcfejembaa.S
