/- Trees: the maker of programs: statements. Printed by mkSt.py. No condition. -/
import Derived.Test.YtkbhejcfejembaaSt1
set_option linter.all false
namespace Go.Proofs.Ytkbhejcfejembaa.S
open Go Go.AM Go.Proofs
set_option linter.unusedVariables false
set_option linter.unusedSimpArgs false
set_option maxHeartbeats 8000000

section
variable (nums : List Int) (hn : nums.length ≤ 400)
include hn

theorem stmt_leaf_z (d a l : Nat) (r : Int) (a1 : Nat) (h0 : 0 ≤ r) (h1 : r < 11) (hp : Does nums 22 [int 11] a l (int r) a1 l) (o : Int) (hw : IntKind.i64.wrap (1 + r) = o) (hd : d = 0)
    (ho : o = 1 ∨ o = 2 ∨ o = 3 ∨ o = 4 ∨ o = 5 ∨ o = 8 ∨ o = 9 ∨ o = 11) : ∃ (x : S) (a' l' : Nat), l' ≤ l ∧ (x.sz ≤ 100 * x.cnt ∧ x.cnt + l' ≤ l + 1) ∧ Does nums 44 [int d] a l (.agg x.enc) a' l' := by
  subst hd
  rcases ho with ho | ho | ho | ho | ho | ho | ho | ho
  · -- 1
    obtain ⟨n1v, a2, n1⟩ := name_ev nums hn a1 l
    obtain ⟨r1v, a3, r1z, r1y, r1⟩ := right_mk nums hn a2 l
    refine ⟨((S0 1).wName n1v).wRight r1v, a3, l, by omega, by simp [S.sz_eq, S.cnt_eq, cnts, S.wName, S.wRight, S.wPlace, S.wE, S.wN, S.wArgs, S.wBody, S.wEls, S0, S.right, S.place, S.e, S.args, S.body, S.els, Rt0, Pl0, X0_sz, szs, sszs] at *; omega, Does.of fun Q N T Lb b M => ?_⟩
    have n1 := n1 Q N T Lb b M
    have r1 := r1 Q N T Lb b M
    have hp := hp Q N T Lb b M
    have i0 := In.zero 1
    have i1 := i0.name n1v
    have i2 := i1.right r1v
    rw [S44_eq]
    simp [S44, canon_v, canon_sl, canon_clo, canon_ptr, need_refl, elems_sl, sf_v, sf_sl, sf_ptr, sf_ptrh, sf_clo, sf_dead, sf_nil, sf_full, sf_fr, need_true, ibeq, beq_ba, nbeq, nble, nblt, AM.nth, List.getD_cons_succ, List.getD_cons_zero, Option.bind_some, Option.bind_none, Option.map_some, onBool, AM.onG, onFn, seqK, retK, Ex.outOf, cond_true, cond_false, bin_lss, bin_leq, bin_gtr, bin_geq, bin_eql, bin_neq, bin_add, bin_sub, bin_mul, un_not, str_eql, str_neq, app_push, app_stk, app_tk, app_lp, load_app, load_app0, load_fp, store_app, store_app0, leave_app, leave_app0, AM.ownPut, AM.cellsOf, AM.shift, aPick, fin_v, fin_sl, beq_true, okSz, List.length_cons, List.length_nil, Nat.zero_add, Nat.add_zero, Nat.reduceAdd, decide_true, decide_false, Bool.and_true, Bool.true_and, Bool.and_self, Bool.not_true, Bool.not_false, List.getElem?_cons_zero, List.getElem?_cons_succ, List.nil_append, List.cons_append, hpp_app, hpp_stk, hpp_tk, hpp_lp, hpp_hp, app_lpadd, hload, hload0, hloadh, hstore, hstore0, hleave, hleave0, hfin_v, hfin_sl, hback, hloop, hsetlp, max_int, min_int, hstore_v, hstore_v0, hstore_s, hstore_d, modify_concat, part1, hbackt, hbackl, hback0, List.take_succ_cons, List.take_left, List.take_zero, List.take_nil, hp, n1, r1, hw, ho, i0.z, i0.len, i0.ok, i0.fl, i0.can, i1.z, i1.len, i1.ok, i1.fl, i1.can, i2.z, i2.len, i2.ok, i2.fl, i2.can, X.len, X.okc, Pl.len, Pl.okc, Rt.len, Rt.okc, M.own, M.own0, M.sto, M.sto0, M.fa, M.hN, M.hT, M.hL, okCells, Zc, S0_build, Zs_len, part_all]
  · -- 2
    obtain ⟨n1v, a2, n1⟩ := name_ev nums hn a1 l
    obtain ⟨r1v, a3, r1z, r1y, r1⟩ := right_mk nums hn a2 l
    refine ⟨((S0 2).wName n1v).wRight r1v, a3, l, by omega, by simp [S.sz_eq, S.cnt_eq, cnts, S.wName, S.wRight, S.wPlace, S.wE, S.wN, S.wArgs, S.wBody, S.wEls, S0, S.right, S.place, S.e, S.args, S.body, S.els, Rt0, Pl0, X0_sz, szs, sszs] at *; omega, Does.of fun Q N T Lb b M => ?_⟩
    have n1 := n1 Q N T Lb b M
    have r1 := r1 Q N T Lb b M
    have hp := hp Q N T Lb b M
    have i0 := In.zero 2
    have i1 := i0.name n1v
    have i2 := i1.right r1v
    rw [S44_eq]
    simp [S44, canon_v, canon_sl, canon_clo, canon_ptr, need_refl, elems_sl, sf_v, sf_sl, sf_ptr, sf_ptrh, sf_clo, sf_dead, sf_nil, sf_full, sf_fr, need_true, ibeq, beq_ba, nbeq, nble, nblt, AM.nth, List.getD_cons_succ, List.getD_cons_zero, Option.bind_some, Option.bind_none, Option.map_some, onBool, AM.onG, onFn, seqK, retK, Ex.outOf, cond_true, cond_false, bin_lss, bin_leq, bin_gtr, bin_geq, bin_eql, bin_neq, bin_add, bin_sub, bin_mul, un_not, str_eql, str_neq, app_push, app_stk, app_tk, app_lp, load_app, load_app0, load_fp, store_app, store_app0, leave_app, leave_app0, AM.ownPut, AM.cellsOf, AM.shift, aPick, fin_v, fin_sl, beq_true, okSz, List.length_cons, List.length_nil, Nat.zero_add, Nat.add_zero, Nat.reduceAdd, decide_true, decide_false, Bool.and_true, Bool.true_and, Bool.and_self, Bool.not_true, Bool.not_false, List.getElem?_cons_zero, List.getElem?_cons_succ, List.nil_append, List.cons_append, hpp_app, hpp_stk, hpp_tk, hpp_lp, hpp_hp, app_lpadd, hload, hload0, hloadh, hstore, hstore0, hleave, hleave0, hfin_v, hfin_sl, hback, hloop, hsetlp, max_int, min_int, hstore_v, hstore_v0, hstore_s, hstore_d, modify_concat, part1, hbackt, hbackl, hback0, List.take_succ_cons, List.take_left, List.take_zero, List.take_nil, hp, n1, r1, hw, ho, i0.z, i0.len, i0.ok, i0.fl, i0.can, i1.z, i1.len, i1.ok, i1.fl, i1.can, i2.z, i2.len, i2.ok, i2.fl, i2.can, X.len, X.okc, Pl.len, Pl.okc, Rt.len, Rt.okc, M.own, M.own0, M.sto, M.sto0, M.fa, M.hN, M.hT, M.hL, okCells, Zc, S0_build, Zs_len, part_all]
  · -- 3
    obtain ⟨n1v, a2, n1⟩ := name_ev nums hn a1 l
    obtain ⟨r1v, a3, r1z, r1y, r1⟩ := right_mk nums hn a2 l
    refine ⟨((S0 3).wName n1v).wRight r1v, a3, l, by omega, by simp [S.sz_eq, S.cnt_eq, cnts, S.wName, S.wRight, S.wPlace, S.wE, S.wN, S.wArgs, S.wBody, S.wEls, S0, S.right, S.place, S.e, S.args, S.body, S.els, Rt0, Pl0, X0_sz, szs, sszs] at *; omega, Does.of fun Q N T Lb b M => ?_⟩
    have n1 := n1 Q N T Lb b M
    have r1 := r1 Q N T Lb b M
    have hp := hp Q N T Lb b M
    have i0 := In.zero 3
    have i1 := i0.name n1v
    have i2 := i1.right r1v
    rw [S44_eq]
    simp [S44, canon_v, canon_sl, canon_clo, canon_ptr, need_refl, elems_sl, sf_v, sf_sl, sf_ptr, sf_ptrh, sf_clo, sf_dead, sf_nil, sf_full, sf_fr, need_true, ibeq, beq_ba, nbeq, nble, nblt, AM.nth, List.getD_cons_succ, List.getD_cons_zero, Option.bind_some, Option.bind_none, Option.map_some, onBool, AM.onG, onFn, seqK, retK, Ex.outOf, cond_true, cond_false, bin_lss, bin_leq, bin_gtr, bin_geq, bin_eql, bin_neq, bin_add, bin_sub, bin_mul, un_not, str_eql, str_neq, app_push, app_stk, app_tk, app_lp, load_app, load_app0, load_fp, store_app, store_app0, leave_app, leave_app0, AM.ownPut, AM.cellsOf, AM.shift, aPick, fin_v, fin_sl, beq_true, okSz, List.length_cons, List.length_nil, Nat.zero_add, Nat.add_zero, Nat.reduceAdd, decide_true, decide_false, Bool.and_true, Bool.true_and, Bool.and_self, Bool.not_true, Bool.not_false, List.getElem?_cons_zero, List.getElem?_cons_succ, List.nil_append, List.cons_append, hpp_app, hpp_stk, hpp_tk, hpp_lp, hpp_hp, app_lpadd, hload, hload0, hloadh, hstore, hstore0, hleave, hleave0, hfin_v, hfin_sl, hback, hloop, hsetlp, max_int, min_int, hstore_v, hstore_v0, hstore_s, hstore_d, modify_concat, part1, hbackt, hbackl, hback0, List.take_succ_cons, List.take_left, List.take_zero, List.take_nil, hp, n1, r1, hw, ho, i0.z, i0.len, i0.ok, i0.fl, i0.can, i1.z, i1.len, i1.ok, i1.fl, i1.can, i2.z, i2.len, i2.ok, i2.fl, i2.can, X.len, X.okc, Pl.len, Pl.okc, Rt.len, Rt.okc, M.own, M.own0, M.sto, M.sto0, M.fa, M.hN, M.hT, M.hL, okCells, Zc, S0_build, Zs_len, part_all]
  · -- 4
    obtain ⟨p1v, a2, p1z, p1⟩ := place_mk nums hn a1 l
    obtain ⟨e1v, a3, e1z, e1⟩ := expr_mk nums hn 2 (by decide) a2 l
    refine ⟨((S0 4).wPlace p1v).wE e1v, a3, l, by omega, by simp [S.sz_eq, S.cnt_eq, cnts, S.wName, S.wRight, S.wPlace, S.wE, S.wN, S.wArgs, S.wBody, S.wEls, S0, S.right, S.place, S.e, S.args, S.body, S.els, Rt0, Pl0, X0_sz, szs, sszs] at *; omega, Does.of fun Q N T Lb b M => ?_⟩
    have p1 := p1 Q N T Lb b M
    have e1 := e1 Q N T Lb b M
    rw [show ((2 : Nat) : Int) = 2 from rfl] at e1
    have hp := hp Q N T Lb b M
    have i0 := In.zero 4
    have i1 := i0.place p1v
    have i2 := i1.e e1v
    rw [S44_eq]
    simp [S44, canon_v, canon_sl, canon_clo, canon_ptr, need_refl, elems_sl, sf_v, sf_sl, sf_ptr, sf_ptrh, sf_clo, sf_dead, sf_nil, sf_full, sf_fr, need_true, ibeq, beq_ba, nbeq, nble, nblt, AM.nth, List.getD_cons_succ, List.getD_cons_zero, Option.bind_some, Option.bind_none, Option.map_some, onBool, AM.onG, onFn, seqK, retK, Ex.outOf, cond_true, cond_false, bin_lss, bin_leq, bin_gtr, bin_geq, bin_eql, bin_neq, bin_add, bin_sub, bin_mul, un_not, str_eql, str_neq, app_push, app_stk, app_tk, app_lp, load_app, load_app0, load_fp, store_app, store_app0, leave_app, leave_app0, AM.ownPut, AM.cellsOf, AM.shift, aPick, fin_v, fin_sl, beq_true, okSz, List.length_cons, List.length_nil, Nat.zero_add, Nat.add_zero, Nat.reduceAdd, decide_true, decide_false, Bool.and_true, Bool.true_and, Bool.and_self, Bool.not_true, Bool.not_false, List.getElem?_cons_zero, List.getElem?_cons_succ, List.nil_append, List.cons_append, hpp_app, hpp_stk, hpp_tk, hpp_lp, hpp_hp, app_lpadd, hload, hload0, hloadh, hstore, hstore0, hleave, hleave0, hfin_v, hfin_sl, hback, hloop, hsetlp, max_int, min_int, hstore_v, hstore_v0, hstore_s, hstore_d, modify_concat, part1, hbackt, hbackl, hback0, List.take_succ_cons, List.take_left, List.take_zero, List.take_nil, hp, p1, e1, hw, ho, i0.z, i0.len, i0.ok, i0.fl, i0.can, i1.z, i1.len, i1.ok, i1.fl, i1.can, i2.z, i2.len, i2.ok, i2.fl, i2.can, X.len, X.okc, Pl.len, Pl.okc, Rt.len, Rt.okc, M.own, M.own0, M.sto, M.sto0, M.fa, M.hN, M.hT, M.hL, okCells, Zc, S0_build, Zs_len, part_all]
  · -- 5
    obtain ⟨e1v, a2, e1z, e1⟩ := expr_mk nums hn 3 (by decide) a1 l
    refine ⟨(S0 5).wE e1v, a2, l, by omega, by simp [S.sz_eq, S.cnt_eq, cnts, S.wName, S.wRight, S.wPlace, S.wE, S.wN, S.wArgs, S.wBody, S.wEls, S0, S.right, S.place, S.e, S.args, S.body, S.els, Rt0, Pl0, X0_sz, szs, sszs] at *; omega, Does.of fun Q N T Lb b M => ?_⟩
    have e1 := e1 Q N T Lb b M
    rw [show ((3 : Nat) : Int) = 3 from rfl] at e1
    have hp := hp Q N T Lb b M
    have i0 := In.zero 5
    have i1 := i0.e e1v
    rw [S44_eq]
    simp [S44, canon_v, canon_sl, canon_clo, canon_ptr, need_refl, elems_sl, sf_v, sf_sl, sf_ptr, sf_ptrh, sf_clo, sf_dead, sf_nil, sf_full, sf_fr, need_true, ibeq, beq_ba, nbeq, nble, nblt, AM.nth, List.getD_cons_succ, List.getD_cons_zero, Option.bind_some, Option.bind_none, Option.map_some, onBool, AM.onG, onFn, seqK, retK, Ex.outOf, cond_true, cond_false, bin_lss, bin_leq, bin_gtr, bin_geq, bin_eql, bin_neq, bin_add, bin_sub, bin_mul, un_not, str_eql, str_neq, app_push, app_stk, app_tk, app_lp, load_app, load_app0, load_fp, store_app, store_app0, leave_app, leave_app0, AM.ownPut, AM.cellsOf, AM.shift, aPick, fin_v, fin_sl, beq_true, okSz, List.length_cons, List.length_nil, Nat.zero_add, Nat.add_zero, Nat.reduceAdd, decide_true, decide_false, Bool.and_true, Bool.true_and, Bool.and_self, Bool.not_true, Bool.not_false, List.getElem?_cons_zero, List.getElem?_cons_succ, List.nil_append, List.cons_append, hpp_app, hpp_stk, hpp_tk, hpp_lp, hpp_hp, app_lpadd, hload, hload0, hloadh, hstore, hstore0, hleave, hleave0, hfin_v, hfin_sl, hback, hloop, hsetlp, max_int, min_int, hstore_v, hstore_v0, hstore_s, hstore_d, modify_concat, part1, hbackt, hbackl, hback0, List.take_succ_cons, List.take_left, List.take_zero, List.take_nil, hp, e1, hw, ho, i0.z, i0.len, i0.ok, i0.fl, i0.can, i1.z, i1.len, i1.ok, i1.fl, i1.can, X.len, X.okc, Pl.len, Pl.okc, Rt.len, Rt.okc, M.own, M.own0, M.sto, M.sto0, M.fa, M.hN, M.hT, M.hL, okCells, Zc, S0_build, Zs_len, part_all]
  · -- 8
    obtain ⟨k1v, a2, k10, k11, k1⟩ := pick_ev nums hn a1 l 2 (by decide) (by decide)
    by_cases hk : k1v = 0
    · skip
      skip
      obtain ⟨n1v, a3, n1⟩ := name_ev nums hn a2 l
      refine ⟨(S0 8).wName n1v, a3, l, by omega, by simp [S.sz_eq, S.cnt_eq, cnts, S.wName, S.wRight, S.wPlace, S.wE, S.wN, S.wArgs, S.wBody, S.wEls, S0, S.right, S.place, S.e, S.args, S.body, S.els, Rt0, Pl0, X0_sz, szs, sszs] at *; omega, Does.of fun Q N T Lb b M => ?_⟩
      have k1 := k1 Q N T Lb b M
      have n1 := n1 Q N T Lb b M
      have hp := hp Q N T Lb b M
      have i0 := In.zero 8
      have i1 := i0.name n1v
      rw [S44_eq]
      simp [S44, canon_v, canon_sl, canon_clo, canon_ptr, need_refl, elems_sl, sf_v, sf_sl, sf_ptr, sf_ptrh, sf_clo, sf_dead, sf_nil, sf_full, sf_fr, need_true, ibeq, beq_ba, nbeq, nble, nblt, AM.nth, List.getD_cons_succ, List.getD_cons_zero, Option.bind_some, Option.bind_none, Option.map_some, onBool, AM.onG, onFn, seqK, retK, Ex.outOf, cond_true, cond_false, bin_lss, bin_leq, bin_gtr, bin_geq, bin_eql, bin_neq, bin_add, bin_sub, bin_mul, un_not, str_eql, str_neq, app_push, app_stk, app_tk, app_lp, load_app, load_app0, load_fp, store_app, store_app0, leave_app, leave_app0, AM.ownPut, AM.cellsOf, AM.shift, aPick, fin_v, fin_sl, beq_true, okSz, List.length_cons, List.length_nil, Nat.zero_add, Nat.add_zero, Nat.reduceAdd, decide_true, decide_false, Bool.and_true, Bool.true_and, Bool.and_self, Bool.not_true, Bool.not_false, List.getElem?_cons_zero, List.getElem?_cons_succ, List.nil_append, List.cons_append, hpp_app, hpp_stk, hpp_tk, hpp_lp, hpp_hp, app_lpadd, hload, hload0, hloadh, hstore, hstore0, hleave, hleave0, hfin_v, hfin_sl, hback, hloop, hsetlp, max_int, min_int, hstore_v, hstore_v0, hstore_s, hstore_d, modify_concat, part1, hbackt, hbackl, hback0, List.take_succ_cons, List.take_left, List.take_zero, List.take_nil, hp, k1, n1, hw, ho, hk, i0.z, i0.len, i0.ok, i0.fl, i0.can, i1.z, i1.len, i1.ok, i1.fl, i1.can, X.len, X.okc, Pl.len, Pl.okc, Rt.len, Rt.okc, M.own, M.own0, M.sto, M.sto0, M.fa, M.hN, M.hT, M.hL, okCells, Zc, S0_build, Zs_len, part_all]
    · skip
      skip
      refine ⟨S0 8, a2, l, by omega, by simp [S.sz_eq, S.cnt_eq, cnts, S.wName, S.wRight, S.wPlace, S.wE, S.wN, S.wArgs, S.wBody, S.wEls, S0, S.right, S.place, S.e, S.args, S.body, S.els, Rt0, Pl0, X0_sz, szs, sszs] at *; omega, Does.of fun Q N T Lb b M => ?_⟩
      have k1 := k1 Q N T Lb b M
      have hp := hp Q N T Lb b M
      have i0 := In.zero 8
      rw [S44_eq]
      simp [S44, canon_v, canon_sl, canon_clo, canon_ptr, need_refl, elems_sl, sf_v, sf_sl, sf_ptr, sf_ptrh, sf_clo, sf_dead, sf_nil, sf_full, sf_fr, need_true, ibeq, beq_ba, nbeq, nble, nblt, AM.nth, List.getD_cons_succ, List.getD_cons_zero, Option.bind_some, Option.bind_none, Option.map_some, onBool, AM.onG, onFn, seqK, retK, Ex.outOf, cond_true, cond_false, bin_lss, bin_leq, bin_gtr, bin_geq, bin_eql, bin_neq, bin_add, bin_sub, bin_mul, un_not, str_eql, str_neq, app_push, app_stk, app_tk, app_lp, load_app, load_app0, load_fp, store_app, store_app0, leave_app, leave_app0, AM.ownPut, AM.cellsOf, AM.shift, aPick, fin_v, fin_sl, beq_true, okSz, List.length_cons, List.length_nil, Nat.zero_add, Nat.add_zero, Nat.reduceAdd, decide_true, decide_false, Bool.and_true, Bool.true_and, Bool.and_self, Bool.not_true, Bool.not_false, List.getElem?_cons_zero, List.getElem?_cons_succ, List.nil_append, List.cons_append, hpp_app, hpp_stk, hpp_tk, hpp_lp, hpp_hp, app_lpadd, hload, hload0, hloadh, hstore, hstore0, hleave, hleave0, hfin_v, hfin_sl, hback, hloop, hsetlp, max_int, min_int, hstore_v, hstore_v0, hstore_s, hstore_d, modify_concat, part1, hbackt, hbackl, hback0, List.take_succ_cons, List.take_left, List.take_zero, List.take_nil, hp, k1, hw, ho, hk, i0.z, i0.len, i0.ok, i0.fl, i0.can, X.len, X.okc, Pl.len, Pl.okc, Rt.len, Rt.okc, M.own, M.own0, M.sto, M.sto0, M.fa, M.hN, M.hT, M.hL, okCells, Zc, S0_build, Zs_len, part_all]
  · -- 9
    obtain ⟨k1v, a2, k10, k11, k1⟩ := pick_ev nums hn a1 l 2 (by decide) (by decide)
    by_cases hk : k1v = 0
    · skip
      skip
      obtain ⟨n1v, a3, n1⟩ := name_ev nums hn a2 l
      refine ⟨(S0 9).wName n1v, a3, l, by omega, by simp [S.sz_eq, S.cnt_eq, cnts, S.wName, S.wRight, S.wPlace, S.wE, S.wN, S.wArgs, S.wBody, S.wEls, S0, S.right, S.place, S.e, S.args, S.body, S.els, Rt0, Pl0, X0_sz, szs, sszs] at *; omega, Does.of fun Q N T Lb b M => ?_⟩
      have k1 := k1 Q N T Lb b M
      have n1 := n1 Q N T Lb b M
      have hp := hp Q N T Lb b M
      have i0 := In.zero 9
      have i1 := i0.name n1v
      rw [S44_eq]
      simp [S44, canon_v, canon_sl, canon_clo, canon_ptr, need_refl, elems_sl, sf_v, sf_sl, sf_ptr, sf_ptrh, sf_clo, sf_dead, sf_nil, sf_full, sf_fr, need_true, ibeq, beq_ba, nbeq, nble, nblt, AM.nth, List.getD_cons_succ, List.getD_cons_zero, Option.bind_some, Option.bind_none, Option.map_some, onBool, AM.onG, onFn, seqK, retK, Ex.outOf, cond_true, cond_false, bin_lss, bin_leq, bin_gtr, bin_geq, bin_eql, bin_neq, bin_add, bin_sub, bin_mul, un_not, str_eql, str_neq, app_push, app_stk, app_tk, app_lp, load_app, load_app0, load_fp, store_app, store_app0, leave_app, leave_app0, AM.ownPut, AM.cellsOf, AM.shift, aPick, fin_v, fin_sl, beq_true, okSz, List.length_cons, List.length_nil, Nat.zero_add, Nat.add_zero, Nat.reduceAdd, decide_true, decide_false, Bool.and_true, Bool.true_and, Bool.and_self, Bool.not_true, Bool.not_false, List.getElem?_cons_zero, List.getElem?_cons_succ, List.nil_append, List.cons_append, hpp_app, hpp_stk, hpp_tk, hpp_lp, hpp_hp, app_lpadd, hload, hload0, hloadh, hstore, hstore0, hleave, hleave0, hfin_v, hfin_sl, hback, hloop, hsetlp, max_int, min_int, hstore_v, hstore_v0, hstore_s, hstore_d, modify_concat, part1, hbackt, hbackl, hback0, List.take_succ_cons, List.take_left, List.take_zero, List.take_nil, hp, k1, n1, hw, ho, hk, i0.z, i0.len, i0.ok, i0.fl, i0.can, i1.z, i1.len, i1.ok, i1.fl, i1.can, X.len, X.okc, Pl.len, Pl.okc, Rt.len, Rt.okc, M.own, M.own0, M.sto, M.sto0, M.fa, M.hN, M.hT, M.hL, okCells, Zc, S0_build, Zs_len, part_all]
    · skip
      skip
      refine ⟨S0 9, a2, l, by omega, by simp [S.sz_eq, S.cnt_eq, cnts, S.wName, S.wRight, S.wPlace, S.wE, S.wN, S.wArgs, S.wBody, S.wEls, S0, S.right, S.place, S.e, S.args, S.body, S.els, Rt0, Pl0, X0_sz, szs, sszs] at *; omega, Does.of fun Q N T Lb b M => ?_⟩
      have k1 := k1 Q N T Lb b M
      have hp := hp Q N T Lb b M
      have i0 := In.zero 9
      rw [S44_eq]
      simp [S44, canon_v, canon_sl, canon_clo, canon_ptr, need_refl, elems_sl, sf_v, sf_sl, sf_ptr, sf_ptrh, sf_clo, sf_dead, sf_nil, sf_full, sf_fr, need_true, ibeq, beq_ba, nbeq, nble, nblt, AM.nth, List.getD_cons_succ, List.getD_cons_zero, Option.bind_some, Option.bind_none, Option.map_some, onBool, AM.onG, onFn, seqK, retK, Ex.outOf, cond_true, cond_false, bin_lss, bin_leq, bin_gtr, bin_geq, bin_eql, bin_neq, bin_add, bin_sub, bin_mul, un_not, str_eql, str_neq, app_push, app_stk, app_tk, app_lp, load_app, load_app0, load_fp, store_app, store_app0, leave_app, leave_app0, AM.ownPut, AM.cellsOf, AM.shift, aPick, fin_v, fin_sl, beq_true, okSz, List.length_cons, List.length_nil, Nat.zero_add, Nat.add_zero, Nat.reduceAdd, decide_true, decide_false, Bool.and_true, Bool.true_and, Bool.and_self, Bool.not_true, Bool.not_false, List.getElem?_cons_zero, List.getElem?_cons_succ, List.nil_append, List.cons_append, hpp_app, hpp_stk, hpp_tk, hpp_lp, hpp_hp, app_lpadd, hload, hload0, hloadh, hstore, hstore0, hleave, hleave0, hfin_v, hfin_sl, hback, hloop, hsetlp, max_int, min_int, hstore_v, hstore_v0, hstore_s, hstore_d, modify_concat, part1, hbackt, hbackl, hback0, List.take_succ_cons, List.take_left, List.take_zero, List.take_nil, hp, k1, hw, ho, hk, i0.z, i0.len, i0.ok, i0.fl, i0.can, X.len, X.okc, Pl.len, Pl.okc, Rt.len, Rt.okc, M.own, M.own0, M.sto, M.sto0, M.fa, M.hN, M.hT, M.hL, okCells, Zc, S0_build, Zs_len, part_all]
  · -- 11
    obtain ⟨n1v, a2, n1⟩ := name_ev nums hn a1 l
    obtain ⟨k1v, a3, k10, k11, k1⟩ := pick_ev nums hn a2 l 3 (by decide) (by decide)
    obtain ⟨es, a4, hes, hloop⟩ := args_mk nums hn k1v.toNat (by omega) a3 l
    have hk : (k1v.toNat : Int) = k1v := by omega
    refine ⟨((S0 11).wName n1v).wArgs es, a4, l, by omega, by simp [S.sz_eq, S.cnt_eq, cnts, S.wName, S.wRight, S.wPlace, S.wE, S.wN, S.wArgs, S.wBody, S.wEls, S0, S.right, S.place, S.e, S.args, S.body, S.els, Rt0, Pl0, X0_sz, szs, sszs] at *; omega, Does.of fun Q N T Lb b M => ?_⟩
    have hp := hp Q N T Lb b M
    have n1 := n1 Q N T Lb b M
    have k1 := k1 Q N T Lb b M
    have i0 := In.zero 11
    have i1 := i0.name n1v
    have hpt : AM.part false 1 53 (laid (Cz 11) 1 [str n1v]) = some (.sl [] .nil) := rfl
    obtain ⟨cs, tk, i2, hl⟩ := hloop Q N T Lb b M ⟨Zs, []⟩ _ _ .nil [] i1 hpt (Own.nil ..) (by show 0 + _ ≤ _; omega)
    rw [hk] at hl
    have i2 : In cs (((S0 11).wName n1v).wArgs es) := i2
    rw [S44_eq]
    simp [S44, canon_v, canon_sl, canon_clo, canon_ptr, need_refl, elems_sl, sf_v, sf_sl, sf_ptr, sf_ptrh, sf_clo, sf_dead, sf_nil, sf_full, sf_fr, need_true, ibeq, beq_ba, nbeq, nble, nblt, AM.nth, List.getD_cons_succ, List.getD_cons_zero, Option.bind_some, Option.bind_none, Option.map_some, onBool, AM.onG, onFn, seqK, retK, Ex.outOf, cond_true, cond_false, bin_lss, bin_leq, bin_gtr, bin_geq, bin_eql, bin_neq, bin_add, bin_sub, bin_mul, un_not, str_eql, str_neq, app_push, app_stk, app_tk, app_lp, load_app, load_app0, load_fp, store_app, store_app0, leave_app, leave_app0, AM.ownPut, AM.cellsOf, AM.shift, aPick, fin_v, fin_sl, beq_true, okSz, List.length_cons, List.length_nil, Nat.zero_add, Nat.add_zero, Nat.reduceAdd, decide_true, decide_false, Bool.and_true, Bool.true_and, Bool.and_self, Bool.not_true, Bool.not_false, List.getElem?_cons_zero, List.getElem?_cons_succ, List.nil_append, List.cons_append, hpp_app, hpp_stk, hpp_tk, hpp_lp, hpp_hp, app_lpadd, hload, hload0, hloadh, hstore, hstore0, hleave, hleave0, hfin_v, hfin_sl, hback, hloop, hsetlp, max_int, min_int, hstore_v, hstore_v0, hstore_s, hstore_d, modify_concat, part1, hbackt, hbackl, hback0, List.take_succ_cons, List.take_left, List.take_zero, List.take_nil, hp, n1, k1, hw, ho, hl, i0.z, i0.len, i0.ok, i0.fl, i0.can, i1.z, i1.len, i1.ok, i1.fl, i1.can, i2.z, i2.len, i2.ok, i2.fl, i2.can, M.own, M.own0, M.sto, M.sto0, M.fa, M.hN, M.hT, M.hL, okCells, Zc, S0_build, Zs_len, part_all]
end
end Go.Proofs.Ytkbhejcfejembaa.S
