/- Trees: the maker of programs: places, right sides. No condition. -/
import Derived.Test.YtkbhejcfejembaaEx
set_option linter.all false
namespace Go.Proofs.Ytkbhejcfejembaa.S
open Go Go.AM Go.Proofs
set_option linter.unusedVariables false
set_option linter.unusedSimpArgs false
set_option maxHeartbeats 4000000

def X0 : X := ⟨0, 0, 0, 0, ⟨#[]⟩, ⟨#[]⟩, [], 0, 0⟩
def Pl0 : Pl := ⟨0, ⟨#[]⟩, ⟨#[]⟩, X0, 0, 0⟩
def Rt0 : Rt := ⟨0, X0, Pl0, ⟨#[]⟩, 0, 0⟩
theorem X0_sz : X0.sz = 1 := rfl
theorem x0le {n : Nat} (h : 1 ≤ n) : X0.sz ≤ n := h
section
variable (nums : List Int) (hn : nums.length ≤ 400)
include hn
theorem place_mk (a l : Nat) : ∃ (p : Pl) (a' : Nat), p.index.sz ≤ 7 ∧ Does nums 48 [] a l (.agg p.enc) a' l := by
  obtain ⟨r, a1, h0, h1, hp⟩ := pick_ev nums hn a l 3 (by decide) (by decide)
  obtain ⟨nm, a2, hq⟩ := name_ev nums hn a1 l
  by_cases c0 : r = 0
  · refine ⟨⟨1, nm, ⟨#[]⟩, X0, 0, 0⟩, a2, x0le (by decide), Does.of fun Q N T Lb b M => ?_⟩
    have hp := hp Q N T Lb b M
    have hq := hq Q N T Lb b M
    rw [S48_eq]
    simp [S48, canon_v, canon_sl, canon_clo, canon_ptr, need_refl, elems_sl, sf_v, sf_sl, sf_ptr, sf_ptrh, sf_clo, sf_dead, sf_nil, sf_full, sf_fr, need_true, ibeq, beq_ba, nbeq, nble, nblt, AM.nth, List.getD_cons_succ, List.getD_cons_zero, Option.bind_some, Option.bind_none, Option.map_some, onBool, AM.onG, onFn, seqK, retK, Ex.outOf, cond_true, cond_false, bin_lss, bin_leq, bin_gtr, bin_geq, bin_eql, bin_neq, bin_add, bin_sub, bin_mul, un_not, str_eql, str_neq, app_push, app_stk, app_tk, app_lp, load_app, load_app0, load_fp, store_app, store_app0, leave_app, leave_app0, AM.ownPut, AM.cellsOf, AM.shift, aPick, fin_v, fin_sl, beq_true, okSz, List.length_cons, List.length_nil, Nat.zero_add, Nat.add_zero, Nat.reduceAdd, decide_true, decide_false, Bool.and_true, Bool.true_and, Bool.and_self, Bool.not_true, Bool.not_false, List.getElem?_cons_zero, List.getElem?_cons_succ, List.nil_append, List.cons_append, hpp_app, hpp_stk, hpp_tk, hpp_lp, hpp_hp, app_lpadd, hload, hload0, hloadh, hstore, hstore0, hleave, hleave0, hfin_v, hfin_sl, hback, hloop, hsetlp, max_int, min_int, hstore_v, hstore_v0, hstore_s, hstore_d, modify_concat, part1, hbackt, hbackl, hback0, List.take_succ_cons, List.take_left, List.take_zero, List.take_nil, hp, hq, c0, M.own, M.own0, M.sto, M.sto0, M.fv, M.fs, M.fa, M.hN, M.hT, M.hL, M.ld0, M.ld1, M.ld2, aNilCheck, okCells, laid, flatC, canonC_v, canonC_sl, List.all_cons, List.all_nil, List.map_cons, List.map_nil, part_all, rBuild, fillP, List.set_cons_zero, List.set_cons_succ, Pl.enc, X0, X.enc, encs]
  by_cases c1 : r = 1
  · obtain ⟨nm2, a3, hr⟩ := name_ev nums hn a2 l
    refine ⟨⟨2, nm, nm2, X0, 0, 0⟩, a3, x0le (by decide), Does.of fun Q N T Lb b M => ?_⟩
    have hp := hp Q N T Lb b M
    have hq := hq Q N T Lb b M
    have hr := hr Q N T Lb b M
    rw [S48_eq]
    simp [S48, canon_v, canon_sl, canon_clo, canon_ptr, need_refl, elems_sl, sf_v, sf_sl, sf_ptr, sf_ptrh, sf_clo, sf_dead, sf_nil, sf_full, sf_fr, need_true, ibeq, beq_ba, nbeq, nble, nblt, AM.nth, List.getD_cons_succ, List.getD_cons_zero, Option.bind_some, Option.bind_none, Option.map_some, onBool, AM.onG, onFn, seqK, retK, Ex.outOf, cond_true, cond_false, bin_lss, bin_leq, bin_gtr, bin_geq, bin_eql, bin_neq, bin_add, bin_sub, bin_mul, un_not, str_eql, str_neq, app_push, app_stk, app_tk, app_lp, load_app, load_app0, load_fp, store_app, store_app0, leave_app, leave_app0, AM.ownPut, AM.cellsOf, AM.shift, aPick, fin_v, fin_sl, beq_true, okSz, List.length_cons, List.length_nil, Nat.zero_add, Nat.add_zero, Nat.reduceAdd, decide_true, decide_false, Bool.and_true, Bool.true_and, Bool.and_self, Bool.not_true, Bool.not_false, List.getElem?_cons_zero, List.getElem?_cons_succ, List.nil_append, List.cons_append, hpp_app, hpp_stk, hpp_tk, hpp_lp, hpp_hp, app_lpadd, hload, hload0, hloadh, hstore, hstore0, hleave, hleave0, hfin_v, hfin_sl, hback, hloop, hsetlp, max_int, min_int, hstore_v, hstore_v0, hstore_s, hstore_d, modify_concat, part1, hbackt, hbackl, hback0, List.take_succ_cons, List.take_left, List.take_zero, List.take_nil, hp, hq, hr, c1, M.own, M.own0, M.sto, M.sto0, M.fv, M.fs, M.fa, M.hN, M.hT, M.hL, M.ld0, M.ld1, M.ld2, aNilCheck, okCells, laid, flatC, canonC_v, canonC_sl, List.all_cons, List.all_nil, List.map_cons, List.map_nil, part_all, rBuild, fillP, List.set_cons_zero, List.set_cons_succ, Pl.enc, X0, X.enc, encs]
  · obtain ⟨x, a3, hz, hx⟩ := expr_mk nums hn 2 (by decide) a2 l
    refine ⟨⟨3, nm, ⟨#[]⟩, x, 0, 0⟩, a3, by simp at hz; show x.sz ≤ 7; omega, Does.of fun Q N T Lb b M => ?_⟩
    have hp := hp Q N T Lb b M
    have hq := hq Q N T Lb b M
    have hx := hx Q N T Lb b M
    rw [show ((2 : Nat) : Int) = 2 from rfl] at hx
    rw [S48_eq]
    simp [S48, canon_v, canon_sl, canon_clo, canon_ptr, need_refl, elems_sl, sf_v, sf_sl, sf_ptr, sf_ptrh, sf_clo, sf_dead, sf_nil, sf_full, sf_fr, need_true, ibeq, beq_ba, nbeq, nble, nblt, AM.nth, List.getD_cons_succ, List.getD_cons_zero, Option.bind_some, Option.bind_none, Option.map_some, onBool, AM.onG, onFn, seqK, retK, Ex.outOf, cond_true, cond_false, bin_lss, bin_leq, bin_gtr, bin_geq, bin_eql, bin_neq, bin_add, bin_sub, bin_mul, un_not, str_eql, str_neq, app_push, app_stk, app_tk, app_lp, load_app, load_app0, load_fp, store_app, store_app0, leave_app, leave_app0, AM.ownPut, AM.cellsOf, AM.shift, aPick, fin_v, fin_sl, beq_true, okSz, List.length_cons, List.length_nil, Nat.zero_add, Nat.add_zero, Nat.reduceAdd, decide_true, decide_false, Bool.and_true, Bool.true_and, Bool.and_self, Bool.not_true, Bool.not_false, List.getElem?_cons_zero, List.getElem?_cons_succ, List.nil_append, List.cons_append, hpp_app, hpp_stk, hpp_tk, hpp_lp, hpp_hp, app_lpadd, hload, hload0, hloadh, hstore, hstore0, hleave, hleave0, hfin_v, hfin_sl, hback, hloop, hsetlp, max_int, min_int, hstore_v, hstore_v0, hstore_s, hstore_d, modify_concat, part1, hbackt, hbackl, hback0, List.take_succ_cons, List.take_left, List.take_zero, List.take_nil, hp, hq, hx, c0, c1, M.own, M.own0, M.sto, M.sto0, M.fv, M.fs, M.fa, M.hN, M.hT, M.hL, M.ld0, M.ld1, M.ld2, aNilCheck, okCells, laid, flatC, canonC_v, canonC_sl, List.all_cons, List.all_nil, List.map_cons, List.map_nil, part_all, rBuild, fillP, List.set_cons_zero, List.set_cons_succ, Pl.enc, X.enc_eq]

theorem right_mk (a l : Nat) : ∃ (p : Rt) (a' : Nat), p.e.sz ≤ 15 ∧ p.place.index.sz ≤ 7 ∧ Does nums 47 [] a l (.agg p.enc) a' l := by
  obtain ⟨r, a1, h0, h1, hp⟩ := pick_ev nums hn a l 6 (by decide) (by decide)
  by_cases c0 : r = 0
  · obtain ⟨p, a2, pz, hq⟩ := place_mk nums hn a1 l
    refine ⟨⟨2, X0, p, ⟨#[]⟩, 0, 0⟩, a2, x0le (by decide), pz, Does.of fun Q N T Lb b M => ?_⟩
    have hp := hp Q N T Lb b M
    have hq := hq Q N T Lb b M
    rw [S47_eq]
    simp [S47, canon_v, canon_sl, canon_clo, canon_ptr, need_refl, elems_sl, sf_v, sf_sl, sf_ptr, sf_ptrh, sf_clo, sf_dead, sf_nil, sf_full, sf_fr, need_true, ibeq, beq_ba, nbeq, nble, nblt, AM.nth, List.getD_cons_succ, List.getD_cons_zero, Option.bind_some, Option.bind_none, Option.map_some, onBool, AM.onG, onFn, seqK, retK, Ex.outOf, cond_true, cond_false, bin_lss, bin_leq, bin_gtr, bin_geq, bin_eql, bin_neq, bin_add, bin_sub, bin_mul, un_not, str_eql, str_neq, app_push, app_stk, app_tk, app_lp, load_app, load_app0, load_fp, store_app, store_app0, leave_app, leave_app0, AM.ownPut, AM.cellsOf, AM.shift, aPick, fin_v, fin_sl, beq_true, okSz, List.length_cons, List.length_nil, Nat.zero_add, Nat.add_zero, Nat.reduceAdd, decide_true, decide_false, Bool.and_true, Bool.true_and, Bool.and_self, Bool.not_true, Bool.not_false, List.getElem?_cons_zero, List.getElem?_cons_succ, List.nil_append, List.cons_append, hpp_app, hpp_stk, hpp_tk, hpp_lp, hpp_hp, app_lpadd, hload, hload0, hloadh, hstore, hstore0, hleave, hleave0, hfin_v, hfin_sl, hback, hloop, hsetlp, max_int, min_int, hstore_v, hstore_v0, hstore_s, hstore_d, modify_concat, part1, hbackt, hbackl, hback0, List.take_succ_cons, List.take_left, List.take_zero, List.take_nil, hp, hq, c0, M.own, M.own0, M.sto, M.sto0, M.fv, M.fs, M.fa, M.hN, M.hT, M.hL, M.ld0, M.ld1, M.ld2, aNilCheck, okCells, laid, flatC, canonC_v, canonC_sl, List.all_cons, List.all_nil, List.map_cons, List.map_nil, part_all, rBuild, fillP, List.set_cons_zero, List.set_cons_succ, Rt.enc, Pl.enc, X0, X.enc_eq, X.op, X.bin, X.n, X.kd, X.rc, X.name, X.kids, X.line, X.col, encs]
  by_cases c1 : r = 1
  · obtain ⟨nm, a2, hq⟩ := name_ev nums hn a1 l
    refine ⟨⟨3, X0, Pl0, nm, 0, 0⟩, a2, x0le (by decide), x0le (by decide), Does.of fun Q N T Lb b M => ?_⟩
    have hp := hp Q N T Lb b M
    have hq := hq Q N T Lb b M
    rw [S47_eq]
    simp [S47, canon_v, canon_sl, canon_clo, canon_ptr, need_refl, elems_sl, sf_v, sf_sl, sf_ptr, sf_ptrh, sf_clo, sf_dead, sf_nil, sf_full, sf_fr, need_true, ibeq, beq_ba, nbeq, nble, nblt, AM.nth, List.getD_cons_succ, List.getD_cons_zero, Option.bind_some, Option.bind_none, Option.map_some, onBool, AM.onG, onFn, seqK, retK, Ex.outOf, cond_true, cond_false, bin_lss, bin_leq, bin_gtr, bin_geq, bin_eql, bin_neq, bin_add, bin_sub, bin_mul, un_not, str_eql, str_neq, app_push, app_stk, app_tk, app_lp, load_app, load_app0, load_fp, store_app, store_app0, leave_app, leave_app0, AM.ownPut, AM.cellsOf, AM.shift, aPick, fin_v, fin_sl, beq_true, okSz, List.length_cons, List.length_nil, Nat.zero_add, Nat.add_zero, Nat.reduceAdd, decide_true, decide_false, Bool.and_true, Bool.true_and, Bool.and_self, Bool.not_true, Bool.not_false, List.getElem?_cons_zero, List.getElem?_cons_succ, List.nil_append, List.cons_append, hpp_app, hpp_stk, hpp_tk, hpp_lp, hpp_hp, app_lpadd, hload, hload0, hloadh, hstore, hstore0, hleave, hleave0, hfin_v, hfin_sl, hback, hloop, hsetlp, max_int, min_int, hstore_v, hstore_v0, hstore_s, hstore_d, modify_concat, part1, hbackt, hbackl, hback0, List.take_succ_cons, List.take_left, List.take_zero, List.take_nil, hp, hq, c1, M.own, M.own0, M.sto, M.sto0, M.fv, M.fs, M.fa, M.hN, M.hT, M.hL, M.ld0, M.ld1, M.ld2, aNilCheck, okCells, laid, flatC, canonC_v, canonC_sl, List.all_cons, List.all_nil, List.map_cons, List.map_nil, part_all, rBuild, fillP, List.set_cons_zero, List.set_cons_succ, Rt.enc, Pl0, Pl.enc, X0, X.enc, encs]
  by_cases c2 : r = 2
  · obtain ⟨x, a2, hz, hx⟩ := expr_mk nums hn 2 (by decide) a1 l
    refine ⟨⟨4, x, Pl0, ⟨#[]⟩, 0, 0⟩, a2, by simp at hz; show x.sz ≤ 15; omega, x0le (by decide), Does.of fun Q N T Lb b M => ?_⟩
    have hp := hp Q N T Lb b M
    have hx := hx Q N T Lb b M
    rw [show ((2 : Nat) : Int) = 2 from rfl] at hx
    rw [S47_eq]
    simp [S47, canon_v, canon_sl, canon_clo, canon_ptr, need_refl, elems_sl, sf_v, sf_sl, sf_ptr, sf_ptrh, sf_clo, sf_dead, sf_nil, sf_full, sf_fr, need_true, ibeq, beq_ba, nbeq, nble, nblt, AM.nth, List.getD_cons_succ, List.getD_cons_zero, Option.bind_some, Option.bind_none, Option.map_some, onBool, AM.onG, onFn, seqK, retK, Ex.outOf, cond_true, cond_false, bin_lss, bin_leq, bin_gtr, bin_geq, bin_eql, bin_neq, bin_add, bin_sub, bin_mul, un_not, str_eql, str_neq, app_push, app_stk, app_tk, app_lp, load_app, load_app0, load_fp, store_app, store_app0, leave_app, leave_app0, AM.ownPut, AM.cellsOf, AM.shift, aPick, fin_v, fin_sl, beq_true, okSz, List.length_cons, List.length_nil, Nat.zero_add, Nat.add_zero, Nat.reduceAdd, decide_true, decide_false, Bool.and_true, Bool.true_and, Bool.and_self, Bool.not_true, Bool.not_false, List.getElem?_cons_zero, List.getElem?_cons_succ, List.nil_append, List.cons_append, hpp_app, hpp_stk, hpp_tk, hpp_lp, hpp_hp, app_lpadd, hload, hload0, hloadh, hstore, hstore0, hleave, hleave0, hfin_v, hfin_sl, hback, hloop, hsetlp, max_int, min_int, hstore_v, hstore_v0, hstore_s, hstore_d, modify_concat, part1, hbackt, hbackl, hback0, List.take_succ_cons, List.take_left, List.take_zero, List.take_nil, hp, hx, c2, M.own, M.own0, M.sto, M.sto0, M.fv, M.fs, M.fa, M.hN, M.hT, M.hL, M.ld0, M.ld1, M.ld2, aNilCheck, okCells, laid, flatC, canonC_v, canonC_sl, List.all_cons, List.all_nil, List.map_cons, List.map_nil, part_all, rBuild, fillP, List.set_cons_zero, List.set_cons_succ, Rt.enc, Pl0, Pl.enc, X0, X.enc_eq, X.op, X.bin, X.n, X.kd, X.rc, X.name, X.kids, X.line, X.col, encs]
  by_cases c3 : r = 3
  · obtain ⟨nm, a2, hq⟩ := name_ev nums hn a1 l
    refine ⟨⟨5, X0, Pl0, nm, 0, 0⟩, a2, x0le (by decide), x0le (by decide), Does.of fun Q N T Lb b M => ?_⟩
    have hp := hp Q N T Lb b M
    have hq := hq Q N T Lb b M
    rw [S47_eq]
    simp [S47, canon_v, canon_sl, canon_clo, canon_ptr, need_refl, elems_sl, sf_v, sf_sl, sf_ptr, sf_ptrh, sf_clo, sf_dead, sf_nil, sf_full, sf_fr, need_true, ibeq, beq_ba, nbeq, nble, nblt, AM.nth, List.getD_cons_succ, List.getD_cons_zero, Option.bind_some, Option.bind_none, Option.map_some, onBool, AM.onG, onFn, seqK, retK, Ex.outOf, cond_true, cond_false, bin_lss, bin_leq, bin_gtr, bin_geq, bin_eql, bin_neq, bin_add, bin_sub, bin_mul, un_not, str_eql, str_neq, app_push, app_stk, app_tk, app_lp, load_app, load_app0, load_fp, store_app, store_app0, leave_app, leave_app0, AM.ownPut, AM.cellsOf, AM.shift, aPick, fin_v, fin_sl, beq_true, okSz, List.length_cons, List.length_nil, Nat.zero_add, Nat.add_zero, Nat.reduceAdd, decide_true, decide_false, Bool.and_true, Bool.true_and, Bool.and_self, Bool.not_true, Bool.not_false, List.getElem?_cons_zero, List.getElem?_cons_succ, List.nil_append, List.cons_append, hpp_app, hpp_stk, hpp_tk, hpp_lp, hpp_hp, app_lpadd, hload, hload0, hloadh, hstore, hstore0, hleave, hleave0, hfin_v, hfin_sl, hback, hloop, hsetlp, max_int, min_int, hstore_v, hstore_v0, hstore_s, hstore_d, modify_concat, part1, hbackt, hbackl, hback0, List.take_succ_cons, List.take_left, List.take_zero, List.take_nil, hp, hq, c3, M.own, M.own0, M.sto, M.sto0, M.fv, M.fs, M.fa, M.hN, M.hT, M.hL, M.ld0, M.ld1, M.ld2, aNilCheck, okCells, laid, flatC, canonC_v, canonC_sl, List.all_cons, List.all_nil, List.map_cons, List.map_nil, part_all, rBuild, fillP, List.set_cons_zero, List.set_cons_succ, Rt.enc, Pl0, Pl.enc, X0, X.enc, encs]
  · obtain ⟨x, a2, hz, hx⟩ := expr_mk nums hn 3 (by decide) a1 l
    refine ⟨⟨1, x, Pl0, ⟨#[]⟩, 0, 0⟩, a2, by simp at hz; show x.sz ≤ 15; omega, x0le (by decide), Does.of fun Q N T Lb b M => ?_⟩
    have hp := hp Q N T Lb b M
    have hx := hx Q N T Lb b M
    rw [show ((3 : Nat) : Int) = 3 from rfl] at hx
    rw [S47_eq]
    simp [S47, canon_v, canon_sl, canon_clo, canon_ptr, need_refl, elems_sl, sf_v, sf_sl, sf_ptr, sf_ptrh, sf_clo, sf_dead, sf_nil, sf_full, sf_fr, need_true, ibeq, beq_ba, nbeq, nble, nblt, AM.nth, List.getD_cons_succ, List.getD_cons_zero, Option.bind_some, Option.bind_none, Option.map_some, onBool, AM.onG, onFn, seqK, retK, Ex.outOf, cond_true, cond_false, bin_lss, bin_leq, bin_gtr, bin_geq, bin_eql, bin_neq, bin_add, bin_sub, bin_mul, un_not, str_eql, str_neq, app_push, app_stk, app_tk, app_lp, load_app, load_app0, load_fp, store_app, store_app0, leave_app, leave_app0, AM.ownPut, AM.cellsOf, AM.shift, aPick, fin_v, fin_sl, beq_true, okSz, List.length_cons, List.length_nil, Nat.zero_add, Nat.add_zero, Nat.reduceAdd, decide_true, decide_false, Bool.and_true, Bool.true_and, Bool.and_self, Bool.not_true, Bool.not_false, List.getElem?_cons_zero, List.getElem?_cons_succ, List.nil_append, List.cons_append, hpp_app, hpp_stk, hpp_tk, hpp_lp, hpp_hp, app_lpadd, hload, hload0, hloadh, hstore, hstore0, hleave, hleave0, hfin_v, hfin_sl, hback, hloop, hsetlp, max_int, min_int, hstore_v, hstore_v0, hstore_s, hstore_d, modify_concat, part1, hbackt, hbackl, hback0, List.take_succ_cons, List.take_left, List.take_zero, List.take_nil, hp, hx, c0, c1, c2, c3, M.own, M.own0, M.sto, M.sto0, M.fv, M.fs, M.fa, M.hN, M.hT, M.hL, M.ld0, M.ld1, M.ld2, aNilCheck, okCells, laid, flatC, canonC_v, canonC_sl, List.all_cons, List.all_nil, List.map_cons, List.map_nil, part_all, rBuild, fillP, List.set_cons_zero, List.set_cons_succ, Rt.enc, Pl0, Pl.enc, X0, X.enc_eq, X.op, X.bin, X.n, X.kd, X.rc, X.name, X.kids, X.line, X.col, encs]
end
end Go.Proofs.Ytkbhejcfejembaa.S
