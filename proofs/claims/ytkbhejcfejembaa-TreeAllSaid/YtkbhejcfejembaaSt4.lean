/- Trees: the maker of programs: statements. Printed by mkSt.py. No condition. -/
import Derived.Test.YtkbhejcfejembaaSt2
import Derived.Test.YtkbhejcfejembaaSt3
set_option linter.all false
namespace Go.Proofs.Ytkbhejcfejembaa.S
open Go Go.AM Go.Proofs
set_option linter.unusedVariables false
set_option linter.unusedSimpArgs false
set_option maxHeartbeats 8000000

section
variable (nums : List Int) (hn : nums.length ≤ 400)
include hn

theorem stmt_zero (a l : Nat) : ∃ (x : S) (a' l' : Nat), l' ≤ l ∧ (x.sz ≤ 100 * x.cnt ∧ x.cnt + l' ≤ l + 1) ∧ Does nums 44 [int 0] a l (.agg x.enc) a' l' := by
  obtain ⟨r, a1, h0, h1, hp⟩ := pick_ev nums hn a l 11 (by decide) (by decide)
  obtain ⟨o, ho⟩ : ∃ o, o = 1 + r := ⟨_, rfl⟩
  have hw : IntKind.i64.wrap (1 + r) = o := by rw [ho]; exact IntWalk.i64_in _ (by omega)
  by_cases h5 : o = 6 ∨ o = 7 ∨ o = 10
  · obtain ⟨e1v, a2, e1z, e1⟩ := expr_mk nums hn 3 (by decide) a1 l
    refine ⟨(S0 5).wE e1v, a2, l, by omega, by simp [S.sz_eq, S.cnt_eq, cnts, S.wName, S.wRight, S.wPlace, S.wE, S.wN, S.wArgs, S.wBody, S.wEls, S0, S.right, S.place, S.e, S.args, S.body, S.els, Rt0, Pl0, X0_sz, szs, sszs] at *; omega, Does.of fun Q N T Lb b M => ?_⟩
    have e1 := e1 Q N T Lb b M
    rw [show ((3 : Nat) : Int) = 3 from rfl] at e1
    have hp := hp Q N T Lb b M
    have i0 := In.zero 5
    have i1 := i0.e e1v
    clear ho
    rw [S44_eq]
    rcases h5 with h5 | h5 | h5 <;> simp [S44, canon_v, canon_sl, canon_clo, canon_ptr, need_refl, elems_sl, sf_v, sf_sl, sf_ptr, sf_ptrh, sf_clo, sf_dead, sf_nil, sf_full, sf_fr, need_true, ibeq, beq_ba, nbeq, nble, nblt, AM.nth, List.getD_cons_succ, List.getD_cons_zero, Option.bind_some, Option.bind_none, Option.map_some, onBool, AM.onG, onFn, seqK, retK, Ex.outOf, cond_true, cond_false, bin_lss, bin_leq, bin_gtr, bin_geq, bin_eql, bin_neq, bin_add, bin_sub, bin_mul, un_not, str_eql, str_neq, app_push, app_stk, app_tk, app_lp, load_app, load_app0, load_fp, store_app, store_app0, leave_app, leave_app0, AM.ownPut, AM.cellsOf, AM.shift, aPick, fin_v, fin_sl, beq_true, okSz, List.length_cons, List.length_nil, Nat.zero_add, Nat.add_zero, Nat.reduceAdd, decide_true, decide_false, Bool.and_true, Bool.true_and, Bool.and_self, Bool.not_true, Bool.not_false, List.getElem?_cons_zero, List.getElem?_cons_succ, List.nil_append, List.cons_append, hpp_app, hpp_stk, hpp_tk, hpp_lp, hpp_hp, app_lpadd, hload, hload0, hloadh, hstore, hstore0, hleave, hleave0, hfin_v, hfin_sl, hback, hloop, hsetlp, max_int, min_int, hstore_v, hstore_v0, hstore_s, hstore_d, modify_concat, part1, hbackt, hbackl, hback0, List.take_succ_cons, List.take_left, List.take_zero, List.take_nil, hp, e1, hw, h5, i0.z, i0.len, i0.ok, i0.fl, i0.can, i1.z, i1.len, i1.ok, i1.fl, i1.can, X.len, X.okc, M.own, M.own0, M.sto, M.sto0, M.fa, M.hN, M.hT, M.hL, okCells, Zc, S0_build, Zs_len, part_all]
  · exact stmt_leaf_z nums hn 0 a l r a1 h0 h1 hp o hw rfl (by omega)
def RowOk (nums : List Int) (d : Nat) : Prop := ∀ a l : Nat, l ≤ 1000 → ∃ (xs : List S) (a' l' : Nat), l' ≤ l ∧ (sszs xs ≤ 100 * cnts xs ∧ cnts xs + l' ≤ l) ∧ Does nums 25 [int d] a l (.sl (sencs xs) .dead) a' l'
theorem stmt_succ (d0 : Nat) (hd10 : d0 ≤ 10) (hrow : RowOk nums d0) (a l : Nat) (hll : l ≤ 1000) : ∃ (x : S) (a' l' : Nat), l' ≤ l ∧ (x.sz ≤ 100 * x.cnt ∧ x.cnt + l' ≤ l + 1) ∧ Does nums 44 [int (d0 + 1 : Nat)] a l (.agg x.enc) a' l' := by
  obtain ⟨r, a1, h0, h1, hp⟩ := pick_ev nums hn a l 11 (by decide) (by decide)
  obtain ⟨o, ho⟩ : ∃ o, o = 1 + r := ⟨_, rfl⟩
  have hw : IntKind.i64.wrap (1 + r) = o := by rw [ho]; exact IntWalk.i64_in _ (by omega)
  by_cases hl : o = 1 ∨ o = 2 ∨ o = 3 ∨ o = 4 ∨ o = 5 ∨ o = 8 ∨ o = 9 ∨ o = 11
  · exact stmt_leaf_p nums hn (d0 + 1) a l r a1 h0 h1 hp o hw (by omega) hl
  have hd : ¬ ((d0 + 1 : Nat) : Int) = 0 := by omega
  have hm : IntKind.i64.wrap (((d0 + 1 : Nat) : Int) - 1) = (d0 : Int) := by rw [IntWalk.i64_in _ (by omega)]; omega
  generalize ((d0 + 1 : Nat) : Int) = d at hd hm ⊢
  have ho3 : o = 6 ∨ o = 7 ∨ o = 10 := by omega
  clear ho hl
  rcases ho3 with ho | ho | ho
  · -- 6
    obtain ⟨e1v, a2, e1z, e1⟩ := expr_mk nums hn 2 (by decide) a1 l
    obtain ⟨w1v, a3, l1, w1l, w1z, w1⟩ := hrow a2 l (by omega)
    obtain ⟨k1v, a4, k10, k11, k1⟩ := pick_ev nums hn a3 l1 2 (by decide) (by decide)
    by_cases hk : k1v = 0
    · skip
      skip
      skip
      skip
      obtain ⟨w2v, a5, l2, w2l, w2z, w2⟩ := hrow a4 l1 (by omega)
      refine ⟨(((S0 6).wE e1v).wBody w1v).wEls w2v, a5, l2, by omega, by simp [S.sz_eq, S.cnt_eq, cnts, S.wName, S.wRight, S.wPlace, S.wE, S.wN, S.wArgs, S.wBody, S.wEls, S0, S.right, S.place, S.e, S.args, S.body, S.els, Rt0, Pl0, X0_sz, szs, sszs] at *; omega, Does.of fun Q N T Lb b M => ?_⟩
      have e1 := e1 Q N T Lb b M
      rw [show ((2 : Nat) : Int) = 2 from rfl] at e1
      have w1 := w1 Q N T Lb b M
      have k1 := k1 Q N T Lb b M
      have w2 := w2 Q N T Lb b M
      have hp := hp Q N T Lb b M
      have i0 := In.zero 6
      have i1 := i0.e e1v
      have i2 := i1.body w1v .dead
      have i3 := i2.els w2v .dead
      rw [S44_eq]
      simp [S44, canon_v, canon_sl, canon_clo, canon_ptr, need_refl, elems_sl, sf_v, sf_sl, sf_ptr, sf_ptrh, sf_clo, sf_dead, sf_nil, sf_full, sf_fr, need_true, ibeq, beq_ba, nbeq, nble, nblt, AM.nth, List.getD_cons_succ, List.getD_cons_zero, Option.bind_some, Option.bind_none, Option.map_some, onBool, AM.onG, onFn, seqK, retK, Ex.outOf, cond_true, cond_false, bin_lss, bin_leq, bin_gtr, bin_geq, bin_eql, bin_neq, bin_add, bin_sub, bin_mul, un_not, str_eql, str_neq, app_push, app_stk, app_tk, app_lp, load_app, load_app0, load_fp, store_app, store_app0, leave_app, leave_app0, AM.ownPut, AM.cellsOf, AM.shift, aPick, fin_v, fin_sl, beq_true, okSz, List.length_cons, List.length_nil, Nat.zero_add, Nat.add_zero, Nat.reduceAdd, decide_true, decide_false, Bool.and_true, Bool.true_and, Bool.and_self, Bool.not_true, Bool.not_false, List.getElem?_cons_zero, List.getElem?_cons_succ, List.nil_append, List.cons_append, hpp_app, hpp_stk, hpp_tk, hpp_lp, hpp_hp, app_lpadd, hload, hload0, hloadh, hstore, hstore0, hleave, hleave0, hfin_v, hfin_sl, hback, hloop, hsetlp, max_int, min_int, hstore_v, hstore_v0, hstore_s, hstore_d, modify_concat, part1, hbackt, hbackl, hback0, List.take_succ_cons, List.take_left, List.take_zero, List.take_nil, hp, e1, w1, k1, w2, hw, ho, hk, i0.z, i0.len, i0.ok, i0.fl, i0.can, i1.z, i1.len, i1.ok, i1.fl, i1.can, i2.z, i2.len, i2.ok, i2.fl, i2.can, i3.z, i3.len, i3.ok, i3.fl, i3.can, X.len, X.okc, Pl.len, Pl.okc, Rt.len, Rt.okc, hd, hm, M.own, M.own0, M.sto, M.sto0, M.fa, M.hN, M.hT, M.hL, okCells, Zc, S0_build, Zs_len, part_all]
    · skip
      skip
      skip
      skip
      refine ⟨((S0 6).wE e1v).wBody w1v, a4, l1, by omega, by simp [S.sz_eq, S.cnt_eq, cnts, S.wName, S.wRight, S.wPlace, S.wE, S.wN, S.wArgs, S.wBody, S.wEls, S0, S.right, S.place, S.e, S.args, S.body, S.els, Rt0, Pl0, X0_sz, szs, sszs] at *; omega, Does.of fun Q N T Lb b M => ?_⟩
      have e1 := e1 Q N T Lb b M
      rw [show ((2 : Nat) : Int) = 2 from rfl] at e1
      have w1 := w1 Q N T Lb b M
      have k1 := k1 Q N T Lb b M
      have hp := hp Q N T Lb b M
      have i0 := In.zero 6
      have i1 := i0.e e1v
      have i2 := i1.body w1v .dead
      rw [S44_eq]
      simp [S44, canon_v, canon_sl, canon_clo, canon_ptr, need_refl, elems_sl, sf_v, sf_sl, sf_ptr, sf_ptrh, sf_clo, sf_dead, sf_nil, sf_full, sf_fr, need_true, ibeq, beq_ba, nbeq, nble, nblt, AM.nth, List.getD_cons_succ, List.getD_cons_zero, Option.bind_some, Option.bind_none, Option.map_some, onBool, AM.onG, onFn, seqK, retK, Ex.outOf, cond_true, cond_false, bin_lss, bin_leq, bin_gtr, bin_geq, bin_eql, bin_neq, bin_add, bin_sub, bin_mul, un_not, str_eql, str_neq, app_push, app_stk, app_tk, app_lp, load_app, load_app0, load_fp, store_app, store_app0, leave_app, leave_app0, AM.ownPut, AM.cellsOf, AM.shift, aPick, fin_v, fin_sl, beq_true, okSz, List.length_cons, List.length_nil, Nat.zero_add, Nat.add_zero, Nat.reduceAdd, decide_true, decide_false, Bool.and_true, Bool.true_and, Bool.and_self, Bool.not_true, Bool.not_false, List.getElem?_cons_zero, List.getElem?_cons_succ, List.nil_append, List.cons_append, hpp_app, hpp_stk, hpp_tk, hpp_lp, hpp_hp, app_lpadd, hload, hload0, hloadh, hstore, hstore0, hleave, hleave0, hfin_v, hfin_sl, hback, hloop, hsetlp, max_int, min_int, hstore_v, hstore_v0, hstore_s, hstore_d, modify_concat, part1, hbackt, hbackl, hback0, List.take_succ_cons, List.take_left, List.take_zero, List.take_nil, hp, e1, w1, k1, hw, ho, hk, i0.z, i0.len, i0.ok, i0.fl, i0.can, i1.z, i1.len, i1.ok, i1.fl, i1.can, i2.z, i2.len, i2.ok, i2.fl, i2.can, X.len, X.okc, Pl.len, Pl.okc, Rt.len, Rt.okc, hd, hm, M.own, M.own0, M.sto, M.sto0, M.fa, M.hN, M.hT, M.hL, okCells, Zc, S0_build, Zs_len, part_all]
  · -- 7
    obtain ⟨k1v, a2, k10, k11, k1⟩ := pick_ev nums hn a1 l 2 (by decide) (by decide)
    by_cases hk : k1v = 0
    · skip
      skip
      obtain ⟨n1v, a3, n1⟩ := name_ev nums hn a2 l
      obtain ⟨k2v, a4, k20, k21, k2⟩ := pick_ev nums hn a3 l 9 (by decide) (by decide)
      obtain ⟨w1v, a5, l1, w1l, w1z, w1⟩ := hrow a4 l (by omega)
      refine ⟨(((S0 7).wName n1v).wN k2v).wBody w1v, a5, l1, by omega, by simp [S.sz_eq, S.cnt_eq, cnts, S.wName, S.wRight, S.wPlace, S.wE, S.wN, S.wArgs, S.wBody, S.wEls, S0, S.right, S.place, S.e, S.args, S.body, S.els, Rt0, Pl0, X0_sz, szs, sszs] at *; omega, Does.of fun Q N T Lb b M => ?_⟩
      have k1 := k1 Q N T Lb b M
      have n1 := n1 Q N T Lb b M
      have k2 := k2 Q N T Lb b M
      have w1 := w1 Q N T Lb b M
      have hp := hp Q N T Lb b M
      have i0 := In.zero 7
      have i1 := i0.name n1v
      have i2 := i1.n k2v
      have i3 := i2.body w1v .dead
      rw [S44_eq]
      simp [S44, canon_v, canon_sl, canon_clo, canon_ptr, need_refl, elems_sl, sf_v, sf_sl, sf_ptr, sf_ptrh, sf_clo, sf_dead, sf_nil, sf_full, sf_fr, need_true, ibeq, beq_ba, nbeq, nble, nblt, AM.nth, List.getD_cons_succ, List.getD_cons_zero, Option.bind_some, Option.bind_none, Option.map_some, onBool, AM.onG, onFn, seqK, retK, Ex.outOf, cond_true, cond_false, bin_lss, bin_leq, bin_gtr, bin_geq, bin_eql, bin_neq, bin_add, bin_sub, bin_mul, un_not, str_eql, str_neq, app_push, app_stk, app_tk, app_lp, load_app, load_app0, load_fp, store_app, store_app0, leave_app, leave_app0, AM.ownPut, AM.cellsOf, AM.shift, aPick, fin_v, fin_sl, beq_true, okSz, List.length_cons, List.length_nil, Nat.zero_add, Nat.add_zero, Nat.reduceAdd, decide_true, decide_false, Bool.and_true, Bool.true_and, Bool.and_self, Bool.not_true, Bool.not_false, List.getElem?_cons_zero, List.getElem?_cons_succ, List.nil_append, List.cons_append, hpp_app, hpp_stk, hpp_tk, hpp_lp, hpp_hp, app_lpadd, hload, hload0, hloadh, hstore, hstore0, hleave, hleave0, hfin_v, hfin_sl, hback, hloop, hsetlp, max_int, min_int, hstore_v, hstore_v0, hstore_s, hstore_d, modify_concat, part1, hbackt, hbackl, hback0, List.take_succ_cons, List.take_left, List.take_zero, List.take_nil, hp, k1, n1, k2, w1, hw, ho, hk, i0.z, i0.len, i0.ok, i0.fl, i0.can, i1.z, i1.len, i1.ok, i1.fl, i1.can, i2.z, i2.len, i2.ok, i2.fl, i2.can, i3.z, i3.len, i3.ok, i3.fl, i3.can, X.len, X.okc, Pl.len, Pl.okc, Rt.len, Rt.okc, hd, hm, M.own, M.own0, M.sto, M.sto0, M.fa, M.hN, M.hT, M.hL, okCells, Zc, S0_build, Zs_len, part_all]
    · skip
      skip
      obtain ⟨k2v, a3, k20, k21, k2⟩ := pick_ev nums hn a2 l 9 (by decide) (by decide)
      obtain ⟨w1v, a4, l1, w1l, w1z, w1⟩ := hrow a3 l (by omega)
      refine ⟨((S0 7).wN k2v).wBody w1v, a4, l1, by omega, by simp [S.sz_eq, S.cnt_eq, cnts, S.wName, S.wRight, S.wPlace, S.wE, S.wN, S.wArgs, S.wBody, S.wEls, S0, S.right, S.place, S.e, S.args, S.body, S.els, Rt0, Pl0, X0_sz, szs, sszs] at *; omega, Does.of fun Q N T Lb b M => ?_⟩
      have k1 := k1 Q N T Lb b M
      have k2 := k2 Q N T Lb b M
      have w1 := w1 Q N T Lb b M
      have hp := hp Q N T Lb b M
      have i0 := In.zero 7
      have i1 := i0.n k2v
      have i2 := i1.body w1v .dead
      rw [S44_eq]
      simp [S44, canon_v, canon_sl, canon_clo, canon_ptr, need_refl, elems_sl, sf_v, sf_sl, sf_ptr, sf_ptrh, sf_clo, sf_dead, sf_nil, sf_full, sf_fr, need_true, ibeq, beq_ba, nbeq, nble, nblt, AM.nth, List.getD_cons_succ, List.getD_cons_zero, Option.bind_some, Option.bind_none, Option.map_some, onBool, AM.onG, onFn, seqK, retK, Ex.outOf, cond_true, cond_false, bin_lss, bin_leq, bin_gtr, bin_geq, bin_eql, bin_neq, bin_add, bin_sub, bin_mul, un_not, str_eql, str_neq, app_push, app_stk, app_tk, app_lp, load_app, load_app0, load_fp, store_app, store_app0, leave_app, leave_app0, AM.ownPut, AM.cellsOf, AM.shift, aPick, fin_v, fin_sl, beq_true, okSz, List.length_cons, List.length_nil, Nat.zero_add, Nat.add_zero, Nat.reduceAdd, decide_true, decide_false, Bool.and_true, Bool.true_and, Bool.and_self, Bool.not_true, Bool.not_false, List.getElem?_cons_zero, List.getElem?_cons_succ, List.nil_append, List.cons_append, hpp_app, hpp_stk, hpp_tk, hpp_lp, hpp_hp, app_lpadd, hload, hload0, hloadh, hstore, hstore0, hleave, hleave0, hfin_v, hfin_sl, hback, hloop, hsetlp, max_int, min_int, hstore_v, hstore_v0, hstore_s, hstore_d, modify_concat, part1, hbackt, hbackl, hback0, List.take_succ_cons, List.take_left, List.take_zero, List.take_nil, hp, k1, k2, w1, hw, ho, hk, i0.z, i0.len, i0.ok, i0.fl, i0.can, i1.z, i1.len, i1.ok, i1.fl, i1.can, i2.z, i2.len, i2.ok, i2.fl, i2.can, X.len, X.okc, Pl.len, Pl.okc, Rt.len, Rt.okc, hd, hm, M.own, M.own0, M.sto, M.sto0, M.fa, M.hN, M.hT, M.hL, okCells, Zc, S0_build, Zs_len, part_all]
  · -- 10
    obtain ⟨w1v, a2, l1, w1l, w1z, w1⟩ := hrow a1 l (by omega)
    refine ⟨(S0 10).wBody w1v, a2, l1, by omega, by simp [S.sz_eq, S.cnt_eq, cnts, S.wName, S.wRight, S.wPlace, S.wE, S.wN, S.wArgs, S.wBody, S.wEls, S0, S.right, S.place, S.e, S.args, S.body, S.els, Rt0, Pl0, X0_sz, szs, sszs] at *; omega, Does.of fun Q N T Lb b M => ?_⟩
    have w1 := w1 Q N T Lb b M
    have hp := hp Q N T Lb b M
    have i0 := In.zero 10
    have i1 := i0.body w1v .dead
    rw [S44_eq]
    simp [S44, canon_v, canon_sl, canon_clo, canon_ptr, need_refl, elems_sl, sf_v, sf_sl, sf_ptr, sf_ptrh, sf_clo, sf_dead, sf_nil, sf_full, sf_fr, need_true, ibeq, beq_ba, nbeq, nble, nblt, AM.nth, List.getD_cons_succ, List.getD_cons_zero, Option.bind_some, Option.bind_none, Option.map_some, onBool, AM.onG, onFn, seqK, retK, Ex.outOf, cond_true, cond_false, bin_lss, bin_leq, bin_gtr, bin_geq, bin_eql, bin_neq, bin_add, bin_sub, bin_mul, un_not, str_eql, str_neq, app_push, app_stk, app_tk, app_lp, load_app, load_app0, load_fp, store_app, store_app0, leave_app, leave_app0, AM.ownPut, AM.cellsOf, AM.shift, aPick, fin_v, fin_sl, beq_true, okSz, List.length_cons, List.length_nil, Nat.zero_add, Nat.add_zero, Nat.reduceAdd, decide_true, decide_false, Bool.and_true, Bool.true_and, Bool.and_self, Bool.not_true, Bool.not_false, List.getElem?_cons_zero, List.getElem?_cons_succ, List.nil_append, List.cons_append, hpp_app, hpp_stk, hpp_tk, hpp_lp, hpp_hp, app_lpadd, hload, hload0, hloadh, hstore, hstore0, hleave, hleave0, hfin_v, hfin_sl, hback, hloop, hsetlp, max_int, min_int, hstore_v, hstore_v0, hstore_s, hstore_d, modify_concat, part1, hbackt, hbackl, hback0, List.take_succ_cons, List.take_left, List.take_zero, List.take_nil, hp, w1, hw, ho, i0.z, i0.len, i0.ok, i0.fl, i0.can, i1.z, i1.len, i1.ok, i1.fl, i1.can, X.len, X.okc, Pl.len, Pl.okc, Rt.len, Rt.okc, hd, hm, M.own, M.own0, M.sto, M.sto0, M.fa, M.hN, M.hT, M.hL, okCells, Zc, S0_build, Zs_len, part_all]
end
end Go.Proofs.Ytkbhejcfejembaa.S
