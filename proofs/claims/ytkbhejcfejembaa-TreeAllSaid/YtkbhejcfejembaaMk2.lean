/- Trees: the maker of programs: names, kinds, expressions. No condition. -/
import Derived.Test.YtkbhejcfejembaaMk
set_option linter.all false
namespace Go.Proofs.Ytkbhejcfejembaa.S
open Go Go.AM Go.Proofs
set_option linter.unusedVariables false
set_option linter.unusedSimpArgs false

def names8 : List ByteArray := [⟨#[97]⟩, ⟨#[98]⟩, ⟨#[120]⟩, ⟨#[121]⟩, ⟨#[103]⟩, ⟨#[82]⟩, ⟨#[81]⟩, ⟨#[102]⟩]
theorem strs_at {l : List ByteArray} {n : Nat} (h : n < l.length) : (strs l)[n]? = some [str l[n]] := by simp [strs, h]
theorem fin8 {r n : Int} (h0 : 0 ≤ r) (h1 : r < n) : r.toNat < n.toNat := by omega
theorem inR2 {r : Int} {n : Nat} (h0 : 0 ≤ r) (h1 : r < n) : inRange r n = true := by simp [inRange, h0, h1]

theorem part_all {n : Nat} {cs : List PV} (h : cs.length = n) : AM.part true n 0 cs = some (.agg cs) := by
  subst h
  have : Nat.ble (0 + cs.length) cs.length = true := by simp
  simp only [AM.part, this, cond_true, List.drop_zero, List.take_length]
section
variable (nums : List Int) (hn : nums.length ≤ 400)
include hn
theorem name_ev (a l : Nat) : ∃ nm a', Does nums 23 [] a l (str nm) a' l := by
  obtain ⟨r, a', h0, h1, hp⟩ := pick_ev nums hn a l 8 (by decide) (by decide)
  have hlt : r.toNat < names8.length := by show r.toNat < 8; omega
  refine ⟨names8[r.toNat], a', Does.of fun Q N T Lb b M => ?_⟩
  have hp := hp Q N T Lb b M
  have hlit : rBuildSlice 1 [.v (.string ⟨#[]⟩)] 8 [(0, (PV.v (.string ⟨#[97]⟩))), (1, (PV.v (.string ⟨#[98]⟩))), (2, (PV.v (.string ⟨#[120]⟩))), (3, (PV.v (.string ⟨#[121]⟩))), (4, (PV.v (.string ⟨#[103]⟩))), (5, (PV.v (.string ⟨#[82]⟩))), (6, (PV.v (.string ⟨#[81]⟩))), (7, (PV.v (.string ⟨#[102]⟩)))] = some (.sl (strs names8) .full) := rfl
  have hg := strs_at hlt
  have hin : inRange r (strs names8).length = true := inR2 h0 h1
  rw [S23_eq]
  simp only [S23, hlit, canon_v, canon_sl, canon_clo, canon_ptr, need_refl, elems_sl, sf_v, sf_sl, sf_ptr, sf_ptrh, sf_clo, sf_dead, sf_nil, sf_full, sf_fr, need_true, ibeq, beq_ba, nbeq, nble, nblt, AM.nth, List.getD_cons_succ, List.getD_cons_zero, Option.bind_some, Option.bind_none, Option.map_some, onBool, AM.onG, onFn, seqK, retK, Ex.outOf, cond_true, cond_false, bin_lss, bin_leq, bin_gtr, bin_geq, bin_eql, bin_neq, bin_add, bin_sub, bin_mul, un_not, str_eql, str_neq, app_push, app_stk, app_tk, app_lp, load_app, load_app0, load_fp, store_app, store_app0, leave_app, leave_app0, AM.ownPut, AM.cellsOf, AM.shift, aPick, fin_v, fin_sl, beq_true, okSz, List.length_cons, List.length_nil, Nat.zero_add, Nat.add_zero, Nat.reduceAdd, decide_true, decide_false, Bool.and_true, Bool.true_and, Bool.and_self, Bool.not_true, Bool.not_false, List.getElem?_cons_zero, List.getElem?_cons_succ, List.nil_append, List.cons_append, hpp_app, hpp_stk, hpp_tk, hpp_lp, hpp_hp, app_lpadd, hload, hload0, hloadh, hstore, hstore0, hleave, hleave0, hfin_v, hfin_sl, hback, hloop, hsetlp, max_int, min_int, hstore_v, hstore_v0, hstore_s, hstore_d, modify_concat, part1, hbackt, hbackl, hback0, List.take_succ_cons, List.take_left, List.take_zero, List.take_nil, hp, ia_47, hin, hg, part1, M.own, M.own0, M.sto, M.sto0, M.fv, M.fs, M.fa, M.hN, M.hT, M.hL, M.ld0, M.ld1, M.ld2, aNilCheck, okCells, laid, flatC, canonC_v, canonC_sl, List.all_cons, List.all_nil, List.map_cons, List.map_nil, part_all, rBuild, fillP, List.set_cons_zero, List.set_cons_succ]

theorem kind_ev (a l : Nat) : ∃ k rc a', Does nums 43 [] a l (.agg [int k, str rc]) a' l := by
  obtain ⟨r, a', h0, h1, hp⟩ := pick_ev nums hn a l 4 (by decide) (by decide)
  obtain ⟨o, ho⟩ : ∃ o, o = 1 + r := ⟨_, rfl⟩
  have hw : IntKind.i64.wrap (1 + r) = o := by rw [ho]; exact IntWalk.i64_in _ (by omega)
  by_cases h3 : o = 4
  · obtain ⟨nm, a2, hq⟩ := name_ev nums hn a' l
    refine ⟨4, nm, a2, Does.of fun Q N T Lb b M => ?_⟩
    have hp := hp Q N T Lb b M
    have hq := hq Q N T Lb b M
    rw [S43_eq]
    simp [S43, canon_v, canon_sl, canon_clo, canon_ptr, need_refl, elems_sl, sf_v, sf_sl, sf_ptr, sf_ptrh, sf_clo, sf_dead, sf_nil, sf_full, sf_fr, need_true, ibeq, beq_ba, nbeq, nble, nblt, AM.nth, List.getD_cons_succ, List.getD_cons_zero, Option.bind_some, Option.bind_none, Option.map_some, onBool, AM.onG, onFn, seqK, retK, Ex.outOf, cond_true, cond_false, bin_lss, bin_leq, bin_gtr, bin_geq, bin_eql, bin_neq, bin_add, bin_sub, bin_mul, un_not, str_eql, str_neq, app_push, app_stk, app_tk, app_lp, load_app, load_app0, load_fp, store_app, store_app0, leave_app, leave_app0, AM.ownPut, AM.cellsOf, AM.shift, aPick, fin_v, fin_sl, beq_true, okSz, List.length_cons, List.length_nil, Nat.zero_add, Nat.add_zero, Nat.reduceAdd, decide_true, decide_false, Bool.and_true, Bool.true_and, Bool.and_self, Bool.not_true, Bool.not_false, List.getElem?_cons_zero, List.getElem?_cons_succ, List.nil_append, List.cons_append, hpp_app, hpp_stk, hpp_tk, hpp_lp, hpp_hp, app_lpadd, hload, hload0, hloadh, hstore, hstore0, hleave, hleave0, hfin_v, hfin_sl, hback, hloop, hsetlp, max_int, min_int, hstore_v, hstore_v0, hstore_s, hstore_d, modify_concat, part1, hbackt, hbackl, hback0, List.take_succ_cons, List.take_left, List.take_zero, List.take_nil, hp, hw, h3, hq, M.own, M.own0, M.sto, M.sto0, M.fv, M.fs, M.fa, M.hN, M.hT, M.hL, M.ld0, M.ld1, M.ld2, aNilCheck, okCells, laid, flatC, canonC_v, canonC_sl, List.all_cons, List.all_nil, List.map_cons, List.map_nil, part_all, rBuild, fillP, List.set_cons_zero, List.set_cons_succ]
  · refine ⟨o, ⟨#[]⟩, a', Does.of fun Q N T Lb b M => ?_⟩
    have hp := hp Q N T Lb b M
    rw [S43_eq]
    simp [S43, canon_v, canon_sl, canon_clo, canon_ptr, need_refl, elems_sl, sf_v, sf_sl, sf_ptr, sf_ptrh, sf_clo, sf_dead, sf_nil, sf_full, sf_fr, need_true, ibeq, beq_ba, nbeq, nble, nblt, AM.nth, List.getD_cons_succ, List.getD_cons_zero, Option.bind_some, Option.bind_none, Option.map_some, onBool, AM.onG, onFn, seqK, retK, Ex.outOf, cond_true, cond_false, bin_lss, bin_leq, bin_gtr, bin_geq, bin_eql, bin_neq, bin_add, bin_sub, bin_mul, un_not, str_eql, str_neq, app_push, app_stk, app_tk, app_lp, load_app, load_app0, load_fp, store_app, store_app0, leave_app, leave_app0, AM.ownPut, AM.cellsOf, AM.shift, aPick, fin_v, fin_sl, beq_true, okSz, List.length_cons, List.length_nil, Nat.zero_add, Nat.add_zero, Nat.reduceAdd, decide_true, decide_false, Bool.and_true, Bool.true_and, Bool.and_self, Bool.not_true, Bool.not_false, List.getElem?_cons_zero, List.getElem?_cons_succ, List.nil_append, List.cons_append, hpp_app, hpp_stk, hpp_tk, hpp_lp, hpp_hp, app_lpadd, hload, hload0, hloadh, hstore, hstore0, hleave, hleave0, hfin_v, hfin_sl, hback, hloop, hsetlp, max_int, min_int, hstore_v, hstore_v0, hstore_s, hstore_d, modify_concat, part1, hbackt, hbackl, hback0, List.take_succ_cons, List.take_left, List.take_zero, List.take_nil, hp, hw, h3, M.own, M.own0, M.sto, M.sto0, M.fv, M.fs, M.fa, M.hN, M.hT, M.hL, M.ld0, M.ld1, M.ld2, aNilCheck, okCells, laid, flatC, canonC_v, canonC_sl, List.all_cons, List.all_nil, List.map_cons, List.map_nil, part_all, rBuild, fillP, List.set_cons_zero, List.set_cons_succ]
end
end Go.Proofs.Ytkbhejcfejembaa.S
