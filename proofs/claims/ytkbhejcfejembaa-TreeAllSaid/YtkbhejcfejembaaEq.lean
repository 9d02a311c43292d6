/- Trees: when two expressions are the same. No condition. -/
import Derived.Test.YtkbhejcfejembaaTy
set_option linter.all false
namespace Go.Proofs.Ytkbhejcfejembaa.S
open Go Go.AM Go.Proofs
set_option linter.unusedVariables false
set_option linter.unusedSimpArgs false

mutual
def X.sz : X → Nat
  | ⟨_, _, _, _, _, _, ks, _, _⟩ => szs ks + 1
def szs : List X → Nat
  | [] => 0
  | x :: xs => x.sz + szs xs
end
theorem szs_len : ∀ xs : List X, xs.length ≤ szs xs
  | [] => by simp [szs]
  | x :: xs => by
    have := szs_len xs
    have : 1 ≤ x.sz := by cases x; simp [X.sz]
    simp [szs]; omega
theorem szs_mem {x : X} : ∀ {xs : List X}, x ∈ xs → x.sz ≤ szs xs
  | [], h => by cases h
  | y :: ys, h => by
    rcases List.mem_cons.1 h with rfl | h
    · simp [szs]
    · have := szs_mem h; simp [szs]; omega
theorem X.sz_eq (x : X) : x.sz = szs x.kids + 1 := by cases x; rfl

mutual
def X.same : X → X → Bool
  | ⟨op, bin, n, kd, rc, name, ks, _, _⟩, y =>
    (op == y.op) && ((bin == y.bin) && ((n == y.n) && (((kd == y.kd) && ((rc == y.rc) && true)) && ((decide (name = y.name)) && sames ks y.kids))))
def sames : List X → List X → Bool
  | [], [] => true
  | x :: xs, y :: ys => x.same y && sames xs ys
  | _, _ => false
end
theorem X.same_eq (x y : X) : x.same y = ((x.op == y.op) && ((x.bin == y.bin) && ((x.n == y.n) && (((x.kd == y.kd) && ((x.rc == y.rc) && true)) && ((decide (x.name = y.name)) && sames x.kids y.kids))))) := by
  cases x; simp only [X.same]; rfl
theorem sames_len : ∀ (xs ys : List X), xs.length ≠ ys.length → sames xs ys = false
  | [], [], h => absurd rfl h
  | [], y :: ys, h => by simp [sames]
  | x :: xs, [], h => by simp [sames]
  | x :: xs, y :: ys, h => by simp [sames, sames_len xs ys (by simpa using h)]

theorem encs_get (p : List X) (x : X) (xs : List X) : (encs (p ++ x :: xs))[p.length]? = some x.enc := by
  rw [encs_map]; simp
theorem inR {α : Type} (p : List α) (x : α) (xs : List α) : inRange (p.length : Int) (p ++ x :: xs).length = true := by
  simp [inRange]; omega
theorem laid_all : ∀ (pre old cs : List PV), old.length = cs.length → laid (pre ++ old) pre.length cs = pre ++ cs
  | pre, [], [], _ => rfl
  | pre, o :: old, c :: cs, h => by
    have : (pre ++ o :: old).set pre.length c = (pre ++ [c]) ++ old := by simp
    rw [laid, this, show pre.length + 1 = (pre ++ [c]).length by simp, laid_all (pre ++ [c]) old cs (by simpa using h)]
    simp
theorem laid0 (old cs : List PV) (h : old.length = cs.length) : laid old 0 cs = cs := laid_all [] old cs h

theorem eqf_loop (s : St) (xs0 ys0 : List X) (hb : xs0.length ≤ 1000000) (hl : xs0.length = ys0.length) : ∀ (xs ys p q : List X), xs0 = p ++ xs → ys0 = q ++ ys → p.length = q.length →
    (∀ x ∈ xs, ∀ (y : X) (st : St), E L (.func 16) [.agg x.enc, .agg y.enc] st = some (.v (.bool (x.same y)), st)) →
    ∃ j : Int, itE (S28.b0 (E L) itE s.stk.length s.lp.length) [.sl (encs ys0) .dead, .clo (.func 16) [], .v (.bool false), .sl (encs xs0) .dead, int xs0.length, int p.length] (s.app [] [] []) =
      some (bif sames xs ys then .exit 0 else .ret, [.sl (encs ys0) .dead, .clo (.func 16) [], .v (.bool false), .sl (encs xs0) .dead, int xs0.length, int j], s.app [] [] [])
  | [], ys, p, q, hx, hy, hp, hf => by
    obtain rfl : ys = [] := by
      have := congrArg List.length hx
      have := congrArg List.length hy
      simp at *
      exact List.length_eq_zero_iff.1 (by omega)
    refine ⟨p.length, ?_⟩
    rw [itE_eq]
    have e : xs0.length = p.length := by rw [hx]; simp
    simp [S28.b0, canon_v, canon_sl, canon_clo, canon_ptr, need_refl, elems_sl, sf_v, sf_sl, sf_ptr, sf_ptrh, sf_clo, sf_dead, sf_nil, sf_full, sf_fr, need_true, ibeq, beq_ba, nbeq, nble, nblt, AM.nth, List.getD_cons_succ, List.getD_cons_zero, Option.bind_some, Option.bind_none, Option.map_some, onBool, AM.onG, onFn, seqK, retK, Ex.outOf, cond_true, cond_false, bin_lss, bin_leq, bin_gtr, bin_geq, bin_eql, bin_neq, bin_add, bin_sub, bin_mul, un_not, str_eql, str_neq, app_push, app_stk, app_tk, app_lp, load_app, load_app0, load_fp, store_app, store_app0, leave_app, leave_app0, AM.ownPut, AM.cellsOf, AM.shift, aPick, fin_v, fin_sl, beq_true, okSz, List.length_cons, List.length_nil, Nat.zero_add, Nat.add_zero, Nat.reduceAdd, decide_true, decide_false, Bool.and_true, Bool.true_and, Bool.and_self, Bool.not_true, Bool.not_false, List.getElem?_cons_zero, List.getElem?_cons_succ, List.nil_append, List.cons_append, hpp_app, hpp_stk, hpp_tk, hpp_lp, hpp_hp, app_lpadd, hload, hload0, hloadh, hstore, hstore0, hleave, hleave0, hfin_v, hfin_sl, hback, hloop, hsetlp, max_int, min_int, hstore_v, hstore_v0, hstore_s, hstore_d, modify_concat, part1, hbackt, hbackl, hback0, List.take_succ_cons, List.take_left, List.take_zero, List.take_nil, e, sames]
  | x :: xs, ys, p, q, hx, hy, hp, hf => by
    match ys, hy with
    | [], hy =>
      exfalso
      have := congrArg List.length hx
      have := congrArg List.length hy
      simp at *
      omega
    | y :: ys, hy =>
      have hlt : (p.length : Int) < (xs0.length : Int) := by rw [hx]; simp; omega
      have g1 : (encs xs0)[p.length]? = some x.enc := by rw [hx]; exact encs_get p x xs
      have g2 : (encs ys0)[p.length]? = some y.enc := by rw [hy, hp]; exact encs_get q y ys
      have r1 : inRange (p.length : Int) (encs xs0).length = true := by rw [encs_length, hx]; exact inR p x xs
      have r2 : inRange (p.length : Int) (encs ys0).length = true := by rw [encs_length, hy, hp]; exact inR q y ys
      have w1 : IntKind.i64.wrap ((p.length : Int) + 1) = ((p ++ [x]).length : Int) := by rw [IntWalk.i64_in _ (by omega)]; simp
      have hc := hf x List.mem_cons_self y
      have hstep : S28.b0 (E L) itE s.stk.length s.lp.length [.sl (encs ys0) .dead, .clo (.func 16) [], .v (.bool false), .sl (encs xs0) .dead, int xs0.length, int p.length] (s.app [] [] []) =
          some (bif x.same y then (.normal, [.sl (encs ys0) .dead, .clo (.func 16) [], .v (.bool false), .sl (encs xs0) .dead, int xs0.length, int (p ++ [x]).length], s.app [] [] []) else
            (.ret, [.sl (encs ys0) .dead, .clo (.func 16) [], .v (.bool false), .sl (encs xs0) .dead, int xs0.length, int p.length], s.app [] [] [])) := by
        simp [S28.b0, canon_v, canon_sl, canon_clo, canon_ptr, need_refl, elems_sl, sf_v, sf_sl, sf_ptr, sf_ptrh, sf_clo, sf_dead, sf_nil, sf_full, sf_fr, need_true, ibeq, beq_ba, nbeq, nble, nblt, AM.nth, List.getD_cons_succ, List.getD_cons_zero, Option.bind_some, Option.bind_none, Option.map_some, onBool, AM.onG, onFn, seqK, retK, Ex.outOf, cond_true, cond_false, bin_lss, bin_leq, bin_gtr, bin_geq, bin_eql, bin_neq, bin_add, bin_sub, bin_mul, un_not, str_eql, str_neq, app_push, app_stk, app_tk, app_lp, load_app, load_app0, load_fp, store_app, store_app0, leave_app, leave_app0, AM.ownPut, AM.cellsOf, AM.shift, aPick, fin_v, fin_sl, beq_true, okSz, List.length_cons, List.length_nil, Nat.zero_add, Nat.add_zero, Nat.reduceAdd, decide_true, decide_false, Bool.and_true, Bool.true_and, Bool.and_self, Bool.not_true, Bool.not_false, List.getElem?_cons_zero, List.getElem?_cons_succ, List.nil_append, List.cons_append, hpp_app, hpp_stk, hpp_tk, hpp_lp, hpp_hp, app_lpadd, hload, hload0, hloadh, hstore, hstore0, hleave, hleave0, hfin_v, hfin_sl, hback, hloop, hsetlp, max_int, min_int, hstore_v, hstore_v0, hstore_s, hstore_d, modify_concat, part1, hbackt, hbackl, hback0, List.take_succ_cons, List.take_left, List.take_zero, List.take_nil, hlt, ia_41, r1, r2, g1, g2, X.len, X.whole, X.okc, X.can, laid0, hc]
        cases x.same y <;> simp [canon_v, canon_sl, canon_clo, canon_ptr, need_refl, elems_sl, sf_v, sf_sl, sf_ptr, sf_ptrh, sf_clo, sf_dead, sf_nil, sf_full, sf_fr, need_true, ibeq, beq_ba, nbeq, nble, nblt, AM.nth, List.getD_cons_succ, List.getD_cons_zero, Option.bind_some, Option.bind_none, Option.map_some, onBool, AM.onG, onFn, seqK, retK, Ex.outOf, cond_true, cond_false, bin_lss, bin_leq, bin_gtr, bin_geq, bin_eql, bin_neq, bin_add, bin_sub, bin_mul, un_not, str_eql, str_neq, app_push, app_stk, app_tk, app_lp, load_app, load_app0, load_fp, store_app, store_app0, leave_app, leave_app0, AM.ownPut, AM.cellsOf, AM.shift, aPick, fin_v, fin_sl, beq_true, okSz, List.length_cons, List.length_nil, Nat.zero_add, Nat.add_zero, Nat.reduceAdd, decide_true, decide_false, Bool.and_true, Bool.true_and, Bool.and_self, Bool.not_true, Bool.not_false, List.getElem?_cons_zero, List.getElem?_cons_succ, List.nil_append, List.cons_append, hpp_app, hpp_stk, hpp_tk, hpp_lp, hpp_hp, app_lpadd, hload, hload0, hloadh, hstore, hstore0, hleave, hleave0, hfin_v, hfin_sl, hback, hloop, hsetlp, max_int, min_int, hstore_v, hstore_v0, hstore_s, hstore_d, modify_concat, part1, hbackt, hbackl, hback0, List.take_succ_cons, List.take_left, List.take_zero, List.take_nil, w1]
      cases hxy : x.same y with
      | true =>
        rw [hxy] at hstep
        obtain ⟨j, hj⟩ := eqf_loop s xs0 ys0 hb hl xs ys (p ++ [x]) (q ++ [y]) (by simp [hx]) (by simp [hy]) (by simp [hp]) fun z hz => hf z (List.mem_cons_of_mem _ hz)
        refine ⟨j, ?_⟩
        rw [it_step hstep, hj]
        simp [sames, hxy]
      | false =>
        rw [hxy] at hstep
        refine ⟨p.length, ?_⟩
        rw [it_ret hstep]
        simp [sames, hxy]

theorem eqf_ev (xs ys : List X) (hb : xs.length ≤ 1000000) (hf : ∀ x ∈ xs, ∀ (y : X) (st : St), E L (.func 16) [.agg x.enc, .agg y.enc] st = some (.v (.bool (x.same y)), st)) (st : St) :
    E L (.func 28) [.sl (encs xs) .dead, .sl (encs ys) .dead, .clo (.func 16) []] st = some (.v (.bool (sames xs ys)), st) := by
  obtain ⟨s, rfl⟩ : ∃ s : St, st = s.app [] [] [] := ⟨st, (app_nil st).symm⟩
  rw [S28_eq]
  by_cases hl : xs.length = ys.length
  · obtain ⟨j, hj⟩ := eqf_loop s xs ys hb hl xs ys [] [] rfl rfl rfl hf
    simp [S28, canon_v, canon_sl, canon_clo, canon_ptr, need_refl, elems_sl, sf_v, sf_sl, sf_ptr, sf_ptrh, sf_clo, sf_dead, sf_nil, sf_full, sf_fr, need_true, ibeq, beq_ba, nbeq, nble, nblt, AM.nth, List.getD_cons_succ, List.getD_cons_zero, Option.bind_some, Option.bind_none, Option.map_some, onBool, AM.onG, onFn, seqK, retK, Ex.outOf, cond_true, cond_false, bin_lss, bin_leq, bin_gtr, bin_geq, bin_eql, bin_neq, bin_add, bin_sub, bin_mul, un_not, str_eql, str_neq, app_push, app_stk, app_tk, app_lp, load_app, load_app0, load_fp, store_app, store_app0, leave_app, leave_app0, AM.ownPut, AM.cellsOf, AM.shift, aPick, fin_v, fin_sl, beq_true, okSz, List.length_cons, List.length_nil, Nat.zero_add, Nat.add_zero, Nat.reduceAdd, decide_true, decide_false, Bool.and_true, Bool.true_and, Bool.and_self, Bool.not_true, Bool.not_false, List.getElem?_cons_zero, List.getElem?_cons_succ, List.nil_append, List.cons_append, hpp_app, hpp_stk, hpp_tk, hpp_lp, hpp_hp, app_lpadd, hload, hload0, hloadh, hstore, hstore0, hleave, hleave0, hfin_v, hfin_sl, hback, hloop, hsetlp, max_int, min_int, hstore_v, hstore_v0, hstore_s, hstore_d, modify_concat, part1, hbackt, hbackl, hback0, List.take_succ_cons, List.take_left, List.take_zero, List.take_nil, len_41, encs_length, hl] at hj ⊢
    rw [hj]
    cases sames xs ys <;> simp [canon_v, canon_sl, canon_clo, canon_ptr, need_refl, elems_sl, sf_v, sf_sl, sf_ptr, sf_ptrh, sf_clo, sf_dead, sf_nil, sf_full, sf_fr, need_true, ibeq, beq_ba, nbeq, nble, nblt, AM.nth, List.getD_cons_succ, List.getD_cons_zero, Option.bind_some, Option.bind_none, Option.map_some, onBool, AM.onG, onFn, seqK, retK, Ex.outOf, cond_true, cond_false, bin_lss, bin_leq, bin_gtr, bin_geq, bin_eql, bin_neq, bin_add, bin_sub, bin_mul, un_not, str_eql, str_neq, app_push, app_stk, app_tk, app_lp, load_app, load_app0, load_fp, store_app, store_app0, leave_app, leave_app0, AM.ownPut, AM.cellsOf, AM.shift, aPick, fin_v, fin_sl, beq_true, okSz, List.length_cons, List.length_nil, Nat.zero_add, Nat.add_zero, Nat.reduceAdd, decide_true, decide_false, Bool.and_true, Bool.true_and, Bool.and_self, Bool.not_true, Bool.not_false, List.getElem?_cons_zero, List.getElem?_cons_succ, List.nil_append, List.cons_append, hpp_app, hpp_stk, hpp_tk, hpp_lp, hpp_hp, app_lpadd, hload, hload0, hloadh, hstore, hstore0, hleave, hleave0, hfin_v, hfin_sl, hback, hloop, hsetlp, max_int, min_int, hstore_v, hstore_v0, hstore_s, hstore_d, modify_concat, part1, hbackt, hbackl, hback0, List.take_succ_cons, List.take_left, List.take_zero, List.take_nil]
  · have : ¬ (xs.length : Int) = ys.length := by omega
    simp [S28, canon_v, canon_sl, canon_clo, canon_ptr, need_refl, elems_sl, sf_v, sf_sl, sf_ptr, sf_ptrh, sf_clo, sf_dead, sf_nil, sf_full, sf_fr, need_true, ibeq, beq_ba, nbeq, nble, nblt, AM.nth, List.getD_cons_succ, List.getD_cons_zero, Option.bind_some, Option.bind_none, Option.map_some, onBool, AM.onG, onFn, seqK, retK, Ex.outOf, cond_true, cond_false, bin_lss, bin_leq, bin_gtr, bin_geq, bin_eql, bin_neq, bin_add, bin_sub, bin_mul, un_not, str_eql, str_neq, app_push, app_stk, app_tk, app_lp, load_app, load_app0, load_fp, store_app, store_app0, leave_app, leave_app0, AM.ownPut, AM.cellsOf, AM.shift, aPick, fin_v, fin_sl, beq_true, okSz, List.length_cons, List.length_nil, Nat.zero_add, Nat.add_zero, Nat.reduceAdd, decide_true, decide_false, Bool.and_true, Bool.true_and, Bool.and_self, Bool.not_true, Bool.not_false, List.getElem?_cons_zero, List.getElem?_cons_succ, List.nil_append, List.cons_append, hpp_app, hpp_stk, hpp_tk, hpp_lp, hpp_hp, app_lpadd, hload, hload0, hloadh, hstore, hstore0, hleave, hleave0, hfin_v, hfin_sl, hback, hloop, hsetlp, max_int, min_int, hstore_v, hstore_v0, hstore_s, hstore_d, modify_concat, part1, hbackt, hbackl, hback0, List.take_succ_cons, List.take_left, List.take_zero, List.take_nil, len_41, encs_length, this, sames_len xs ys hl]

theorem same_ev : ∀ (n : Nat) (x : X), x.sz ≤ n → n ≤ 1000000 → ∀ (y : X) (st : St), E L (.func 16) [.agg x.enc, .agg y.enc] st = some (.v (.bool (x.same y)), st)
  | 0, x, h, _ => by rw [X.sz_eq] at h; omega
  | n + 1, x, h, hn => fun y st => by
    rw [X.sz_eq] at h
    have hk := eqf_ev x.kids y.kids (by have := szs_len x.kids; omega) fun z hz y st => same_ev n z (by have := szs_mem hz; omega) (by omega) y st
    have he : ∀ st, E L (.func 11) [.sl (encs x.kids) .dead, .sl (encs y.kids) .dead] st = some (.v (.bool (sames x.kids y.kids)), st) := fun st => by
      obtain ⟨s, rfl⟩ : ∃ s : St, st = s.app [] [] [] := ⟨st, (app_nil st).symm⟩
      rw [S11_eq]
      simp [S11, canon_v, canon_sl, canon_clo, canon_ptr, need_refl, elems_sl, sf_v, sf_sl, sf_ptr, sf_ptrh, sf_clo, sf_dead, sf_nil, sf_full, sf_fr, need_true, ibeq, beq_ba, nbeq, nble, nblt, AM.nth, List.getD_cons_succ, List.getD_cons_zero, Option.bind_some, Option.bind_none, Option.map_some, onBool, AM.onG, onFn, seqK, retK, Ex.outOf, cond_true, cond_false, bin_lss, bin_leq, bin_gtr, bin_geq, bin_eql, bin_neq, bin_add, bin_sub, bin_mul, un_not, str_eql, str_neq, app_push, app_stk, app_tk, app_lp, load_app, load_app0, load_fp, store_app, store_app0, leave_app, leave_app0, AM.ownPut, AM.cellsOf, AM.shift, aPick, fin_v, fin_sl, beq_true, okSz, List.length_cons, List.length_nil, Nat.zero_add, Nat.add_zero, Nat.reduceAdd, decide_true, decide_false, Bool.and_true, Bool.true_and, Bool.and_self, Bool.not_true, Bool.not_false, List.getElem?_cons_zero, List.getElem?_cons_succ, List.nil_append, List.cons_append, hpp_app, hpp_stk, hpp_tk, hpp_lp, hpp_hp, app_lpadd, hload, hload0, hloadh, hstore, hstore0, hleave, hleave0, hfin_v, hfin_sl, hback, hloop, hsetlp, max_int, min_int, hstore_v, hstore_v0, hstore_s, hstore_d, modify_concat, part1, hbackt, hbackl, hback0, List.take_succ_cons, List.take_left, List.take_zero, List.take_nil, hk]
    obtain ⟨s, rfl⟩ : ∃ s : St, st = s.app [] [] [] := ⟨st, (app_nil st).symm⟩
    rw [S16_eq, X.same_eq]
    by_cases h0 : x.op = y.op
    case neg => simp [S16, canon_v, canon_sl, canon_clo, canon_ptr, need_refl, elems_sl, sf_v, sf_sl, sf_ptr, sf_ptrh, sf_clo, sf_dead, sf_nil, sf_full, sf_fr, need_true, ibeq, beq_ba, nbeq, nble, nblt, AM.nth, List.getD_cons_succ, List.getD_cons_zero, Option.bind_some, Option.bind_none, Option.map_some, onBool, AM.onG, onFn, seqK, retK, Ex.outOf, cond_true, cond_false, bin_lss, bin_leq, bin_gtr, bin_geq, bin_eql, bin_neq, bin_add, bin_sub, bin_mul, un_not, str_eql, str_neq, app_push, app_stk, app_tk, app_lp, load_app, load_app0, load_fp, store_app, store_app0, leave_app, leave_app0, AM.ownPut, AM.cellsOf, AM.shift, aPick, fin_v, fin_sl, beq_true, okSz, List.length_cons, List.length_nil, Nat.zero_add, Nat.add_zero, Nat.reduceAdd, decide_true, decide_false, Bool.and_true, Bool.true_and, Bool.and_self, Bool.not_true, Bool.not_false, List.getElem?_cons_zero, List.getElem?_cons_succ, List.nil_append, List.cons_append, hpp_app, hpp_stk, hpp_tk, hpp_lp, hpp_hp, app_lpadd, hload, hload0, hloadh, hstore, hstore0, hleave, hleave0, hfin_v, hfin_sl, hback, hloop, hsetlp, max_int, min_int, hstore_v, hstore_v0, hstore_s, hstore_d, modify_concat, part1, hbackt, hbackl, hback0, List.take_succ_cons, List.take_left, List.take_zero, List.take_nil, X.p0_1, X.p1_1, X.p2_1, X.p3_1, X.p3_2a, X.p4_1, X.p5_1, X.p6_1, steq_40, he, h0]
    by_cases h1 : x.bin = y.bin
    case neg => simp [S16, canon_v, canon_sl, canon_clo, canon_ptr, need_refl, elems_sl, sf_v, sf_sl, sf_ptr, sf_ptrh, sf_clo, sf_dead, sf_nil, sf_full, sf_fr, need_true, ibeq, beq_ba, nbeq, nble, nblt, AM.nth, List.getD_cons_succ, List.getD_cons_zero, Option.bind_some, Option.bind_none, Option.map_some, onBool, AM.onG, onFn, seqK, retK, Ex.outOf, cond_true, cond_false, bin_lss, bin_leq, bin_gtr, bin_geq, bin_eql, bin_neq, bin_add, bin_sub, bin_mul, un_not, str_eql, str_neq, app_push, app_stk, app_tk, app_lp, load_app, load_app0, load_fp, store_app, store_app0, leave_app, leave_app0, AM.ownPut, AM.cellsOf, AM.shift, aPick, fin_v, fin_sl, beq_true, okSz, List.length_cons, List.length_nil, Nat.zero_add, Nat.add_zero, Nat.reduceAdd, decide_true, decide_false, Bool.and_true, Bool.true_and, Bool.and_self, Bool.not_true, Bool.not_false, List.getElem?_cons_zero, List.getElem?_cons_succ, List.nil_append, List.cons_append, hpp_app, hpp_stk, hpp_tk, hpp_lp, hpp_hp, app_lpadd, hload, hload0, hloadh, hstore, hstore0, hleave, hleave0, hfin_v, hfin_sl, hback, hloop, hsetlp, max_int, min_int, hstore_v, hstore_v0, hstore_s, hstore_d, modify_concat, part1, hbackt, hbackl, hback0, List.take_succ_cons, List.take_left, List.take_zero, List.take_nil, X.p0_1, X.p1_1, X.p2_1, X.p3_1, X.p3_2a, X.p4_1, X.p5_1, X.p6_1, steq_40, he, h0, h1]
    by_cases h2 : x.n = y.n
    case neg => simp [S16, canon_v, canon_sl, canon_clo, canon_ptr, need_refl, elems_sl, sf_v, sf_sl, sf_ptr, sf_ptrh, sf_clo, sf_dead, sf_nil, sf_full, sf_fr, need_true, ibeq, beq_ba, nbeq, nble, nblt, AM.nth, List.getD_cons_succ, List.getD_cons_zero, Option.bind_some, Option.bind_none, Option.map_some, onBool, AM.onG, onFn, seqK, retK, Ex.outOf, cond_true, cond_false, bin_lss, bin_leq, bin_gtr, bin_geq, bin_eql, bin_neq, bin_add, bin_sub, bin_mul, un_not, str_eql, str_neq, app_push, app_stk, app_tk, app_lp, load_app, load_app0, load_fp, store_app, store_app0, leave_app, leave_app0, AM.ownPut, AM.cellsOf, AM.shift, aPick, fin_v, fin_sl, beq_true, okSz, List.length_cons, List.length_nil, Nat.zero_add, Nat.add_zero, Nat.reduceAdd, decide_true, decide_false, Bool.and_true, Bool.true_and, Bool.and_self, Bool.not_true, Bool.not_false, List.getElem?_cons_zero, List.getElem?_cons_succ, List.nil_append, List.cons_append, hpp_app, hpp_stk, hpp_tk, hpp_lp, hpp_hp, app_lpadd, hload, hload0, hloadh, hstore, hstore0, hleave, hleave0, hfin_v, hfin_sl, hback, hloop, hsetlp, max_int, min_int, hstore_v, hstore_v0, hstore_s, hstore_d, modify_concat, part1, hbackt, hbackl, hback0, List.take_succ_cons, List.take_left, List.take_zero, List.take_nil, X.p0_1, X.p1_1, X.p2_1, X.p3_1, X.p3_2a, X.p4_1, X.p5_1, X.p6_1, steq_40, he, h0, h1, h2]
    by_cases h3 : x.kd = y.kd
    case neg => simp [S16, canon_v, canon_sl, canon_clo, canon_ptr, need_refl, elems_sl, sf_v, sf_sl, sf_ptr, sf_ptrh, sf_clo, sf_dead, sf_nil, sf_full, sf_fr, need_true, ibeq, beq_ba, nbeq, nble, nblt, AM.nth, List.getD_cons_succ, List.getD_cons_zero, Option.bind_some, Option.bind_none, Option.map_some, onBool, AM.onG, onFn, seqK, retK, Ex.outOf, cond_true, cond_false, bin_lss, bin_leq, bin_gtr, bin_geq, bin_eql, bin_neq, bin_add, bin_sub, bin_mul, un_not, str_eql, str_neq, app_push, app_stk, app_tk, app_lp, load_app, load_app0, load_fp, store_app, store_app0, leave_app, leave_app0, AM.ownPut, AM.cellsOf, AM.shift, aPick, fin_v, fin_sl, beq_true, okSz, List.length_cons, List.length_nil, Nat.zero_add, Nat.add_zero, Nat.reduceAdd, decide_true, decide_false, Bool.and_true, Bool.true_and, Bool.and_self, Bool.not_true, Bool.not_false, List.getElem?_cons_zero, List.getElem?_cons_succ, List.nil_append, List.cons_append, hpp_app, hpp_stk, hpp_tk, hpp_lp, hpp_hp, app_lpadd, hload, hload0, hloadh, hstore, hstore0, hleave, hleave0, hfin_v, hfin_sl, hback, hloop, hsetlp, max_int, min_int, hstore_v, hstore_v0, hstore_s, hstore_d, modify_concat, part1, hbackt, hbackl, hback0, List.take_succ_cons, List.take_left, List.take_zero, List.take_nil, X.p0_1, X.p1_1, X.p2_1, X.p3_1, X.p3_2a, X.p4_1, X.p5_1, X.p6_1, steq_40, he, h0, h1, h2, h3]
    by_cases h4 : x.rc = y.rc
    case neg => simp [S16, canon_v, canon_sl, canon_clo, canon_ptr, need_refl, elems_sl, sf_v, sf_sl, sf_ptr, sf_ptrh, sf_clo, sf_dead, sf_nil, sf_full, sf_fr, need_true, ibeq, beq_ba, nbeq, nble, nblt, AM.nth, List.getD_cons_succ, List.getD_cons_zero, Option.bind_some, Option.bind_none, Option.map_some, onBool, AM.onG, onFn, seqK, retK, Ex.outOf, cond_true, cond_false, bin_lss, bin_leq, bin_gtr, bin_geq, bin_eql, bin_neq, bin_add, bin_sub, bin_mul, un_not, str_eql, str_neq, app_push, app_stk, app_tk, app_lp, load_app, load_app0, load_fp, store_app, store_app0, leave_app, leave_app0, AM.ownPut, AM.cellsOf, AM.shift, aPick, fin_v, fin_sl, beq_true, okSz, List.length_cons, List.length_nil, Nat.zero_add, Nat.add_zero, Nat.reduceAdd, decide_true, decide_false, Bool.and_true, Bool.true_and, Bool.and_self, Bool.not_true, Bool.not_false, List.getElem?_cons_zero, List.getElem?_cons_succ, List.nil_append, List.cons_append, hpp_app, hpp_stk, hpp_tk, hpp_lp, hpp_hp, app_lpadd, hload, hload0, hloadh, hstore, hstore0, hleave, hleave0, hfin_v, hfin_sl, hback, hloop, hsetlp, max_int, min_int, hstore_v, hstore_v0, hstore_s, hstore_d, modify_concat, part1, hbackt, hbackl, hback0, List.take_succ_cons, List.take_left, List.take_zero, List.take_nil, X.p0_1, X.p1_1, X.p2_1, X.p3_1, X.p3_2a, X.p4_1, X.p5_1, X.p6_1, steq_40, he, h0, h1, h2, h3, h4]
    by_cases h5 : x.name = y.name
    case neg => simp [S16, canon_v, canon_sl, canon_clo, canon_ptr, need_refl, elems_sl, sf_v, sf_sl, sf_ptr, sf_ptrh, sf_clo, sf_dead, sf_nil, sf_full, sf_fr, need_true, ibeq, beq_ba, nbeq, nble, nblt, AM.nth, List.getD_cons_succ, List.getD_cons_zero, Option.bind_some, Option.bind_none, Option.map_some, onBool, AM.onG, onFn, seqK, retK, Ex.outOf, cond_true, cond_false, bin_lss, bin_leq, bin_gtr, bin_geq, bin_eql, bin_neq, bin_add, bin_sub, bin_mul, un_not, str_eql, str_neq, app_push, app_stk, app_tk, app_lp, load_app, load_app0, load_fp, store_app, store_app0, leave_app, leave_app0, AM.ownPut, AM.cellsOf, AM.shift, aPick, fin_v, fin_sl, beq_true, okSz, List.length_cons, List.length_nil, Nat.zero_add, Nat.add_zero, Nat.reduceAdd, decide_true, decide_false, Bool.and_true, Bool.true_and, Bool.and_self, Bool.not_true, Bool.not_false, List.getElem?_cons_zero, List.getElem?_cons_succ, List.nil_append, List.cons_append, hpp_app, hpp_stk, hpp_tk, hpp_lp, hpp_hp, app_lpadd, hload, hload0, hloadh, hstore, hstore0, hleave, hleave0, hfin_v, hfin_sl, hback, hloop, hsetlp, max_int, min_int, hstore_v, hstore_v0, hstore_s, hstore_d, modify_concat, part1, hbackt, hbackl, hback0, List.take_succ_cons, List.take_left, List.take_zero, List.take_nil, X.p0_1, X.p1_1, X.p2_1, X.p3_1, X.p3_2a, X.p4_1, X.p5_1, X.p6_1, steq_40, he, h0, h1, h2, h3, h4, h5]
    simp [S16, canon_v, canon_sl, canon_clo, canon_ptr, need_refl, elems_sl, sf_v, sf_sl, sf_ptr, sf_ptrh, sf_clo, sf_dead, sf_nil, sf_full, sf_fr, need_true, ibeq, beq_ba, nbeq, nble, nblt, AM.nth, List.getD_cons_succ, List.getD_cons_zero, Option.bind_some, Option.bind_none, Option.map_some, onBool, AM.onG, onFn, seqK, retK, Ex.outOf, cond_true, cond_false, bin_lss, bin_leq, bin_gtr, bin_geq, bin_eql, bin_neq, bin_add, bin_sub, bin_mul, un_not, str_eql, str_neq, app_push, app_stk, app_tk, app_lp, load_app, load_app0, load_fp, store_app, store_app0, leave_app, leave_app0, AM.ownPut, AM.cellsOf, AM.shift, aPick, fin_v, fin_sl, beq_true, okSz, List.length_cons, List.length_nil, Nat.zero_add, Nat.add_zero, Nat.reduceAdd, decide_true, decide_false, Bool.and_true, Bool.true_and, Bool.and_self, Bool.not_true, Bool.not_false, List.getElem?_cons_zero, List.getElem?_cons_succ, List.nil_append, List.cons_append, hpp_app, hpp_stk, hpp_tk, hpp_lp, hpp_hp, app_lpadd, hload, hload0, hloadh, hstore, hstore0, hleave, hleave0, hfin_v, hfin_sl, hback, hloop, hsetlp, max_int, min_int, hstore_v, hstore_v0, hstore_s, hstore_d, modify_concat, part1, hbackt, hbackl, hback0, List.take_succ_cons, List.take_left, List.take_zero, List.take_nil, X.p0_1, X.p1_1, X.p2_1, X.p3_1, X.p3_2a, X.p4_1, X.p5_1, X.p6_1, steq_40, he, h0, h1, h2, h3, h4, h5]
end Go.Proofs.Ytkbhejcfejembaa.S
