/- Trees: the statements' first question. No condition. -/
import Derived.Test.YtkbhejcfejembaaCt
import Derived.Test.YtkbhejcfejembaaSt1
import Derived.Test.YtkbhejcfejembaaTA
import Derived.Test.YtkbhejcfejembaaS0
import Derived.Test.YtkbhejcfejembaaM21
import Derived.KernelRfl
set_option linter.all false
namespace Go.Proofs.Ytkbhejcfejembaa.S
open Go Go.AM Go.Proofs
set_option linter.unusedVariables false
set_option linter.unusedSimpArgs false
set_option maxHeartbeats 4000000

theorem plain_fl : ∀ {cs : List PV}, cs.all flatC = true → plainCs cs = some (cs.map canonC)
  | [], _ => rfl
  | c :: cs, h => by
    simp only [List.all_cons, Bool.and_eq_true] at h
    have h1 : plainC c = some (canonC c) := by cases c <;> simp_all [flatC, plainC, canonC]
    simp only [plainCs, h1, plain_fl h.2, Option.bind_some, List.map_cons]
theorem In.lit {cs : List PV} {x : S} (h : In cs x) : rBuildSlice 58 Zs 1 [(0, .agg cs)] = some (.sl (sencs [x]) .full) := by
  have := lit1 Zs_len h.len (plain_fl h.fl) (by rw [List.length_map, h.len])
  rw [this, h.can]; rfl
def aX : X := ⟨1, 0, 1, 0, ⟨#[]⟩, ⟨#[]⟩, [], 0, 0⟩
def aXc : List PV := [int 1, int 0, .v (.int .u64 1), int 0, str ⟨#[]⟩, str ⟨#[]⟩, .sl [] .nil, int 0, int 0]
def aS5 (l : Int) : S := ⟨5, ⟨#[]⟩, Rt0, Pl0, X0, 0, [], [], [], l, 0⟩
def aS6 (l : Int) : S := ⟨6, ⟨#[]⟩, Rt0, Pl0, aX, 0, [], [aS5 l], [], 0, 0⟩
theorem in5 : In (laid (Cz 5) 56 [int 7]) (aS5 7) := (In.zero 5).put 56 _ rfl (by
  have := laidB ([int (S0 5).op, str (S0 5).name] ++ (S0 5).right.enc ++ (S0 5).place.enc ++ (S0 5).e.enc ++ [int (S0 5).n, .sl (encs (S0 5).args) .dead, .sl (sencs (S0 5).body) .dead, .sl (sencs (S0 5).els) .dead]) [int (S0 5).line] [int (S0 5).col] [int 7] rfl
  rw [List.length_append, hd_len] at this
  rw [S.encP, S.encP]
  simp only [List.append_assoc, List.cons_append, List.nil_append] at this ⊢
  exact this)
theorem in5' : In (Cz 5) (aS5 0) := In.zero 5
theorem in6 (l : Int) (c : Cap) : In (laid (laid (Cz 6) 43 aXc) 54 [.sl (sencs [aS5 l]) c]) (aS6 l) := by
  have h := ((In.zero 6).put (y := (S0 6).wE aX) 43 aXc rfl (by
    have : aXc.map canonC = aX.enc := by simp [aXc, canonC, aX, X.enc, encs]
    rw [this]; exact S.l43 _ _)).body [aS5 l] c
  exact h
theorem alive_ev (s : St) (hs : List Blk) : ∃ hs', E L (.func 7) [] ((s.hpp hs).app [] [] []) = some (.v (.bool true), (s.hpp hs').app [] [] []) := by
  let pg : Pg := ⟨[], [], [], [⟨[aS6 7], 0, 0⟩]⟩
  have hbd : pg.bodies = [[aS6 7]] := rfl
  have fl : flats [aS6 7] 0 = [(aS6 7, 0), (aS5 7, 1)] := by simp [flats, S.flat, aS6, aS5]
  obtain ⟨hs', hc⟩ := count_ev pg (by decide) (by decide) (by rw [hbd]; intro b hb; simp at hb; subst hb; decide) (by rw [hbd]; simp [tot, fl]) s hs
  have ht : tot pg.bodies = 2 := by rw [hbd]; simp [tot, fl]
  have hm : mxs pg.bodies (-1) = 1 := by rw [hbd]; simp [mxs, fl, mx]
  rw [ht, hm] at hc
  refine ⟨hs', ?_⟩
  have s1 := fun st => stmts_ev [aS6 7] [aS6 0] (by decide) st
  have s2 := fun st => stmts_ev [aS6 7] [] (by decide) st
  have e1 : ssames [aS6 7] [aS6 0] = true := by decide
  have e2 : ssames [aS6 7] [] = false := rfl
  rw [e1] at s1
  rw [e2] at s2
  have b1 : rBuild [(0, 1), (1, 1), (2, 1), (3, 2), (5, 1), (6, 1), (7, 1), (8, 1)] [.v (.int .i64 0), .v (.int .i64 0), .v (.int .u64 0), .v (.int .i64 0), .v (.string ⟨#[]⟩), .v (.string ⟨#[]⟩), .sl [] .nil, .v (.int .i64 0), .v (.int .i64 0)] [(0, PV.v (.int .i64 1)), (2, PV.v (.int .u64 1))] = some (.agg aXc) := rfl
  have b2 : rBuild [(0, 1), (1, 1), (2, 27), (29, 14), (43, 9), (52, 1), (53, 1), (54, 1), (55, 1), (56, 1), (57, 1)] Zs [(0, PV.v (.int .i64 5)), (9, PV.v (.int .i64 7))] = some (.agg (laid (Cz 5) 56 [int 7])) := rfl
  have b3 : rBuild [(0, 1), (1, 1), (2, 27), (29, 14), (43, 9), (52, 1), (53, 1), (54, 1), (55, 1), (56, 1), (57, 1)] Zs [(0, PV.v (.int .i64 5))] = some (.agg (Cz 5)) := rfl
  have b4 : ∀ l, rBuild [(0, 1), (1, 1), (2, 27), (29, 14), (43, 9), (52, 1), (53, 1), (54, 1), (55, 1), (56, 1), (57, 1)] Zs [(0, PV.v (.int .i64 6)), (4, .agg aXc), (7, .sl (sencs [aS5 l]) .full)] = some (.agg (laid (laid (Cz 6) 43 aXc) 54 [.sl (sencs [aS5 l]) .full])) := fun _ => rfl
  have b5 : rBuild [(0, 1), (1, 1), (2, 1)] [.sl [] .nil, .v (.int .i64 0), .v (.int .i64 0)] [(0, .sl (sencs [aS6 7]) .full)] = some (.agg [.sl (sencs [aS6 7]) .full, int 0, int 0]) := rfl
  have b6 : rBuildSlice 3 [.sl [] .nil, .v (.int .i64 0), .v (.int .i64 0)] 1 [(0, .agg [.sl (sencs [aS6 7]) .full, int 0, int 0])] = some (.sl (pg.threads.map Th.enc) .full) := rfl
  have b7 : rBuild [(0, 1), (1, 1), (2, 1), (3, 1)] [.sl [] .nil, .sl [] .nil, .sl [] .nil, .sl [] .nil] [(3, .sl (pg.threads.map Th.enc) .full)] = some (.agg [.sl [] .nil, .sl [] .nil, .sl [] .nil, .sl (pg.threads.map Th.enc) .full]) := rfl
  have hcan : canon (.agg [.sl [] .nil, .sl [] .nil, .sl [] .nil, .sl (pg.threads.map Th.enc) .full]) = .agg pg.enc := rfl
  have e0 : sencs [] = [] := rfl
  rw [e0] at s2
  rw [show ((2 : Nat) : Int) = 2 from rfl] at hc
  rw [S7_eq]
  simp only [S7, Zc, b1, b2, in5.lit, b4, (in6 7 .full).lit, b3, in5'.lit, (in6 0 .full).lit, b5, b6, b7, hcan, hc, canon_v, canon_sl, canon_clo, canon_ptr, need_refl, elems_sl, sf_v, sf_sl, sf_ptr, sf_ptrh, sf_clo, sf_dead, sf_nil, sf_full, sf_fr, need_true, ibeq, beq_ba, nbeq, nble, nblt, AM.nth, List.getD_cons_succ, List.getD_cons_zero, Option.bind_some, Option.bind_none, Option.map_some, onBool, AM.onG, onFn, seqK, retK, Ex.outOf, cond_true, cond_false, bin_lss, bin_leq, bin_gtr, bin_geq, bin_eql, bin_neq, bin_add, bin_sub, bin_mul, un_not, str_eql, str_neq, app_push, app_stk, app_tk, app_lp, load_app, load_app0, load_fp, store_app, store_app0, leave_app, leave_app0, AM.ownPut, AM.cellsOf, AM.shift, aPick, fin_v, fin_sl, beq_true, okSz, List.length_cons, List.length_nil, Nat.zero_add, Nat.add_zero, Nat.reduceAdd, decide_true, decide_false, Bool.and_true, Bool.true_and, Bool.and_self, Bool.not_true, Bool.not_false, List.getElem?_cons_zero, List.getElem?_cons_succ, List.nil_append, List.cons_append, hpp_app, hpp_stk, hpp_tk, hpp_lp, hpp_hp, app_lpadd, hload, hload0, hloadh, hstore, hstore0, hleave, hleave0, hfin_v, hfin_sl, hback, hloop, hsetlp, max_int, min_int, hstore_v, hstore_v0, hstore_s, hstore_d, modify_concat, part1, hbackt, hbackl, hback0, List.take_succ_cons, List.take_left, List.take_zero, List.take_nil, aExtract, s1, s2]
end Go.Proofs.Ytkbhejcfejembaa.S

/- Trees: what it is to be the same; the statements' parts. No condition. -/
namespace Go.Proofs.Ytkbhejcfejembaa.S
open Go Go.AM Go.Proofs
set_option linter.unusedVariables false
set_option linter.unusedSimpArgs false
set_option maxHeartbeats 4000000

theorem dc {α : Type} [DecidableEq α] (a b : α) : decide (a = b) = decide (b = a) := by
  by_cases h : a = b
  · subst h; rfl
  · have : ¬ b = a := fun e => h e.symm
    simp [h, this]
mutual
theorem X.same_refl : ∀ x : X, x.same x = true
  | ⟨op, bin, n, kd, rc, name, ks, l, c⟩ => by
    have := sames_refl ks
    simp [X.same, X.op, X.bin, X.n, X.kd, X.rc, X.name, X.kids, this, beq_ba]
theorem sames_refl : ∀ xs : List X, sames xs xs = true
  | [] => rfl
  | x :: xs => by simp [sames, X.same_refl x, sames_refl xs]
end
mutual
theorem X.same_symm : ∀ x y : X, x.same y = y.same x
  | ⟨op, bin, n, kd, rc, name, ks, l, c⟩, y => by
    have h : sames (X.mk op bin n kd rc name ks l c).kids y.kids = sames y.kids (X.mk op bin n kd rc name ks l c).kids := sames_symm ks y.kids
    rw [X.same_eq, X.same_eq, h]
    generalize X.mk op bin n kd rc name ks l c = x
    simp only [ibeq, beq_ba]
    rw [dc x.op y.op, dc x.bin y.bin, dc x.n y.n, dc x.kd y.kd, dc x.rc y.rc, dc x.name y.name]
theorem sames_symm : ∀ xs ys : List X, sames xs ys = sames ys xs
  | [], [] => rfl
  | [], y :: ys => by simp [sames]
  | x :: xs, [] => by simp [sames]
  | x :: xs, y :: ys => by simp only [sames, X.same_symm x y, sames_symm xs ys]
end
theorem Pl.same_refl (x : Pl) : x.same x = true := by simp [Pl.same, X.same_refl]
theorem Rt.same_refl (x : Rt) : x.same x = true := by simp [Rt.same, X.same_refl, Pl.same_refl]
theorem Pl.same_symm (x y : Pl) : x.same y = y.same x := by
  simp only [Pl.same, X.same_symm x.index y.index]
  rw [dc x.op y.op, dc x.base y.base, dc x.field y.field]
theorem Rt.same_symm (x y : Rt) : x.same y = y.same x := by
  simp only [Rt.same, X.same_symm x.e y.e, Pl.same_symm x.place y.place]
  rw [dc x.op y.op, dc x.name y.name]
mutual
theorem S.same_refl : ∀ x : S, x.same x = true
  | ⟨op, name, right, place, e, n, args, body, els, l, c⟩ => by
    have h1 := ssames_refl body
    have h2 := ssames_refl els
    simp [S.same, S.op, S.name, S.right, S.place, S.e, S.n, S.args, S.body, S.els, h1, h2, Rt.same_refl, Pl.same_refl, X.same_refl, sames_refl]
theorem ssames_refl : ∀ xs : List S, ssames xs xs = true
  | [] => rfl
  | x :: xs => by simp [ssames, S.same_refl x, ssames_refl xs]
end
mutual
theorem S.same_symm : ∀ x y : S, x.same y = y.same x
  | ⟨op, name, right, place, e, n, args, body, els, l, c⟩, y => by
    have h1 : ssames (S.mk op name right place e n args body els l c).body y.body = ssames y.body (S.mk op name right place e n args body els l c).body := ssames_symm body y.body
    have h2 : ssames (S.mk op name right place e n args body els l c).els y.els = ssames y.els (S.mk op name right place e n args body els l c).els := ssames_symm els y.els
    rw [S.same_eq, S.same_eq, h1, h2]
    generalize S.mk op name right place e n args body els l c = x
    rw [dc x.op y.op, dc x.name y.name, dc x.n y.n, Rt.same_symm x.right, Pl.same_symm x.place, X.same_symm x.e, sames_symm x.args]
theorem ssames_symm : ∀ xs ys : List S, ssames xs ys = ssames ys xs
  | [], [] => rfl
  | [], y :: ys => by simp [ssames]
  | x :: xs, [] => by simp [ssames]
  | x :: xs, y :: ys => by simp only [ssames, S.same_symm x y, ssames_symm xs ys]
end
theorem ssames_app : ∀ {xs ys : List S} {xs' ys' : List S}, xs.length = ys.length → ssames (xs ++ xs') (ys ++ ys') = (ssames xs ys && ssames xs' ys')
  | [], [], _, _, _ => by simp [ssames]
  | x :: xs, y :: ys, _, _, h => by simp only [List.cons_append, ssames, ssames_app (show xs.length = ys.length by simpa using h), Bool.and_assoc]
theorem ssames_true_len {xs ys : List S} (h : ssames xs ys = true) : xs.length = ys.length := by
  cases Nat.decEq xs.length ys.length with
  | isTrue e => exact e
  | isFalse e => rw [ssames_len xs ys e] at h; cases h
theorem rows_law {x y : List S} (h : ssames x y = true) : ssames (x ++ y) (y ++ x) = true := by
  rw [ssames_app (ssames_true_len h), h, ssames_symm y x, h]; rfl

theorem cnts_app : ∀ xs ys : List S, cnts (xs ++ ys) = cnts xs + cnts ys
  | [], ys => by simp [cnts]
  | x :: xs, ys => by simp [cnts, cnts_app xs ys]; omega
theorem bsz_mem {l : List (List S)} {b : List S} (h : b ∈ l) : sszs b ≤ bsz l ∧ cnts b ≤ csz l := by
  induction l with
  | nil => cases h
  | cons c l ih =>
    simp only [bsz, csz, List.map_cons, List.sum_cons] at ih ⊢
    rcases List.mem_cons.1 h with rfl | h
    · omega
    · have := ih h; omega
/-- The watcher, at any state. -/
theorem gone_st (xs : List S) (hz : sszs xs ≤ 100000) (most : Int) (st : St) :
    E L (.func 9) [.sl (sencs xs) .dead, int most] st = some (.tup [int (min (cnts xs) most.toNat : Nat), .v (.bool true)], st.hpp [⟨[.sl (sencs xs) .dead], []⟩]) := by
  have := gone_ev xs hz most st []
  rw [flats_cnt] at this
  simpa [hpp_nil, app_nil] using this
theorem alive_st (st : St) : ∃ hs', E L (.func 7) [] st = some (.v (.bool true), st.hpp hs') := by
  obtain ⟨hs', h⟩ := alive_ev st []
  exact ⟨hs', by simpa [hpp_nil, app_nil] using h⟩
end Go.Proofs.Ytkbhejcfejembaa.S

/- Trees: the statement TreeRows, as the machine reckons it, case by case. No condition. -/
namespace Go.Proofs.Ytkbhejcfejembaa.S
open Go Go.AM Go.Proofs
set_option linter.unusedVariables false
set_option linter.unusedSimpArgs false
set_option maxHeartbeats 8000000

theorem bind_step {α β : Type} (a : α) (f : α → Option β) : (some a).bind f = f a := by
  cases h : f a with
  | none => exact h
  | some b => exact h
theorem bind_stop {α β : Type} {x y : Option α} (f : α → Option β) (h : x = y) : x.bind f = y.bind f := by rw [h]
theorem lit58_0 : rBuildSlice 58 Zs 0 [] = some (.sl (sencs []) .full) := rfl
section
variable {a b : List Int} {s : St} {hs : List Blk} (ha : E L (.func 7) [] s = some (.v (.bool true), (s.hpp hs).app [] [] []))
include ha
theorem tr1 (hla : (a.length : Int) > 400) : E L (.func 3) [.sl (ints a) .dead, .sl (ints b) .dead] s = some (.v (.bool true), (s.hpp hs).app [] [] []) := by
  rw [S3_eq]
  simp [S3, ha, canon_v, canon_sl, canon_clo, canon_ptr, need_refl, elems_sl, sf_v, sf_sl, sf_ptr, sf_ptrh, sf_clo, sf_dead, sf_nil, sf_full, sf_fr, need_true, ibeq, beq_ba, nbeq, nble, nblt, AM.nth, List.getD_cons_succ, List.getD_cons_zero, Option.bind_some, Option.bind_none, Option.map_some, onBool, AM.onG, onFn, seqK, retK, Ex.outOf, cond_true, cond_false, bin_lss, bin_leq, bin_gtr, bin_geq, bin_eql, bin_neq, bin_add, bin_sub, bin_mul, un_not, str_eql, str_neq, app_push, app_stk, app_tk, app_lp, load_app, load_app0, load_fp, store_app, store_app0, leave_app, leave_app0, AM.ownPut, AM.cellsOf, AM.shift, aPick, fin_v, fin_sl, beq_true, okSz, List.length_cons, List.length_nil, Nat.zero_add, Nat.add_zero, Nat.reduceAdd, decide_true, decide_false, Bool.and_true, Bool.true_and, Bool.and_self, Bool.not_true, Bool.not_false, List.getElem?_cons_zero, List.getElem?_cons_succ, List.nil_append, List.cons_append, hpp_app, hpp_stk, hpp_tk, hpp_lp, hpp_hp, app_lpadd, hload, hload0, hloadh, hstore, hstore0, hleave, hleave0, hfin_v, hfin_sl, hback, hloop, hsetlp, max_int, min_int, hstore_v, hstore_v0, hstore_s, hstore_d, modify_concat, part1, hbackt, hbackl, hback0, List.take_succ_cons, List.take_left, List.take_zero, List.take_nil, len_22, ints_len, hla]
theorem tr2 (hla : ¬ (a.length : Int) > 400) (hlb : (b.length : Int) > 400) : E L (.func 3) [.sl (ints a) .dead, .sl (ints b) .dead] s = some (.v (.bool true), (s.hpp hs).app [] [] []) := by
  rw [S3_eq]
  simp [S3, ha, canon_v, canon_sl, canon_clo, canon_ptr, need_refl, elems_sl, sf_v, sf_sl, sf_ptr, sf_ptrh, sf_clo, sf_dead, sf_nil, sf_full, sf_fr, need_true, ibeq, beq_ba, nbeq, nble, nblt, AM.nth, List.getD_cons_succ, List.getD_cons_zero, Option.bind_some, Option.bind_none, Option.map_some, onBool, AM.onG, onFn, seqK, retK, Ex.outOf, cond_true, cond_false, bin_lss, bin_leq, bin_gtr, bin_geq, bin_eql, bin_neq, bin_add, bin_sub, bin_mul, un_not, str_eql, str_neq, app_push, app_stk, app_tk, app_lp, load_app, load_app0, load_fp, store_app, store_app0, leave_app, leave_app0, AM.ownPut, AM.cellsOf, AM.shift, aPick, fin_v, fin_sl, beq_true, okSz, List.length_cons, List.length_nil, Nat.zero_add, Nat.add_zero, Nat.reduceAdd, decide_true, decide_false, Bool.and_true, Bool.true_and, Bool.and_self, Bool.not_true, Bool.not_false, List.getElem?_cons_zero, List.getElem?_cons_succ, List.nil_append, List.cons_append, hpp_app, hpp_stk, hpp_tk, hpp_lp, hpp_hp, app_lpadd, hload, hload0, hloadh, hstore, hstore0, hleave, hleave0, hfin_v, hfin_sl, hback, hloop, hsetlp, max_int, min_int, hstore_v, hstore_v0, hstore_s, hstore_d, modify_concat, part1, hbackt, hbackl, hback0, List.take_succ_cons, List.take_left, List.take_zero, List.take_nil, len_22, ints_len, hla, hlb]
variable {P Q : List PV} (hla : ¬ (a.length : Int) > 400) (hlb : ¬ (b.length : Int) > 400) (hp : ∀ st, E L (.func 8) [.sl (ints a) .dead] st = some (.agg P, st)) (hq : ∀ st, E L (.func 8) [.sl (ints b) .dead] st = some (.agg Q, st))
  (pok : okCells P = true) (qok : okCells Q = true) (pl : P.length = 4) (ql : Q.length = 4)
include hla hlb hp hq pok qok pl ql
theorem tr3 (p3 : AM.part false 1 3 P = some (.sl [] .dead)) : E L (.func 3) [.sl (ints a) .dead, .sl (ints b) .dead] s = some (.v (.bool true), (s.hpp hs).app [] [] []) := by
  rw [S3_eq]
  simp [S3, ha, canon_v, canon_sl, canon_clo, canon_ptr, need_refl, elems_sl, sf_v, sf_sl, sf_ptr, sf_ptrh, sf_clo, sf_dead, sf_nil, sf_full, sf_fr, need_true, ibeq, beq_ba, nbeq, nble, nblt, AM.nth, List.getD_cons_succ, List.getD_cons_zero, Option.bind_some, Option.bind_none, Option.map_some, onBool, AM.onG, onFn, seqK, retK, Ex.outOf, cond_true, cond_false, bin_lss, bin_leq, bin_gtr, bin_geq, bin_eql, bin_neq, bin_add, bin_sub, bin_mul, un_not, str_eql, str_neq, app_push, app_stk, app_tk, app_lp, load_app, load_app0, load_fp, store_app, store_app0, leave_app, leave_app0, AM.ownPut, AM.cellsOf, AM.shift, aPick, fin_v, fin_sl, beq_true, okSz, List.length_cons, List.length_nil, Nat.zero_add, Nat.add_zero, Nat.reduceAdd, decide_true, decide_false, Bool.and_true, Bool.true_and, Bool.and_self, Bool.not_true, Bool.not_false, List.getElem?_cons_zero, List.getElem?_cons_succ, List.nil_append, List.cons_append, hpp_app, hpp_stk, hpp_tk, hpp_lp, hpp_hp, app_lpadd, hload, hload0, hloadh, hstore, hstore0, hleave, hleave0, hfin_v, hfin_sl, hback, hloop, hsetlp, max_int, min_int, hstore_v, hstore_v0, hstore_s, hstore_d, modify_concat, part1, hbackt, hbackl, hback0, List.take_succ_cons, List.take_left, List.take_zero, List.take_nil, len_22, ints_len, hla, hlb, hp, hq, pl, pok, laid0, ql, qok, p3, len_27]
theorem tr4 {t : List PV} {ts : List (List PV)} (p3 : AM.part false 1 3 P = some (.sl (t :: ts) .dead)) (q3 : AM.part false 1 3 Q = some (.sl [] .dead)) : E L (.func 3) [.sl (ints a) .dead, .sl (ints b) .dead] s = some (.v (.bool true), (s.hpp hs).app [] [] []) := by
  have n0 : ∀ n : Nat, ((n : Int) + 1 = 0) = False := fun n => by simp; omega
  rw [S3_eq]
  simp [S3, ha, canon_v, canon_sl, canon_clo, canon_ptr, need_refl, elems_sl, sf_v, sf_sl, sf_ptr, sf_ptrh, sf_clo, sf_dead, sf_nil, sf_full, sf_fr, need_true, ibeq, beq_ba, nbeq, nble, nblt, AM.nth, List.getD_cons_succ, List.getD_cons_zero, Option.bind_some, Option.bind_none, Option.map_some, onBool, AM.onG, onFn, seqK, retK, Ex.outOf, cond_true, cond_false, bin_lss, bin_leq, bin_gtr, bin_geq, bin_eql, bin_neq, bin_add, bin_sub, bin_mul, un_not, str_eql, str_neq, app_push, app_stk, app_tk, app_lp, load_app, load_app0, load_fp, store_app, store_app0, leave_app, leave_app0, AM.ownPut, AM.cellsOf, AM.shift, aPick, fin_v, fin_sl, beq_true, okSz, List.length_cons, List.length_nil, Nat.zero_add, Nat.add_zero, Nat.reduceAdd, decide_true, decide_false, Bool.and_true, Bool.true_and, Bool.and_self, Bool.not_true, Bool.not_false, List.getElem?_cons_zero, List.getElem?_cons_succ, List.nil_append, List.cons_append, hpp_app, hpp_stk, hpp_tk, hpp_lp, hpp_hp, app_lpadd, hload, hload0, hloadh, hstore, hstore0, hleave, hleave0, hfin_v, hfin_sl, hback, hloop, hsetlp, max_int, min_int, hstore_v, hstore_v0, hstore_s, hstore_d, modify_concat, part1, hbackt, hbackl, hback0, List.take_succ_cons, List.take_left, List.take_zero, List.take_nil, len_22, ints_len, hla, hlb, hp, hq, pl, pok, laid0, ql, qok, p3, q3, len_27, n0]
end
end Go.Proofs.Ytkbhejcfejembaa.S

/- Trees: Calls. No condition. -/
namespace Go.Proofs.Ytkbhejcfejembaa.S
open Go Go.AM Go.Proofs
set_option linter.unusedVariables false
set_option linter.unusedSimpArgs false
set_option maxHeartbeats 4000000

/-- The names of the calls among so many statements. -/
def calls : List (S × Int) → List ByteArray
  | [] => []
  | y :: W => if y.1.op = 11 then y.1.name :: calls W else calls W
theorem calls_app : ∀ V W : List (S × Int), calls (V ++ W) = calls V ++ calls W
  | [], W => rfl
  | y :: V, W => by
    simp only [List.cons_append, calls, calls_app V W]
    split <;> simp
theorem calls_len : ∀ W : List (S × Int), (calls W).length ≤ W.length
  | [] => Nat.le_refl _
  | y :: W => by
    have := calls_len W
    simp only [calls]
    split <;> simp <;> omega
section
variable (s : St) (hs : List Blk)
/-- The block in which the row grows, with its own room. -/
def ablk (B : Nat) (acc : List ByteArray) : Blk := match acc with
  | [] => ⟨[.sl [] .nil], []⟩
  | a :: rs => ⟨[.sl (strs (a :: rs)) (.own (.bl false B) 0 (rs.length + 1))], [(rs.length + 1, 1)]⟩
def acap (B : Nat) (acc : List ByteArray) : Cap := match acc with
  | [] => .nil
  | a :: rs => .own (.bl false B) 0 (rs.length + 1)
theorem ablk_cs (B : Nat) (acc : List ByteArray) : (ablk B acc).cs = [.sl (strs acc) (acap B acc)] := by cases acc <;> rfl

theorem mid_get {α : Type} (l : List α) (b : α) (r : List α) : (l ++ b :: r)[l.length]? = some b := by simp
theorem mid_mod {α : Type} (l : List α) (b : α) (r : List α) (f : α → α) : (l ++ b :: r).modify l.length f = l ++ f b :: r := by
  induction l with
  | nil => rfl
  | cons a l ih => simp only [List.cons_append, List.length_cons, List.modify_succ_cons, ih]
theorem grow_blk (acc : List ByteArray) (x : ByteArray) (hl : acc.length ≤ 1000000) (bl : List Blk) (lp : List Aux) (base : Nat) (hb : s.stk.length < base) (z : List PV) :
    ∃ v st1 tk', rAppend base z 1 16 (.sl (strs acc) (acap s.stk.length acc)) [[str x]] ((s.hpp hs).app (ablk s.stk.length acc :: bl) [] lp) = some (v, st1) ∧
      aStore base 1 (.ptr false s.stk.length 0) v st1 = some ((s.hpp hs).app (ablk s.stk.length (acc ++ [x]) :: bl) tk' lp) := by
  have hblt : Nat.blt s.stk.length base = true := by rw [nblt]; simp [hb]
  have hlen : Nat.ble ((acc.length + 1) * 16) maxLenB = true := by rw [Nat.ble_eq]; simp only [maxLenB]; omega
  cases acc with
  | nil =>
    refine ⟨.sl [[str x]] (.own .fr s.tk.length 1), (s.hpp hs).app (ablk s.stk.length [] :: bl) [(1, 1)] lp, [(2, 1)], ?_, ?_⟩
    · have e := append_fresh (sz := 1) (bytes := 16) (es := []) (ys := [[str x]]) (c := .nil) (s.hpp hs) (ablk s.stk.length [] :: bl) [] lp base z (.inl rfl) (by show 16 ≤ maxLenB; decide) rfl rfl (by decide) (by decide)
      exact e
    · have ht : (s.tk ++ [(1, 1)])[s.tk.length]? = some (1, 1) := by simp
      simp only [aStore, AM.cellsOf, Option.bind_some, List.length_cons, List.length_nil, putCells, St.blk, St.bk, St.app, St.hpp, mid_get, ablk, Option.map_some, okCells, moveCs, moveC, Ow.is, St.tok, ht, hblt, St.ntok, St.setTok, St.pushBTok, St.upB, mid_mod, St.setBlk, laid, List.set_cons_zero, List.nil_append, List.append_nil]
      simp [strs, nbeq, nble, mid_mod, laid]
  | cons a rs =>
    refine ⟨.sl (strs ((a :: rs) ++ [x])) (.own (.bl false s.stk.length) 0 (rs.length + 2)), (s.hpp hs).app (⟨[.sl (strs (a :: rs)) (.own (.bl false s.stk.length) 0 (rs.length + 1))], [(rs.length + 2, 1)]⟩ :: bl) [] lp, [], ?_, ?_⟩
    · have h1 : Nat.ble (((strs (a :: rs)).length + [[str x]].length) * 16) maxLenB = true := by rw [strs_len]; exact hlen
      have h2 : okSz 1 [[str x]] = true := rfl
      simp only [rAppend, aAppend, acap, h1, strs_ok, h2, St.tok, St.bk, St.app, St.hpp, mid_get, ablk, Option.bind_some, List.getElem?_cons_zero, Nat.beq_refl, Bool.and_self, Bool.and_true, cond_true, St.setTok, St.upB, mid_mod, List.set_cons_zero]
      simp [strs, Nat.beq]
    · simp only [aStore, AM.cellsOf, Option.bind_some, List.length_cons, List.length_nil, putCells, St.blk, St.bk, St.app, St.hpp, mid_get, ablk, Option.map_some, okCells, moveCs, moveC, Ow.is, eqB, Nat.beq_refl, hblt, St.setBlk, St.upB, mid_mod, laid, List.set_cons_zero, List.cons_append]
      simp [nbeq, nble, mid_mod, laid]

noncomputable def kst (W : List (S × Int)) (n : Nat) : St := (s.hpp hs).app [ablk s.stk.length (calls (W.take n))] [] [.loop (S20.lp0 [.ptr false s.stk.length 0])]
theorem calls_rnd (W : List (S × Int)) (hl : W.length ≤ 1000000) (n : Nat) (x : S) (d : Int) (bl : List Blk) (h : W[n]? = some (x, d)) :
    E L (.yield s.lp.length) [int d, .agg x.enc] ((kst s hs W n).app bl [] []) = some (.v (.bool true), (kst s hs W (n + 1)).app bl [] []) := by
  have hst : ∀ n bl, (kst s hs W n).app bl [] [] = (s.hpp hs).app (ablk s.stk.length (calls (W.take n)) :: bl) [] [.loop (S20.lp0 [.ptr false s.stk.length 0])] := fun n bl => by simp [kst, St.app]
  have hm : calls (W.take (n + 1)) = calls (W.take n) ++ (if x.op = 11 then [x.name] else []) := by
    rw [List.take_add_one, h, calls_app]; simp only [Option.toList, calls]
  have hcl := calls_len (W.take n)
  have htl : (W.take n).length ≤ 1000000 := by rw [List.length_take]; omega
  rw [hst, hst, S20.r0_eq (hloop ..), hm]
  generalize calls (W.take n) = acc at *
  have hcs := ablk_cs s.stk.length acc
  by_cases ho : x.op = 11
  · rw [if_pos ho]
    obtain ⟨v, st1, tk', g1, g2⟩ := grow_blk s hs acc x.name (by omega) (bl ++ [⟨x.enc, []⟩]) [.loop { S20.lp0 [.ptr false s.stk.length 0] with at_ := 1 }] (s.stk.length + (bl.length + 1)) (by omega) [.v (.string ⟨#[]⟩)]
    have bb : rBuildSlice 1 [.v (.string ⟨#[]⟩)] 1 [(0, str x.name)] = some (.sl [[str x.name]] .full) := rfl
    simp only [S20.lp0] at g1 g2
    simp [S20.r0, canon_v, canon_sl, canon_clo, canon_ptr, need_refl, elems_sl, sf_v, sf_sl, sf_ptr, sf_ptrh, sf_clo, sf_dead, sf_nil, sf_full, sf_fr, need_true, ibeq, beq_ba, nbeq, nble, nblt, AM.nth, List.getD_cons_succ, List.getD_cons_zero, Option.bind_some, Option.bind_none, Option.map_some, onBool, AM.onG, onFn, seqK, retK, Ex.outOf, cond_true, cond_false, bin_lss, bin_leq, bin_gtr, bin_geq, bin_eql, bin_neq, bin_add, bin_sub, bin_mul, un_not, str_eql, str_neq, app_push, app_stk, app_tk, app_lp, load_app, load_app0, load_fp, store_app, store_app0, leave_app, leave_app0, AM.ownPut, AM.cellsOf, AM.shift, aPick, fin_v, fin_sl, beq_true, okSz, List.length_cons, List.length_nil, Nat.zero_add, Nat.add_zero, Nat.reduceAdd, decide_true, decide_false, Bool.and_true, Bool.true_and, Bool.and_self, Bool.not_true, Bool.not_false, List.getElem?_cons_zero, List.getElem?_cons_succ, List.nil_append, List.cons_append, hpp_app, hpp_stk, hpp_tk, hpp_lp, hpp_hp, app_lpadd, hload, hload0, hloadh, hstore, hstore0, hleave, hleave0, hfin_v, hfin_sl, hback, hloop, hsetlp, max_int, min_int, hstore_v, hstore_v0, hstore_s, hstore_d, modify_concat, part1, hbackt, hbackl, hback0, List.take_succ_cons, List.take_left, List.take_zero, List.take_nil, S.still, S.len, S.okc, laid0, beginR, S20.lp0, S.p0_1, ho, hcs, S.p1_1, bb, g1, g2, finR, isNormal]


  · rw [if_neg ho, List.append_nil]
    simp [S20.r0, canon_v, canon_sl, canon_clo, canon_ptr, need_refl, elems_sl, sf_v, sf_sl, sf_ptr, sf_ptrh, sf_clo, sf_dead, sf_nil, sf_full, sf_fr, need_true, ibeq, beq_ba, nbeq, nble, nblt, AM.nth, List.getD_cons_succ, List.getD_cons_zero, Option.bind_some, Option.bind_none, Option.map_some, onBool, AM.onG, onFn, seqK, retK, Ex.outOf, cond_true, cond_false, bin_lss, bin_leq, bin_gtr, bin_geq, bin_eql, bin_neq, bin_add, bin_sub, bin_mul, un_not, str_eql, str_neq, app_push, app_stk, app_tk, app_lp, load_app, load_app0, load_fp, store_app, store_app0, leave_app, leave_app0, AM.ownPut, AM.cellsOf, AM.shift, aPick, fin_v, fin_sl, beq_true, okSz, List.length_cons, List.length_nil, Nat.zero_add, Nat.add_zero, Nat.reduceAdd, decide_true, decide_false, Bool.and_true, Bool.true_and, Bool.and_self, Bool.not_true, Bool.not_false, List.getElem?_cons_zero, List.getElem?_cons_succ, List.nil_append, List.cons_append, hpp_app, hpp_stk, hpp_tk, hpp_lp, hpp_hp, app_lpadd, hload, hload0, hloadh, hstore, hstore0, hleave, hleave0, hfin_v, hfin_sl, hback, hloop, hsetlp, max_int, min_int, hstore_v, hstore_v0, hstore_s, hstore_d, modify_concat, part1, hbackt, hbackl, hback0, List.take_succ_cons, List.take_left, List.take_zero, List.take_nil, S.still, S.len, S.okc, laid0, beginR, S20.lp0, S.p0_1, ho, finR, isNormal]

theorem calls_st (xs : List S) (hz : sszs xs ≤ 100000) (s : St) (hs : List Blk) :
    E L (.func 20) [.sl (sencs xs) .dead] ((s.hpp hs).app [] [] []) = some (.sl (strs (calls (flats xs 0))) .dead, (s.hpp (hs ++ [⟨[.sl (sencs xs) .dead], []⟩])).app [] [] []) := by
  have hl := flats_len xs 0
  let hs' := hs ++ [⟨[.sl (sencs xs) .dead], []⟩]
  have hw := walk_ev (W := flats xs 0) (i := s.lp.length) (go := fun _ => true) (s.stk.length + 1) s.tk.length (s.lp.length + 1) (kst s hs' (flats xs 0))
    (fun n => by simp [kst, app_stk, hpp_stk]) (fun n => by simp [kst, app_tk, hpp_tk]) (fun n => by simp [kst, app_lp, hpp_lp]) (fun n x' d bl _ h => calls_rnd s hs' _ (by omega) n x' d bl h)
    1000000 xs (by omega) (Nat.le_refl _) 0 (Int.le_refl _) (by omega) 0 [] (fun m hm => absurd hm (Nat.not_lt_zero _)) (fun j hj => by rw [Nat.zero_add])
  rw [run_all, Nat.zero_add] at hw
  have h45 := all1_ev (st := kst s hs' (flats xs 0) 0) (b := s.hp.length + hs.length) (i := s.lp.length) (xs := xs) (by rw [kst, hpp_blk]; simp [hs']) (by simpa [app_nil] using hw) (by simp [kst, app_stk, hpp_stk]) (by simp [kst, app_tk, hpp_tk]) (by simp [kst, app_lp, hpp_lp])
  simp only [kst, hs', List.take_zero, List.take_length] at h45
  have hall := all_ev xs
  have e0 : calls [] = [] := rfl
  have e1 : ablk s.stk.length [] = ⟨[.sl [] .nil], []⟩ := rfl
  rw [e0, e1] at h45
  have hcs := ablk_cs s.stk.length (calls (flats xs 0))
  rw [S20_eq]
  simp [S20, canon_v, canon_sl, canon_clo, canon_ptr, need_refl, elems_sl, sf_v, sf_sl, sf_ptr, sf_ptrh, sf_clo, sf_dead, sf_nil, sf_full, sf_fr, need_true, ibeq, beq_ba, nbeq, nble, nblt, AM.nth, List.getD_cons_succ, List.getD_cons_zero, Option.bind_some, Option.bind_none, Option.map_some, onBool, AM.onG, onFn, seqK, retK, Ex.outOf, cond_true, cond_false, bin_lss, bin_leq, bin_gtr, bin_geq, bin_eql, bin_neq, bin_add, bin_sub, bin_mul, un_not, str_eql, str_neq, app_push, app_stk, app_tk, app_lp, load_app, load_app0, load_fp, store_app, store_app0, leave_app, leave_app0, AM.ownPut, AM.cellsOf, AM.shift, aPick, fin_v, fin_sl, beq_true, okSz, List.length_cons, List.length_nil, Nat.zero_add, Nat.add_zero, Nat.reduceAdd, decide_true, decide_false, Bool.and_true, Bool.true_and, Bool.and_self, Bool.not_true, Bool.not_false, List.getElem?_cons_zero, List.getElem?_cons_succ, List.nil_append, List.cons_append, hpp_app, hpp_stk, hpp_tk, hpp_lp, hpp_hp, app_lpadd, hload, hload0, hloadh, hstore, hstore0, hleave, hleave0, hfin_v, hfin_sl, hback, hloop, hsetlp, max_int, min_int, hstore_v, hstore_v0, hstore_s, hstore_d, modify_concat, part1, hbackt, hbackl, hback0, List.take_succ_cons, List.take_left, List.take_zero, List.take_nil, hall, plainFn]
  rw [h45]
  simp [canon_v, canon_sl, canon_clo, canon_ptr, need_refl, elems_sl, sf_v, sf_sl, sf_ptr, sf_ptrh, sf_clo, sf_dead, sf_nil, sf_full, sf_fr, need_true, ibeq, beq_ba, nbeq, nble, nblt, AM.nth, List.getD_cons_succ, List.getD_cons_zero, Option.bind_some, Option.bind_none, Option.map_some, onBool, AM.onG, onFn, seqK, retK, Ex.outOf, cond_true, cond_false, bin_lss, bin_leq, bin_gtr, bin_geq, bin_eql, bin_neq, bin_add, bin_sub, bin_mul, un_not, str_eql, str_neq, app_push, app_stk, app_tk, app_lp, load_app, load_app0, load_fp, store_app, store_app0, leave_app, leave_app0, AM.ownPut, AM.cellsOf, AM.shift, aPick, fin_v, fin_sl, beq_true, okSz, List.length_cons, List.length_nil, Nat.zero_add, Nat.add_zero, Nat.reduceAdd, decide_true, decide_false, Bool.and_true, Bool.true_and, Bool.and_self, Bool.not_true, Bool.not_false, List.getElem?_cons_zero, List.getElem?_cons_succ, List.nil_append, List.cons_append, hpp_app, hpp_stk, hpp_tk, hpp_lp, hpp_hp, app_lpadd, hload, hload0, hloadh, hstore, hstore0, hleave, hleave0, hfin_v, hfin_sl, hback, hloop, hsetlp, max_int, min_int, hstore_v, hstore_v0, hstore_s, hstore_d, modify_concat, part1, hbackt, hbackl, hback0, List.take_succ_cons, List.take_left, List.take_zero, List.take_nil, endLp, S20.lp0, hcs]
end
end Go.Proofs.Ytkbhejcfejembaa.S

/- Trees: the statement TreeAll's loops. No condition. -/
namespace Go.Proofs.Ytkbhejcfejembaa.S
open Go Go.AM Go.Proofs
set_option linter.unusedVariables false
set_option linter.unusedSimpArgs false
set_option maxHeartbeats 8000000

theorem mx_app (V W : List (S × Int)) (m : Int) : mx (V ++ W) m = mx W (mx V m) := by simp [mx, List.foldl_append]
theorem deep_loop (s : St) (hs : List Blk) (pb : Blk) (hpb : pb.cs.all (sf true (s.stk.length + 1) 4) = true) (W : List (S × Int)) (hl : W.length ≤ 100000) (most n : Int) (x0 R : List (List PV)) (cr : Cap) (hcr : ∀ m, cr.sf true m = true) (rl ri : Int) :
    ∀ (V p : List (S × Int)) (acc : List ByteArray) (c : Cap) (tk : List (Nat × Nat)) (m : Int), W = p ++ V → acc.length + V.length ≤ 1000000 → Own (s.hpp hs) tk c (strs acc).length 1 →
    ∃ (j : Int) (c' : Cap) (tk' : List (Nat × Nat)), itE (S6.b3 (E L) itE s.stk.length s.lp.length) [int most, .v (.bool false), .ptr false s.stk.length 0, int n, int m, .sl x0 .dead, .sl (ds W) .dead, .sl (strs acc) c, .sl R cr, int rl, int ri, .sl (ss W) .dead, int W.length, int p.length] ((s.hpp hs).app [pb] tk []) =
      some (.exit 6, [int most, .v (.bool false), .ptr false s.stk.length 0, int n, int (mx V m), .sl x0 .dead, .sl (ds W) .dead, .sl (strs (acc ++ calls V)) c', .sl R cr, int rl, int ri, .sl (ss W) .dead, int W.length, int j], (s.hpp hs).app [pb] tk' [])
  | [], p, acc, c, tk, m, hx, ha, ho => by
    have e : W.length = p.length := by rw [hx]; simp
    refine ⟨p.length, c, tk, ?_⟩
    rw [itE_eq]
    simp [S6.b3, canon_v, canon_sl, canon_clo, canon_ptr, need_refl, elems_sl, sf_v, sf_sl, sf_ptr, sf_ptrh, sf_clo, sf_dead, sf_nil, sf_full, sf_fr, need_true, ibeq, beq_ba, nbeq, nble, nblt, AM.nth, List.getD_cons_succ, List.getD_cons_zero, Option.bind_some, Option.bind_none, Option.map_some, onBool, AM.onG, onFn, seqK, retK, Ex.outOf, cond_true, cond_false, bin_lss, bin_leq, bin_gtr, bin_geq, bin_eql, bin_neq, bin_add, bin_sub, bin_mul, un_not, str_eql, str_neq, app_push, app_stk, app_tk, app_lp, load_app, load_app0, load_fp, store_app, store_app0, leave_app, leave_app0, AM.ownPut, AM.cellsOf, AM.shift, aPick, fin_v, fin_sl, beq_true, okSz, List.length_cons, List.length_nil, Nat.zero_add, Nat.add_zero, Nat.reduceAdd, decide_true, decide_false, Bool.and_true, Bool.true_and, Bool.and_self, Bool.not_true, Bool.not_false, List.getElem?_cons_zero, List.getElem?_cons_succ, List.nil_append, List.cons_append, hpp_app, hpp_stk, hpp_tk, hpp_lp, hpp_hp, app_lpadd, hload, hload0, hloadh, hstore, hstore0, hleave, hleave0, hfin_v, hfin_sl, hback, hloop, hsetlp, max_int, min_int, hstore_v, hstore_v0, hstore_s, hstore_d, modify_concat, part1, hbackt, hbackl, hback0, List.take_succ_cons, List.take_left, List.take_zero, List.take_nil, e, calls, mx, ho.sfc, hcr, hpb]
  | (x, d) :: V, p, acc, c, tk, m, hx, ha, ho => by
    have hlt : (p.length : Int) < (W.length : Int) := by rw [hx]; simp; omega
    have hW : W[p.length]? = some (x, d) := by rw [hx]; simp
    have g1 := ss_get hW
    have g2 := ds_get hW
    have r1 : inRange (p.length : Int) W.length = true := by rw [hx]; exact inR p (x, d) V
    have hpl : p.length < W.length := by rw [hx]; simp
    have w1 : IntKind.i64.wrap ((p.length : Int) + 1) = (p.length : Int) + 1 := IntWalk.i64_in _ (by omega)
    have bb : rBuildSlice 1 [.v (.string ⟨#[]⟩)] 1 [(0, str x.name)] = some (.sl (strs [x.name]) .full) := rfl
    simp only [List.length_cons] at ha
    by_cases ho11 : x.op = 11
    · obtain ⟨c1, tk1, e1, o1⟩ := app_own (ys := strs [x.name]) (bytes := 16) ho (by simp only [strs_len, maxLenB, List.length_cons, List.length_nil]; omega) (strs_ok _) (strs_ok _) (by decide) (by decide)
      rw [strs_app] at e1 o1
      obtain ⟨j, c2, tk2, h2⟩ := deep_loop s hs pb hpb W hl most n x0 R cr hcr rl ri V (p ++ [(x, d)]) (acc ++ [x.name]) c1 tk1 (if d > m then d else m) (by simp [hx]) (by simp; omega) o1
      refine ⟨j, c2, tk2, ?_⟩
      have ec : calls ((x, d) :: V) = x.name :: calls V := by simp [calls, ho11]
      rw [ec, show acc ++ x.name :: calls V = acc ++ [x.name] ++ calls V by simp, show mx ((x, d) :: V) m = mx V (if d > m then d else m) from rfl, ← h2]
      refine it_step ?_
      generalize acc ++ [x.name] = acc' at e1 o1
      simp [S6.b3, canon_v, canon_sl, canon_clo, canon_ptr, need_refl, elems_sl, sf_v, sf_sl, sf_ptr, sf_ptrh, sf_clo, sf_dead, sf_nil, sf_full, sf_fr, need_true, ibeq, beq_ba, nbeq, nble, nblt, AM.nth, List.getD_cons_succ, List.getD_cons_zero, Option.bind_some, Option.bind_none, Option.map_some, onBool, AM.onG, onFn, seqK, retK, Ex.outOf, cond_true, cond_false, bin_lss, bin_leq, bin_gtr, bin_geq, bin_eql, bin_neq, bin_add, bin_sub, bin_mul, un_not, str_eql, str_neq, app_push, app_stk, app_tk, app_lp, load_app, load_app0, load_fp, store_app, store_app0, leave_app, leave_app0, AM.ownPut, AM.cellsOf, AM.shift, aPick, fin_v, fin_sl, beq_true, okSz, List.length_cons, List.length_nil, Nat.zero_add, Nat.add_zero, Nat.reduceAdd, decide_true, decide_false, Bool.and_true, Bool.true_and, Bool.and_self, Bool.not_true, Bool.not_false, List.getElem?_cons_zero, List.getElem?_cons_succ, List.nil_append, List.cons_append, hpp_app, hpp_stk, hpp_tk, hpp_lp, hpp_hp, app_lpadd, hload, hload0, hloadh, hstore, hstore0, hleave, hleave0, hfin_v, hfin_sl, hback, hloop, hsetlp, max_int, min_int, hstore_v, hstore_v0, hstore_s, hstore_d, modify_concat, part1, hbackt, hbackl, hback0, List.take_succ_cons, List.take_left, List.take_zero, List.take_nil, hlt, ia_31, ia_22, ss_len, ds_len, r1, g1, g2, S.len, S.whole, S.okc, S.still, laid0, S.p0_1, ho11, S.p1_1, bb, e1, w1, o1.sfc, hcr, hpb]
    · obtain ⟨j, c2, tk2, h2⟩ := deep_loop s hs pb hpb W hl most n x0 R cr hcr rl ri V (p ++ [(x, d)]) acc c tk (if d > m then d else m) (by simp [hx]) (by omega) ho
      refine ⟨j, c2, tk2, ?_⟩
      have ec : calls ((x, d) :: V) = calls V := by simp [calls, ho11]
      rw [ec, show mx ((x, d) :: V) m = mx V (if d > m then d else m) from rfl, ← h2]
      refine it_step ?_
      simp [S6.b3, canon_v, canon_sl, canon_clo, canon_ptr, need_refl, elems_sl, sf_v, sf_sl, sf_ptr, sf_ptrh, sf_clo, sf_dead, sf_nil, sf_full, sf_fr, need_true, ibeq, beq_ba, nbeq, nble, nblt, AM.nth, List.getD_cons_succ, List.getD_cons_zero, Option.bind_some, Option.bind_none, Option.map_some, onBool, AM.onG, onFn, seqK, retK, Ex.outOf, cond_true, cond_false, bin_lss, bin_leq, bin_gtr, bin_geq, bin_eql, bin_neq, bin_add, bin_sub, bin_mul, un_not, str_eql, str_neq, app_push, app_stk, app_tk, app_lp, load_app, load_app0, load_fp, store_app, store_app0, leave_app, leave_app0, AM.ownPut, AM.cellsOf, AM.shift, aPick, fin_v, fin_sl, beq_true, okSz, List.length_cons, List.length_nil, Nat.zero_add, Nat.add_zero, Nat.reduceAdd, decide_true, decide_false, Bool.and_true, Bool.true_and, Bool.and_self, Bool.not_true, Bool.not_false, List.getElem?_cons_zero, List.getElem?_cons_succ, List.nil_append, List.cons_append, hpp_app, hpp_stk, hpp_tk, hpp_lp, hpp_hp, app_lpadd, hload, hload0, hloadh, hstore, hstore0, hleave, hleave0, hfin_v, hfin_sl, hback, hloop, hsetlp, max_int, min_int, hstore_v, hstore_v0, hstore_s, hstore_d, modify_concat, part1, hbackt, hbackl, hback0, List.take_succ_cons, List.take_left, List.take_zero, List.take_nil, hlt, ia_31, ia_22, ss_len, ds_len, r1, g1, g2, S.len, S.whole, S.okc, S.still, laid0, S.p0_1, ho11, w1, ho.sfc, hcr, hpb]

theorem calls_ev (xs : List S) (hz : sszs xs ≤ 100000) (st : St) :
    E L (.func 20) [.sl (sencs xs) .dead] st = some (.sl (strs (calls (flats xs 0))) .dead, st.hpp [⟨[.sl (sencs xs) .dead], []⟩]) := by
  have := calls_st xs hz st []
  simpa [hpp_nil, app_nil] using this
theorem rows_loop (s : St) (pb : Blk) (hpb : pb.cs.all (sf true (s.stk.length + 1) 4) = true) (most : Int) (R : List (List S)) (hR : R.length ≤ 1000) (hz : ∀ b ∈ R, sszs b ≤ 10000) (cr : Cap) (hcr : ∀ m, cr.sf true m = true) :
    ∀ (xs p : List (List S)) (hs : List Blk) (tk : List (Nat × Nat)) (n : Nat) (m : Int), R = p ++ xs → n + tot xs ≤ 1000000 →
    ∃ (j : Int) (hs' : List Blk) (tk' : List (Nat × Nat)), itE (S6.b2 (E L) itE s.stk.length s.lp.length) [int most, .v (.bool false), .ptr false s.stk.length 0, int n, int m, .sl (rowsE R) cr, int R.length, int p.length] ((s.hpp hs).app [pb] tk []) =
      some (.exit 4, [int most, .v (.bool false), .ptr false s.stk.length 0, int (n + tot xs : Nat), int (mxs xs m), .sl (rowsE R) cr, int R.length, int j], (s.hpp hs').app [pb] tk' [])
  | [], p, hs, tk, n, m, hx, hb => by
    have e : R.length = p.length := by rw [hx]; simp
    refine ⟨p.length, hs, tk, ?_⟩
    rw [itE_eq]
    simp [S6.b2, canon_v, canon_sl, canon_clo, canon_ptr, need_refl, elems_sl, sf_v, sf_sl, sf_ptr, sf_ptrh, sf_clo, sf_dead, sf_nil, sf_full, sf_fr, need_true, ibeq, beq_ba, nbeq, nble, nblt, AM.nth, List.getD_cons_succ, List.getD_cons_zero, Option.bind_some, Option.bind_none, Option.map_some, onBool, AM.onG, onFn, seqK, retK, Ex.outOf, cond_true, cond_false, bin_lss, bin_leq, bin_gtr, bin_geq, bin_eql, bin_neq, bin_add, bin_sub, bin_mul, un_not, str_eql, str_neq, app_push, app_stk, app_tk, app_lp, load_app, load_app0, load_fp, store_app, store_app0, leave_app, leave_app0, AM.ownPut, AM.cellsOf, AM.shift, aPick, fin_v, fin_sl, beq_true, okSz, List.length_cons, List.length_nil, Nat.zero_add, Nat.add_zero, Nat.reduceAdd, decide_true, decide_false, Bool.and_true, Bool.true_and, Bool.and_self, Bool.not_true, Bool.not_false, List.getElem?_cons_zero, List.getElem?_cons_succ, List.nil_append, List.cons_append, hpp_app, hpp_stk, hpp_tk, hpp_lp, hpp_hp, app_lpadd, hload, hload0, hloadh, hstore, hstore0, hleave, hleave0, hfin_v, hfin_sl, hback, hloop, hsetlp, max_int, min_int, hstore_v, hstore_v0, hstore_s, hstore_d, modify_concat, part1, hbackt, hbackl, hback0, List.take_succ_cons, List.take_left, List.take_zero, List.take_nil, e, tot, mxs, hcr, hpb]
  | x :: xs, p, hs, tk, n, m, hx, hb => by
    have hlt : (p.length : Int) < (R.length : Int) := by rw [hx]; simp; omega
    have g1 : (rowsE R)[p.length]? = some [.sl (sencs x) .dead] := by rw [hx]; exact map_get _ p x xs
    have r1 : inRange (p.length : Int) R.length = true := by rw [hx]; exact inR p x xs
    have hpl : p.length < R.length := by rw [hx]; simp
    have w1 : IntKind.i64.wrap ((p.length : Int) + 1) = (p.length : Int) + 1 := IntWalk.i64_in _ (by omega)
    have hzx := hz x (by rw [hx]; simp)
    have hl := flats_len x 0
    have htot : tot (x :: xs) = (flats x 0).length + tot xs := by simp [tot]
    have w2 : IntKind.i64.wrap ((n : Int) + ((flats x 0).length : Int)) = ((n + (flats x 0).length : Nat) : Int) := by rw [IntWalk.i64_in _ (by omega)]; omega
    have q1 := gone_st x (by omega) most
    have q2 := gone_st x (by omega) 1000
    have q3 := flat_ev 1000000 x (by omega) (Nat.le_refl _) 0 (Int.le_refl _) (by omega)
    have q4 := calls_ev x (by omega)
    have hcl := calls_len (flats x 0)
    have q5 : ∀ st, E L (.func 13) [.sl (strs (calls (flats x 0))) .dead, .sl (strs (calls (flats x 0))) .dead] st = some (.v (.bool true), st) := fun st => by
      rw [ssm_ev _ _ (by omega)]; simp
    let b1 : Blk := ⟨[.sl (sencs x) .dead], []⟩
    obtain ⟨j, c', tk', h3⟩ := deep_loop s (hs ++ [b1, b1]) pb hpb (flats x 0) (by omega) most ((n + (flats x 0).length : Nat) : Int) (sencs x) (rowsE R) cr hcr R.length p.length (flats x 0) [] [] .nil tk m rfl (by simp; omega) (Own.nil ..)
    obtain ⟨j2, hs2, tk2, ih⟩ := rows_loop s pb hpb most R hR hz cr hcr xs (p ++ [x]) (hs ++ [b1, b1, b1]) tk' (n + (flats x 0).length) (mx (flats x 0) m) (by simp [hx]) (by omega)
    refine ⟨j2, hs2, tk2, ?_⟩
    rw [htot, show mxs (x :: xs) m = mxs xs (mx (flats x 0) m) from rfl, ← Nat.add_assoc, ← ih]
    refine it_step ?_
    have e0 : strs [] = [] := rfl
    simp only [List.nil_append, List.length_nil, e0] at h3
    rw [show ((0 : Nat) : Int) = 0 from rfl] at h3
    generalize calls (flats x 0) = C at *
    generalize flats x 0 = W at *
    generalize ((n + W.length : Nat) : Int) = nn at h3 w2 ⊢
    simp only [b1] at h3
    simp [S6.b2, canon_v, canon_sl, canon_clo, canon_ptr, need_refl, elems_sl, sf_v, sf_sl, sf_ptr, sf_ptrh, sf_clo, sf_dead, sf_nil, sf_full, sf_fr, need_true, ibeq, beq_ba, nbeq, nble, nblt, AM.nth, List.getD_cons_succ, List.getD_cons_zero, bind_step, Option.bind_none, Option.map_some, onBool, AM.onG, onFn, seqK, retK, Ex.outOf, cond_true, cond_false, bin_lss, bin_leq, bin_gtr, bin_geq, bin_eql, bin_neq, bin_add, bin_sub, bin_mul, un_not, str_eql, str_neq, app_push, app_stk, app_tk, app_lp, load_app, load_app0, load_fp, store_app, store_app0, leave_app, leave_app0, AM.ownPut, AM.cellsOf, AM.shift, aPick, fin_v, fin_sl, beq_true, okSz, List.length_cons, List.length_nil, Nat.zero_add, Nat.add_zero, Nat.reduceAdd, decide_true, decide_false, Bool.and_true, Bool.true_and, Bool.and_self, Bool.not_true, Bool.not_false, List.getElem?_cons_zero, List.getElem?_cons_succ, List.nil_append, List.cons_append, hpp_app, hpp_stk, hpp_tk, hpp_lp, hpp_hp, app_lpadd, hload, hload0, hloadh, hstore, hstore0, hleave, hleave0, hfin_v, hfin_sl, hback, hloop, hsetlp, max_int, min_int, hstore_v, hstore_v0, hstore_s, hstore_d, modify_concat, part1, hbackt, hbackl, hback0, List.take_succ_cons, List.take_left, List.take_zero, List.take_nil, -Option.bind_some, hlt, ia_61, rowsE_len, r1, g1, q1, q2, q3, aExtract, len_31, ss_len, w2, h3, q4, q5, w1, hcr, hpb, b1]

theorem all_loop0 (s : St) (pb : Blk) (hpb : pb.cs.all (sf true (s.stk.length + 1) 4) = true) (most : Int) (xs0 : List Fu) (hb : xs0.length ≤ 100000) : ∀ (xs p : List Fu) (acc : List (List S)) (c : Cap) (tk : List (Nat × Nat)), xs0 = p ++ xs → acc.length + xs.length ≤ 1000000 → Own s tk c (rowsE acc).length 1 →
    ∃ (j : Int) (c' : Cap) (tk' : List (Nat × Nat)), itE (S6.b0 (E L) itE s.stk.length s.lp.length) [int most, .v (.bool false), .ptr false s.stk.length 0, int 0, int (-1), .sl (rowsE acc) c, .sl (xs0.map Fu.enc) .dead, int xs0.length, int p.length] (s.app [pb] tk []) =
      some (.exit 0, [int most, .v (.bool false), .ptr false s.stk.length 0, int 0, int (-1), .sl (rowsE (acc ++ xs.map Fu.body)) c', .sl (xs0.map Fu.enc) .dead, int xs0.length, int j], s.app [pb] tk' []) ∧ Own s tk' c' (rowsE (acc ++ xs.map Fu.body)).length 1
  | [], p, acc, c, tk, hx, ha, ho => by
    have e : xs0.length = p.length := by rw [hx]; simp
    refine ⟨p.length, c, tk, ?_, by simpa using ho⟩
    rw [itE_eq]
    simp [S6.b0, canon_v, canon_sl, canon_clo, canon_ptr, need_refl, elems_sl, sf_v, sf_sl, sf_ptr, sf_ptrh, sf_clo, sf_dead, sf_nil, sf_full, sf_fr, need_true, ibeq, beq_ba, nbeq, nble, nblt, AM.nth, List.getD_cons_succ, List.getD_cons_zero, Option.bind_some, Option.bind_none, Option.map_some, onBool, AM.onG, onFn, seqK, retK, Ex.outOf, cond_true, cond_false, bin_lss, bin_leq, bin_gtr, bin_geq, bin_eql, bin_neq, bin_add, bin_sub, bin_mul, un_not, str_eql, str_neq, app_push, app_stk, app_tk, app_lp, load_app, load_app0, load_fp, store_app, store_app0, leave_app, leave_app0, AM.ownPut, AM.cellsOf, AM.shift, aPick, fin_v, fin_sl, beq_true, okSz, List.length_cons, List.length_nil, Nat.zero_add, Nat.add_zero, Nat.reduceAdd, decide_true, decide_false, Bool.and_true, Bool.true_and, Bool.and_self, Bool.not_true, Bool.not_false, List.getElem?_cons_zero, List.getElem?_cons_succ, List.nil_append, List.cons_append, hpp_app, hpp_stk, hpp_tk, hpp_lp, hpp_hp, app_lpadd, hload, hload0, hloadh, hstore, hstore0, hleave, hleave0, hfin_v, hfin_sl, hback, hloop, hsetlp, max_int, min_int, hstore_v, hstore_v0, hstore_s, hstore_d, modify_concat, part1, hbackt, hbackl, hback0, List.take_succ_cons, List.take_left, List.take_zero, List.take_nil, e, ho.sfc, hpb]
  | x :: xs, p, acc, c, tk, hx, ha, ho => by
    have hlt : (p.length : Int) < (xs0.length : Int) := by rw [hx]; simp; omega
    have g1 : (xs0.map Fu.enc)[p.length]? = some x.enc := by rw [hx]; exact map_get _ p x xs
    have r1 : inRange (p.length : Int) xs0.length = true := by rw [hx]; exact inR p x xs
    have hpl : p.length < xs0.length := by rw [hx]; simp
    have w1 : IntKind.i64.wrap ((p.length : Int) + 1) = (p.length : Int) + 1 := IntWalk.i64_in _ (by omega)
    obtain ⟨c1, tk1, e1, o1⟩ := app_own (ys := rowsE [x.body]) (bytes := 24) ho (by simp only [rowsE_len, maxLenB, List.length_cons] at ha ⊢; simp; omega) (rowsE_ok _) (rowsE_ok _) (by decide) (by decide)
    rw [rowsE_app] at e1 o1
    obtain ⟨j, c2, tk2, h2, o2⟩ := all_loop0 s pb hpb most xs0 hb xs (p ++ [x]) (acc ++ [x.body]) c1 tk1 (by simp [hx]) (by simp at ha ⊢; omega) o1
    have bb : rBuildSlice 1 [.sl [] .nil] 1 [(0, .sl (sencs x.body) .dead)] = some (.sl (rowsE [x.body]) .full) := rfl
    have whole : AM.part true 5 0 x.enc = some (.agg x.enc) := rfl
    have p2 : AM.part false 1 2 x.enc = some (.sl (sencs x.body) .dead) := rfl
    have hl : x.enc.length = 5 := rfl
    have hok : okCells x.enc = true := rfl
    refine ⟨j, c2, tk2, ?_, by simpa using o2⟩
    rw [show acc ++ (x :: xs).map Fu.body = acc ++ [x.body] ++ xs.map Fu.body by simp, ← h2]
    refine it_step ?_
    generalize acc ++ [x.body] = acc' at e1 o1
    simp [S6.b0, canon_v, canon_sl, canon_clo, canon_ptr, need_refl, elems_sl, sf_v, sf_sl, sf_ptr, sf_ptrh, sf_clo, sf_dead, sf_nil, sf_full, sf_fr, need_true, ibeq, beq_ba, nbeq, nble, nblt, AM.nth, List.getD_cons_succ, List.getD_cons_zero, Option.bind_some, Option.bind_none, Option.map_some, onBool, AM.onG, onFn, seqK, retK, Ex.outOf, cond_true, cond_false, bin_lss, bin_leq, bin_gtr, bin_geq, bin_eql, bin_neq, bin_add, bin_sub, bin_mul, un_not, str_eql, str_neq, app_push, app_stk, app_tk, app_lp, load_app, load_app0, load_fp, store_app, store_app0, leave_app, leave_app0, AM.ownPut, AM.cellsOf, AM.shift, aPick, fin_v, fin_sl, beq_true, okSz, List.length_cons, List.length_nil, Nat.zero_add, Nat.add_zero, Nat.reduceAdd, decide_true, decide_false, Bool.and_true, Bool.true_and, Bool.and_self, Bool.not_true, Bool.not_false, List.getElem?_cons_zero, List.getElem?_cons_succ, List.nil_append, List.cons_append, hpp_app, hpp_stk, hpp_tk, hpp_lp, hpp_hp, app_lpadd, hload, hload0, hloadh, hstore, hstore0, hleave, hleave0, hfin_v, hfin_sl, hback, hloop, hsetlp, max_int, min_int, hstore_v, hstore_v0, hstore_s, hstore_d, modify_concat, part1, hbackt, hbackl, hback0, List.take_succ_cons, List.take_left, List.take_zero, List.take_nil, hlt, ia_26, r1, g1, hl, whole, hok, laid0, p2, bb, e1, w1, o1.sfc, hpb]

theorem all_loop1 (s : St) (pb : Blk) (hpb : pb.cs.all (sf true (s.stk.length + 1) 4) = true) (most : Int) (xs0 : List Th) (hb : xs0.length ≤ 100000) : ∀ (xs p : List Th) (acc : List (List S)) (c : Cap) (tk : List (Nat × Nat)), xs0 = p ++ xs → acc.length + xs.length ≤ 1000000 → Own s tk c (rowsE acc).length 1 →
    ∃ (j : Int) (c' : Cap) (tk' : List (Nat × Nat)), itE (S6.b1 (E L) itE s.stk.length s.lp.length) [int most, .v (.bool false), .ptr false s.stk.length 0, int 0, int (-1), .sl (rowsE acc) c, .sl (xs0.map Th.enc) .dead, int xs0.length, int p.length] (s.app [pb] tk []) =
      some (.exit 2, [int most, .v (.bool false), .ptr false s.stk.length 0, int 0, int (-1), .sl (rowsE (acc ++ xs.map Th.body)) c', .sl (xs0.map Th.enc) .dead, int xs0.length, int j], s.app [pb] tk' []) ∧ Own s tk' c' (rowsE (acc ++ xs.map Th.body)).length 1
  | [], p, acc, c, tk, hx, ha, ho => by
    have e : xs0.length = p.length := by rw [hx]; simp
    refine ⟨p.length, c, tk, ?_, by simpa using ho⟩
    rw [itE_eq]
    simp [S6.b1, canon_v, canon_sl, canon_clo, canon_ptr, need_refl, elems_sl, sf_v, sf_sl, sf_ptr, sf_ptrh, sf_clo, sf_dead, sf_nil, sf_full, sf_fr, need_true, ibeq, beq_ba, nbeq, nble, nblt, AM.nth, List.getD_cons_succ, List.getD_cons_zero, Option.bind_some, Option.bind_none, Option.map_some, onBool, AM.onG, onFn, seqK, retK, Ex.outOf, cond_true, cond_false, bin_lss, bin_leq, bin_gtr, bin_geq, bin_eql, bin_neq, bin_add, bin_sub, bin_mul, un_not, str_eql, str_neq, app_push, app_stk, app_tk, app_lp, load_app, load_app0, load_fp, store_app, store_app0, leave_app, leave_app0, AM.ownPut, AM.cellsOf, AM.shift, aPick, fin_v, fin_sl, beq_true, okSz, List.length_cons, List.length_nil, Nat.zero_add, Nat.add_zero, Nat.reduceAdd, decide_true, decide_false, Bool.and_true, Bool.true_and, Bool.and_self, Bool.not_true, Bool.not_false, List.getElem?_cons_zero, List.getElem?_cons_succ, List.nil_append, List.cons_append, hpp_app, hpp_stk, hpp_tk, hpp_lp, hpp_hp, app_lpadd, hload, hload0, hloadh, hstore, hstore0, hleave, hleave0, hfin_v, hfin_sl, hback, hloop, hsetlp, max_int, min_int, hstore_v, hstore_v0, hstore_s, hstore_d, modify_concat, part1, hbackt, hbackl, hback0, List.take_succ_cons, List.take_left, List.take_zero, List.take_nil, e, ho.sfc, hpb]
  | x :: xs, p, acc, c, tk, hx, ha, ho => by
    have hlt : (p.length : Int) < (xs0.length : Int) := by rw [hx]; simp; omega
    have g1 : (xs0.map Th.enc)[p.length]? = some x.enc := by rw [hx]; exact map_get _ p x xs
    have r1 : inRange (p.length : Int) xs0.length = true := by rw [hx]; exact inR p x xs
    have hpl : p.length < xs0.length := by rw [hx]; simp
    have w1 : IntKind.i64.wrap ((p.length : Int) + 1) = (p.length : Int) + 1 := IntWalk.i64_in _ (by omega)
    obtain ⟨c1, tk1, e1, o1⟩ := app_own (ys := rowsE [x.body]) (bytes := 24) ho (by simp only [rowsE_len, maxLenB, List.length_cons] at ha ⊢; simp; omega) (rowsE_ok _) (rowsE_ok _) (by decide) (by decide)
    rw [rowsE_app] at e1 o1
    obtain ⟨j, c2, tk2, h2, o2⟩ := all_loop1 s pb hpb most xs0 hb xs (p ++ [x]) (acc ++ [x.body]) c1 tk1 (by simp [hx]) (by simp at ha ⊢; omega) o1
    have bb : rBuildSlice 1 [.sl [] .nil] 1 [(0, .sl (sencs x.body) .dead)] = some (.sl (rowsE [x.body]) .full) := rfl
    have whole : AM.part true 3 0 x.enc = some (.agg x.enc) := rfl
    have p2 : AM.part false 1 0 x.enc = some (.sl (sencs x.body) .dead) := rfl
    have hl : x.enc.length = 3 := rfl
    have hok : okCells x.enc = true := rfl
    refine ⟨j, c2, tk2, ?_, by simpa using o2⟩
    rw [show acc ++ (x :: xs).map Th.body = acc ++ [x.body] ++ xs.map Th.body by simp, ← h2]
    refine it_step ?_
    generalize acc ++ [x.body] = acc' at e1 o1
    simp [S6.b1, canon_v, canon_sl, canon_clo, canon_ptr, need_refl, elems_sl, sf_v, sf_sl, sf_ptr, sf_ptrh, sf_clo, sf_dead, sf_nil, sf_full, sf_fr, need_true, ibeq, beq_ba, nbeq, nble, nblt, AM.nth, List.getD_cons_succ, List.getD_cons_zero, Option.bind_some, Option.bind_none, Option.map_some, onBool, AM.onG, onFn, seqK, retK, Ex.outOf, cond_true, cond_false, bin_lss, bin_leq, bin_gtr, bin_geq, bin_eql, bin_neq, bin_add, bin_sub, bin_mul, un_not, str_eql, str_neq, app_push, app_stk, app_tk, app_lp, load_app, load_app0, load_fp, store_app, store_app0, leave_app, leave_app0, AM.ownPut, AM.cellsOf, AM.shift, aPick, fin_v, fin_sl, beq_true, okSz, List.length_cons, List.length_nil, Nat.zero_add, Nat.add_zero, Nat.reduceAdd, decide_true, decide_false, Bool.and_true, Bool.true_and, Bool.and_self, Bool.not_true, Bool.not_false, List.getElem?_cons_zero, List.getElem?_cons_succ, List.nil_append, List.cons_append, hpp_app, hpp_stk, hpp_tk, hpp_lp, hpp_hp, app_lpadd, hload, hload0, hloadh, hstore, hstore0, hleave, hleave0, hfin_v, hfin_sl, hback, hloop, hsetlp, max_int, min_int, hstore_v, hstore_v0, hstore_s, hstore_d, modify_concat, part1, hbackt, hbackl, hback0, List.take_succ_cons, List.take_left, List.take_zero, List.take_nil, hlt, ia_27, r1, g1, hl, whole, hok, laid0, p2, bb, e1, w1, o1.sfc, hpb]

theorem TreeAll_ev (a : List Int) (most : Int) (s : St) : ∃ st', E L (.func 6) [.sl (ints a) .dead, int most] s = some (.v (.bool true), st') := by
  obtain ⟨hs, ha⟩ := alive_st s
  rw [← app_nil (s.hpp hs)] at ha
  by_cases hla : (a.length : Int) > 400
  · refine ⟨(s.hpp hs).app [] [] [], ?_⟩
    rw [S6_eq]
    simp [S6, ha, canon_v, canon_sl, canon_clo, canon_ptr, need_refl, elems_sl, sf_v, sf_sl, sf_ptr, sf_ptrh, sf_clo, sf_dead, sf_nil, sf_full, sf_fr, need_true, ibeq, beq_ba, nbeq, nble, nblt, AM.nth, List.getD_cons_succ, List.getD_cons_zero, bind_step, Option.bind_none, Option.map_some, onBool, AM.onG, onFn, seqK, retK, Ex.outOf, cond_true, cond_false, bin_lss, bin_leq, bin_gtr, bin_geq, bin_eql, bin_neq, bin_add, bin_sub, bin_mul, un_not, str_eql, str_neq, app_push, app_stk, app_tk, app_lp, load_app, load_app0, load_fp, store_app, store_app0, leave_app, leave_app0, AM.ownPut, AM.cellsOf, AM.shift, aPick, fin_v, fin_sl, beq_true, okSz, List.length_cons, List.length_nil, Nat.zero_add, Nat.add_zero, Nat.reduceAdd, decide_true, decide_false, Bool.and_true, Bool.true_and, Bool.and_self, Bool.not_true, Bool.not_false, List.getElem?_cons_zero, List.getElem?_cons_succ, List.nil_append, List.cons_append, hpp_app, hpp_stk, hpp_tk, hpp_lp, hpp_hp, app_lpadd, hload, hload0, hloadh, hstore, hstore0, hleave, hleave0, hfin_v, hfin_sl, hback, hloop, hsetlp, max_int, min_int, hstore_v, hstore_v0, hstore_s, hstore_d, modify_concat, part1, hbackt, hbackl, hback0, List.take_succ_cons, List.take_left, List.take_zero, List.take_nil, -Option.bind_some, len_22, ints_len, hla]
  obtain ⟨p, pf, pt, pz, hp⟩ := make_ev a (by omega)
  have hpb : (⟨p.enc, []⟩ : Blk).cs.all (sf true (s.stk.length + 1) 4) = true := rfl
  have pok : okCells p.enc = true := rfl
  have pl : p.enc.length = 4 := rfl
  have p2 : AM.part false 1 2 p.enc = some (.sl (p.funs.map Fu.enc) .dead) := rfl
  have p3 : AM.part false 1 3 p.enc = some (.sl (p.threads.map Th.enc) .dead) := rfl
  have whole : AM.part true 4 0 p.enc = some (.agg p.enc) := rfl
  have hcan : canon (.agg p.enc) = .agg p.enc := rfl
  obtain ⟨j1, c1, k1, h1, o1⟩ := all_loop0 (s.hpp hs) ⟨p.enc, []⟩ hpb most p.funs (by omega) p.funs [] [] .nil [] rfl (by simp; omega) (Own.nil ..)
  obtain ⟨j2, c2, k2, h2, o2⟩ := all_loop1 (s.hpp hs) ⟨p.enc, []⟩ hpb most p.threads (by omega) p.threads [] _ c1 k1 rfl (by simp; omega) o1
  have hbd : [] ++ p.funs.map Fu.body ++ p.threads.map Th.body = p.bodies := rfl
  rw [hbd] at h2 o2
  have hbl : p.bodies.length ≤ 7 := by simp [Pg.bodies]; omega
  have hbz : ∀ b ∈ p.bodies, sszs b ≤ 10000 := fun b hb => by have := bsz_mem hb; omega
  have htl : tot p.bodies ≤ 60 := by
    have : tot p.bodies = csz p.bodies := by simp only [tot, csz, flats_cnt]
    omega
  obtain ⟨j3, hs3, k3, h3⟩ := rows_loop s ⟨p.enc, []⟩ hpb most p.bodies (by omega) hbz c2 (fun m => o2.sfc m) p.bodies [] hs k2 0 (-1) rfl (by omega)
  obtain ⟨hs4, h4⟩ := count_ev p (by omega) (by omega) (fun b hb => by have := hbz b hb; omega) (by omega) ((s.hpp hs3).app [⟨p.enc, []⟩] k3 []) []
  rw [hpp_nil, app_nil, app_nil, hpp_app] at h4
  have e0 : rowsE [] = [] := rfl
  simp only [hpp_stk, hpp_lp, List.nil_append, List.length_nil, e0, Nat.zero_add] at h1 h2 h3
  rw [show ((0 : Nat) : Int) = 0 from rfl] at h1 h2 h3
  refine ⟨(s.hpp (hs3 ++ hs4)).app [] [] [], ?_⟩
  rw [S6_eq]
  simp [S6, ha, canon_v, canon_sl, canon_clo, canon_ptr, need_refl, elems_sl, sf_v, sf_sl, sf_ptr, sf_ptrh, sf_clo, sf_dead, sf_nil, sf_full, sf_fr, need_true, ibeq, beq_ba, nbeq, nble, nblt, AM.nth, List.getD_cons_succ, List.getD_cons_zero, bind_step, Option.bind_none, Option.map_some, onBool, AM.onG, onFn, seqK, retK, Ex.outOf, cond_true, cond_false, bin_lss, bin_leq, bin_gtr, bin_geq, bin_eql, bin_neq, bin_add, bin_sub, bin_mul, un_not, str_eql, str_neq, app_push, app_stk, app_tk, app_lp, load_app, load_app0, load_fp, store_app, store_app0, leave_app, leave_app0, AM.ownPut, AM.cellsOf, AM.shift, aPick, fin_v, fin_sl, beq_true, okSz, List.length_cons, List.length_nil, Nat.zero_add, Nat.add_zero, Nat.reduceAdd, decide_true, decide_false, Bool.and_true, Bool.true_and, Bool.and_self, Bool.not_true, Bool.not_false, List.getElem?_cons_zero, List.getElem?_cons_succ, List.nil_append, List.cons_append, hpp_app, hpp_stk, hpp_tk, hpp_lp, hpp_hp, app_lpadd, hload, hload0, hloadh, hstore, hstore0, hleave, hleave0, hfin_v, hfin_sl, hback, hloop, hsetlp, max_int, min_int, hstore_v, hstore_v0, hstore_s, hstore_d, modify_concat, part1, hbackt, hbackl, hback0, List.take_succ_cons, List.take_left, List.take_zero, List.take_nil, -Option.bind_some, len_22, ints_len, hla, hp, pl, pok, laid0, p2, len_26, h1, p3, len_27, h2, len_61, rowsE_len, h3, whole, hcan, h4, aExtract]
end Go.Proofs.Ytkbhejcfejembaa.S

/- Trees: the machine's own conditions hold of this program. No condition. -/
set_option linter.all false
namespace Go.Proofs.Ytkbhejcfejembaa.S
open Go Go.AM Go.Proofs
set_option linter.unusedVariables false
theorem names_ok : (Try.prog.funcs.toList.all fun fn => !(fn.name == "runtime.NumGoroutine")) = true := by kernel_rfl
theorem ok : LibOk L where
  name f fn h := by
    have h1 := List.all_eq_true.1 names_ok fn (by
      have h : Try.prog.funcs[f]? = some fn := h
      rw [← Array.getElem?_toList] at h
      exact List.mem_of_getElem? h)
    simpa using h1
  mixed := by
    have h : Try.prog.follows .mixedOrders = true := by kernel_rfl
    exact h
  prim f g h := by cases h
end Go.Proofs.Ytkbhejcfejembaa.S

/- Trees: TreeAll is answered true. No condition. -/
namespace Go.Proofs.Ytkbhejcfejembaa.Pure
open Go Go.AM Go.Proofs
theorem TreeAll_ev (a : List Int) (most : Int) {w : Prop} (_ : w) : ∃ k st', evF S.L k (.func 6) [intsPV .i64 a, .v (.int .i64 most)] st0 = some (.v (.bool true), st') := by
  obtain ⟨st', h⟩ := S.TreeAll_ev a most st0
  obtain ⟨k, hk⟩ := E_evF h
  exact ⟨k, st', hk⟩
end Go.Proofs.Ytkbhejcfejembaa.Pure
