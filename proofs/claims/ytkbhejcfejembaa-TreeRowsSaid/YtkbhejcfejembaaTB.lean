/- Trees: the statements' first question. No condition. -/
import Derived.Test.YtkbhejcfejembaaCt
import Derived.Test.YtkbhejcfejembaaSt1
import Derived.Test.YtkbhejcfejembaaTA
import Derived.Test.YtkbhejcfejembaaS0
import Derived.Test.YtkbhejcfejembaaM21
import Derived.KernelRfl
set_option linter.all false
namespace Go.Proofs.Ytkbhejcfejembaa.S
open Go Go.AM Go.Proofs
set_option linter.unusedVariables false
set_option linter.unusedSimpArgs false
set_option maxHeartbeats 4000000

theorem plain_fl : ∀ {cs : List PV}, cs.all flatC = true → plainCs cs = some (cs.map canonC)
  | [], _ => rfl
  | c :: cs, h => by
    simp only [List.all_cons, Bool.and_eq_true] at h
    have h1 : plainC c = some (canonC c) := by cases c <;> simp_all [flatC, plainC, canonC]
    simp only [plainCs, h1, plain_fl h.2, Option.bind_some, List.map_cons]
theorem In.lit {cs : List PV} {x : S} (h : In cs x) : rBuildSlice 58 Zs 1 [(0, .agg cs)] = some (.sl (sencs [x]) .full) := by
  have := lit1 Zs_len h.len (plain_fl h.fl) (by rw [List.length_map, h.len])
  rw [this, h.can]; rfl
def aX : X := ⟨1, 0, 1, 0, ⟨#[]⟩, ⟨#[]⟩, [], 0, 0⟩
def aXc : List PV := [int 1, int 0, .v (.int .u64 1), int 0, str ⟨#[]⟩, str ⟨#[]⟩, .sl [] .nil, int 0, int 0]
def aS5 (l : Int) : S := ⟨5, ⟨#[]⟩, Rt0, Pl0, X0, 0, [], [], [], l, 0⟩
def aS6 (l : Int) : S := ⟨6, ⟨#[]⟩, Rt0, Pl0, aX, 0, [], [aS5 l], [], 0, 0⟩
theorem in5 : In (laid (Cz 5) 56 [int 7]) (aS5 7) := (In.zero 5).put 56 _ rfl (by
  have := laidB ([int (S0 5).op, str (S0 5).name] ++ (S0 5).right.enc ++ (S0 5).place.enc ++ (S0 5).e.enc ++ [int (S0 5).n, .sl (encs (S0 5).args) .dead, .sl (sencs (S0 5).body) .dead, .sl (sencs (S0 5).els) .dead]) [int (S0 5).line] [int (S0 5).col] [int 7] rfl
  rw [List.length_append, hd_len] at this
  rw [S.encP, S.encP]
  simp only [List.append_assoc, List.cons_append, List.nil_append] at this ⊢
  exact this)
theorem in5' : In (Cz 5) (aS5 0) := In.zero 5
theorem in6 (l : Int) (c : Cap) : In (laid (laid (Cz 6) 43 aXc) 54 [.sl (sencs [aS5 l]) c]) (aS6 l) := by
  have h := ((In.zero 6).put (y := (S0 6).wE aX) 43 aXc rfl (by
    have : aXc.map canonC = aX.enc := by simp [aXc, canonC, aX, X.enc, encs]
    rw [this]; exact S.l43 _ _)).body [aS5 l] c
  exact h
theorem alive_ev (s : St) (hs : List Blk) : ∃ hs', E L (.func 7) [] ((s.hpp hs).app [] [] []) = some (.v (.bool true), (s.hpp hs').app [] [] []) := by
  let pg : Pg := ⟨[], [], [], [⟨[aS6 7], 0, 0⟩]⟩
  have hbd : pg.bodies = [[aS6 7]] := rfl
  have fl : flats [aS6 7] 0 = [(aS6 7, 0), (aS5 7, 1)] := by simp [flats, S.flat, aS6, aS5]
  obtain ⟨hs', hc⟩ := count_ev pg (by decide) (by decide) (by rw [hbd]; intro b hb; simp at hb; subst hb; decide) (by rw [hbd]; simp [tot, fl]) s hs
  have ht : tot pg.bodies = 2 := by rw [hbd]; simp [tot, fl]
  have hm : mxs pg.bodies (-1) = 1 := by rw [hbd]; simp [mxs, fl, mx]
  rw [ht, hm] at hc
  refine ⟨hs', ?_⟩
  have s1 := fun st => stmts_ev [aS6 7] [aS6 0] (by decide) st
  have s2 := fun st => stmts_ev [aS6 7] [] (by decide) st
  have e1 : ssames [aS6 7] [aS6 0] = true := by decide
  have e2 : ssames [aS6 7] [] = false := rfl
  rw [e1] at s1
  rw [e2] at s2
  have b1 : rBuild [(0, 1), (1, 1), (2, 1), (3, 2), (5, 1), (6, 1), (7, 1), (8, 1)] [.v (.int .i64 0), .v (.int .i64 0), .v (.int .u64 0), .v (.int .i64 0), .v (.string ⟨#[]⟩), .v (.string ⟨#[]⟩), .sl [] .nil, .v (.int .i64 0), .v (.int .i64 0)] [(0, PV.v (.int .i64 1)), (2, PV.v (.int .u64 1))] = some (.agg aXc) := rfl
  have b2 : rBuild [(0, 1), (1, 1), (2, 27), (29, 14), (43, 9), (52, 1), (53, 1), (54, 1), (55, 1), (56, 1), (57, 1)] Zs [(0, PV.v (.int .i64 5)), (9, PV.v (.int .i64 7))] = some (.agg (laid (Cz 5) 56 [int 7])) := rfl
  have b3 : rBuild [(0, 1), (1, 1), (2, 27), (29, 14), (43, 9), (52, 1), (53, 1), (54, 1), (55, 1), (56, 1), (57, 1)] Zs [(0, PV.v (.int .i64 5))] = some (.agg (Cz 5)) := rfl
  have b4 : ∀ l, rBuild [(0, 1), (1, 1), (2, 27), (29, 14), (43, 9), (52, 1), (53, 1), (54, 1), (55, 1), (56, 1), (57, 1)] Zs [(0, PV.v (.int .i64 6)), (4, .agg aXc), (7, .sl (sencs [aS5 l]) .full)] = some (.agg (laid (laid (Cz 6) 43 aXc) 54 [.sl (sencs [aS5 l]) .full])) := fun _ => rfl
  have b5 : rBuild [(0, 1), (1, 1), (2, 1)] [.sl [] .nil, .v (.int .i64 0), .v (.int .i64 0)] [(0, .sl (sencs [aS6 7]) .full)] = some (.agg [.sl (sencs [aS6 7]) .full, int 0, int 0]) := rfl
  have b6 : rBuildSlice 3 [.sl [] .nil, .v (.int .i64 0), .v (.int .i64 0)] 1 [(0, .agg [.sl (sencs [aS6 7]) .full, int 0, int 0])] = some (.sl (pg.threads.map Th.enc) .full) := rfl
  have b7 : rBuild [(0, 1), (1, 1), (2, 1), (3, 1)] [.sl [] .nil, .sl [] .nil, .sl [] .nil, .sl [] .nil] [(3, .sl (pg.threads.map Th.enc) .full)] = some (.agg [.sl [] .nil, .sl [] .nil, .sl [] .nil, .sl (pg.threads.map Th.enc) .full]) := rfl
  have hcan : canon (.agg [.sl [] .nil, .sl [] .nil, .sl [] .nil, .sl (pg.threads.map Th.enc) .full]) = .agg pg.enc := rfl
  have e0 : sencs [] = [] := rfl
  rw [e0] at s2
  rw [show ((2 : Nat) : Int) = 2 from rfl] at hc
  rw [S7_eq]
  simp only [S7, Zc, b1, b2, in5.lit, b4, (in6 7 .full).lit, b3, in5'.lit, (in6 0 .full).lit, b5, b6, b7, hcan, hc, canon_v, canon_sl, canon_clo, canon_ptr, need_refl, elems_sl, sf_v, sf_sl, sf_ptr, sf_ptrh, sf_clo, sf_dead, sf_nil, sf_full, sf_fr, need_true, ibeq, beq_ba, nbeq, nble, nblt, AM.nth, List.getD_cons_succ, List.getD_cons_zero, Option.bind_some, Option.bind_none, Option.map_some, onBool, AM.onG, onFn, seqK, retK, Ex.outOf, cond_true, cond_false, bin_lss, bin_leq, bin_gtr, bin_geq, bin_eql, bin_neq, bin_add, bin_sub, bin_mul, un_not, str_eql, str_neq, app_push, app_stk, app_tk, app_lp, load_app, load_app0, load_fp, store_app, store_app0, leave_app, leave_app0, AM.ownPut, AM.cellsOf, AM.shift, aPick, fin_v, fin_sl, beq_true, okSz, List.length_cons, List.length_nil, Nat.zero_add, Nat.add_zero, Nat.reduceAdd, decide_true, decide_false, Bool.and_true, Bool.true_and, Bool.and_self, Bool.not_true, Bool.not_false, List.getElem?_cons_zero, List.getElem?_cons_succ, List.nil_append, List.cons_append, hpp_app, hpp_stk, hpp_tk, hpp_lp, hpp_hp, app_lpadd, hload, hload0, hloadh, hstore, hstore0, hleave, hleave0, hfin_v, hfin_sl, hback, hloop, hsetlp, max_int, min_int, hstore_v, hstore_v0, hstore_s, hstore_d, modify_concat, part1, hbackt, hbackl, hback0, List.take_succ_cons, List.take_left, List.take_zero, List.take_nil, aExtract, s1, s2]
end Go.Proofs.Ytkbhejcfejembaa.S

/- Trees: what it is to be the same; the statements' parts. No condition. -/
namespace Go.Proofs.Ytkbhejcfejembaa.S
open Go Go.AM Go.Proofs
set_option linter.unusedVariables false
set_option linter.unusedSimpArgs false
set_option maxHeartbeats 4000000

theorem dc {α : Type} [DecidableEq α] (a b : α) : decide (a = b) = decide (b = a) := by
  by_cases h : a = b
  · subst h; rfl
  · have : ¬ b = a := fun e => h e.symm
    simp [h, this]
mutual
theorem X.same_refl : ∀ x : X, x.same x = true
  | ⟨op, bin, n, kd, rc, name, ks, l, c⟩ => by
    have := sames_refl ks
    simp [X.same, X.op, X.bin, X.n, X.kd, X.rc, X.name, X.kids, this, beq_ba]
theorem sames_refl : ∀ xs : List X, sames xs xs = true
  | [] => rfl
  | x :: xs => by simp [sames, X.same_refl x, sames_refl xs]
end
mutual
theorem X.same_symm : ∀ x y : X, x.same y = y.same x
  | ⟨op, bin, n, kd, rc, name, ks, l, c⟩, y => by
    have h : sames (X.mk op bin n kd rc name ks l c).kids y.kids = sames y.kids (X.mk op bin n kd rc name ks l c).kids := sames_symm ks y.kids
    rw [X.same_eq, X.same_eq, h]
    generalize X.mk op bin n kd rc name ks l c = x
    simp only [ibeq, beq_ba]
    rw [dc x.op y.op, dc x.bin y.bin, dc x.n y.n, dc x.kd y.kd, dc x.rc y.rc, dc x.name y.name]
theorem sames_symm : ∀ xs ys : List X, sames xs ys = sames ys xs
  | [], [] => rfl
  | [], y :: ys => by simp [sames]
  | x :: xs, [] => by simp [sames]
  | x :: xs, y :: ys => by simp only [sames, X.same_symm x y, sames_symm xs ys]
end
theorem Pl.same_refl (x : Pl) : x.same x = true := by simp [Pl.same, X.same_refl]
theorem Rt.same_refl (x : Rt) : x.same x = true := by simp [Rt.same, X.same_refl, Pl.same_refl]
theorem Pl.same_symm (x y : Pl) : x.same y = y.same x := by
  simp only [Pl.same, X.same_symm x.index y.index]
  rw [dc x.op y.op, dc x.base y.base, dc x.field y.field]
theorem Rt.same_symm (x y : Rt) : x.same y = y.same x := by
  simp only [Rt.same, X.same_symm x.e y.e, Pl.same_symm x.place y.place]
  rw [dc x.op y.op, dc x.name y.name]
mutual
theorem S.same_refl : ∀ x : S, x.same x = true
  | ⟨op, name, right, place, e, n, args, body, els, l, c⟩ => by
    have h1 := ssames_refl body
    have h2 := ssames_refl els
    simp [S.same, S.op, S.name, S.right, S.place, S.e, S.n, S.args, S.body, S.els, h1, h2, Rt.same_refl, Pl.same_refl, X.same_refl, sames_refl]
theorem ssames_refl : ∀ xs : List S, ssames xs xs = true
  | [] => rfl
  | x :: xs => by simp [ssames, S.same_refl x, ssames_refl xs]
end
mutual
theorem S.same_symm : ∀ x y : S, x.same y = y.same x
  | ⟨op, name, right, place, e, n, args, body, els, l, c⟩, y => by
    have h1 : ssames (S.mk op name right place e n args body els l c).body y.body = ssames y.body (S.mk op name right place e n args body els l c).body := ssames_symm body y.body
    have h2 : ssames (S.mk op name right place e n args body els l c).els y.els = ssames y.els (S.mk op name right place e n args body els l c).els := ssames_symm els y.els
    rw [S.same_eq, S.same_eq, h1, h2]
    generalize S.mk op name right place e n args body els l c = x
    rw [dc x.op y.op, dc x.name y.name, dc x.n y.n, Rt.same_symm x.right, Pl.same_symm x.place, X.same_symm x.e, sames_symm x.args]
theorem ssames_symm : ∀ xs ys : List S, ssames xs ys = ssames ys xs
  | [], [] => rfl
  | [], y :: ys => by simp [ssames]
  | x :: xs, [] => by simp [ssames]
  | x :: xs, y :: ys => by simp only [ssames, S.same_symm x y, ssames_symm xs ys]
end
theorem ssames_app : ∀ {xs ys : List S} {xs' ys' : List S}, xs.length = ys.length → ssames (xs ++ xs') (ys ++ ys') = (ssames xs ys && ssames xs' ys')
  | [], [], _, _, _ => by simp [ssames]
  | x :: xs, y :: ys, _, _, h => by simp only [List.cons_append, ssames, ssames_app (show xs.length = ys.length by simpa using h), Bool.and_assoc]
theorem ssames_true_len {xs ys : List S} (h : ssames xs ys = true) : xs.length = ys.length := by
  cases Nat.decEq xs.length ys.length with
  | isTrue e => exact e
  | isFalse e => rw [ssames_len xs ys e] at h; cases h
theorem rows_law {x y : List S} (h : ssames x y = true) : ssames (x ++ y) (y ++ x) = true := by
  rw [ssames_app (ssames_true_len h), h, ssames_symm y x, h]; rfl

theorem cnts_app : ∀ xs ys : List S, cnts (xs ++ ys) = cnts xs + cnts ys
  | [], ys => by simp [cnts]
  | x :: xs, ys => by simp [cnts, cnts_app xs ys]; omega
theorem bsz_mem {l : List (List S)} {b : List S} (h : b ∈ l) : sszs b ≤ bsz l ∧ cnts b ≤ csz l := by
  induction l with
  | nil => cases h
  | cons c l ih =>
    simp only [bsz, csz, List.map_cons, List.sum_cons] at ih ⊢
    rcases List.mem_cons.1 h with rfl | h
    · omega
    · have := ih h; omega
/-- The watcher, at any state. -/
theorem gone_st (xs : List S) (hz : sszs xs ≤ 100000) (most : Int) (st : St) :
    E L (.func 9) [.sl (sencs xs) .dead, int most] st = some (.tup [int (min (cnts xs) most.toNat : Nat), .v (.bool true)], st.hpp [⟨[.sl (sencs xs) .dead], []⟩]) := by
  have := gone_ev xs hz most st []
  rw [flats_cnt] at this
  simpa [hpp_nil, app_nil] using this
theorem alive_st (st : St) : ∃ hs', E L (.func 7) [] st = some (.v (.bool true), st.hpp hs') := by
  obtain ⟨hs', h⟩ := alive_ev st []
  exact ⟨hs', by simpa [hpp_nil, app_nil] using h⟩
end Go.Proofs.Ytkbhejcfejembaa.S

/- Trees: the statement TreeRows, as the machine reckons it, case by case. No condition. -/
namespace Go.Proofs.Ytkbhejcfejembaa.S
open Go Go.AM Go.Proofs
set_option linter.unusedVariables false
set_option linter.unusedSimpArgs false
set_option maxHeartbeats 8000000

theorem bind_step {α β : Type} (a : α) (f : α → Option β) : (some a).bind f = f a := by
  cases h : f a with
  | none => exact h
  | some b => exact h
theorem bind_stop {α β : Type} {x y : Option α} (f : α → Option β) (h : x = y) : x.bind f = y.bind f := by rw [h]
theorem lit58_0 : rBuildSlice 58 Zs 0 [] = some (.sl (sencs []) .full) := rfl
section
variable {a b : List Int} {s : St} {hs : List Blk} (ha : E L (.func 7) [] s = some (.v (.bool true), (s.hpp hs).app [] [] []))
include ha
theorem tr1 (hla : (a.length : Int) > 400) : E L (.func 3) [.sl (ints a) .dead, .sl (ints b) .dead] s = some (.v (.bool true), (s.hpp hs).app [] [] []) := by
  rw [S3_eq]
  simp [S3, ha, canon_v, canon_sl, canon_clo, canon_ptr, need_refl, elems_sl, sf_v, sf_sl, sf_ptr, sf_ptrh, sf_clo, sf_dead, sf_nil, sf_full, sf_fr, need_true, ibeq, beq_ba, nbeq, nble, nblt, AM.nth, List.getD_cons_succ, List.getD_cons_zero, Option.bind_some, Option.bind_none, Option.map_some, onBool, AM.onG, onFn, seqK, retK, Ex.outOf, cond_true, cond_false, bin_lss, bin_leq, bin_gtr, bin_geq, bin_eql, bin_neq, bin_add, bin_sub, bin_mul, un_not, str_eql, str_neq, app_push, app_stk, app_tk, app_lp, load_app, load_app0, load_fp, store_app, store_app0, leave_app, leave_app0, AM.ownPut, AM.cellsOf, AM.shift, aPick, fin_v, fin_sl, beq_true, okSz, List.length_cons, List.length_nil, Nat.zero_add, Nat.add_zero, Nat.reduceAdd, decide_true, decide_false, Bool.and_true, Bool.true_and, Bool.and_self, Bool.not_true, Bool.not_false, List.getElem?_cons_zero, List.getElem?_cons_succ, List.nil_append, List.cons_append, hpp_app, hpp_stk, hpp_tk, hpp_lp, hpp_hp, app_lpadd, hload, hload0, hloadh, hstore, hstore0, hleave, hleave0, hfin_v, hfin_sl, hback, hloop, hsetlp, max_int, min_int, hstore_v, hstore_v0, hstore_s, hstore_d, modify_concat, part1, hbackt, hbackl, hback0, List.take_succ_cons, List.take_left, List.take_zero, List.take_nil, len_22, ints_len, hla]
theorem tr2 (hla : ¬ (a.length : Int) > 400) (hlb : (b.length : Int) > 400) : E L (.func 3) [.sl (ints a) .dead, .sl (ints b) .dead] s = some (.v (.bool true), (s.hpp hs).app [] [] []) := by
  rw [S3_eq]
  simp [S3, ha, canon_v, canon_sl, canon_clo, canon_ptr, need_refl, elems_sl, sf_v, sf_sl, sf_ptr, sf_ptrh, sf_clo, sf_dead, sf_nil, sf_full, sf_fr, need_true, ibeq, beq_ba, nbeq, nble, nblt, AM.nth, List.getD_cons_succ, List.getD_cons_zero, Option.bind_some, Option.bind_none, Option.map_some, onBool, AM.onG, onFn, seqK, retK, Ex.outOf, cond_true, cond_false, bin_lss, bin_leq, bin_gtr, bin_geq, bin_eql, bin_neq, bin_add, bin_sub, bin_mul, un_not, str_eql, str_neq, app_push, app_stk, app_tk, app_lp, load_app, load_app0, load_fp, store_app, store_app0, leave_app, leave_app0, AM.ownPut, AM.cellsOf, AM.shift, aPick, fin_v, fin_sl, beq_true, okSz, List.length_cons, List.length_nil, Nat.zero_add, Nat.add_zero, Nat.reduceAdd, decide_true, decide_false, Bool.and_true, Bool.true_and, Bool.and_self, Bool.not_true, Bool.not_false, List.getElem?_cons_zero, List.getElem?_cons_succ, List.nil_append, List.cons_append, hpp_app, hpp_stk, hpp_tk, hpp_lp, hpp_hp, app_lpadd, hload, hload0, hloadh, hstore, hstore0, hleave, hleave0, hfin_v, hfin_sl, hback, hloop, hsetlp, max_int, min_int, hstore_v, hstore_v0, hstore_s, hstore_d, modify_concat, part1, hbackt, hbackl, hback0, List.take_succ_cons, List.take_left, List.take_zero, List.take_nil, len_22, ints_len, hla, hlb]
variable {P Q : List PV} (hla : ¬ (a.length : Int) > 400) (hlb : ¬ (b.length : Int) > 400) (hp : ∀ st, E L (.func 8) [.sl (ints a) .dead] st = some (.agg P, st)) (hq : ∀ st, E L (.func 8) [.sl (ints b) .dead] st = some (.agg Q, st))
  (pok : okCells P = true) (qok : okCells Q = true) (pl : P.length = 4) (ql : Q.length = 4)
include hla hlb hp hq pok qok pl ql
theorem tr3 (p3 : AM.part false 1 3 P = some (.sl [] .dead)) : E L (.func 3) [.sl (ints a) .dead, .sl (ints b) .dead] s = some (.v (.bool true), (s.hpp hs).app [] [] []) := by
  rw [S3_eq]
  simp [S3, ha, canon_v, canon_sl, canon_clo, canon_ptr, need_refl, elems_sl, sf_v, sf_sl, sf_ptr, sf_ptrh, sf_clo, sf_dead, sf_nil, sf_full, sf_fr, need_true, ibeq, beq_ba, nbeq, nble, nblt, AM.nth, List.getD_cons_succ, List.getD_cons_zero, Option.bind_some, Option.bind_none, Option.map_some, onBool, AM.onG, onFn, seqK, retK, Ex.outOf, cond_true, cond_false, bin_lss, bin_leq, bin_gtr, bin_geq, bin_eql, bin_neq, bin_add, bin_sub, bin_mul, un_not, str_eql, str_neq, app_push, app_stk, app_tk, app_lp, load_app, load_app0, load_fp, store_app, store_app0, leave_app, leave_app0, AM.ownPut, AM.cellsOf, AM.shift, aPick, fin_v, fin_sl, beq_true, okSz, List.length_cons, List.length_nil, Nat.zero_add, Nat.add_zero, Nat.reduceAdd, decide_true, decide_false, Bool.and_true, Bool.true_and, Bool.and_self, Bool.not_true, Bool.not_false, List.getElem?_cons_zero, List.getElem?_cons_succ, List.nil_append, List.cons_append, hpp_app, hpp_stk, hpp_tk, hpp_lp, hpp_hp, app_lpadd, hload, hload0, hloadh, hstore, hstore0, hleave, hleave0, hfin_v, hfin_sl, hback, hloop, hsetlp, max_int, min_int, hstore_v, hstore_v0, hstore_s, hstore_d, modify_concat, part1, hbackt, hbackl, hback0, List.take_succ_cons, List.take_left, List.take_zero, List.take_nil, len_22, ints_len, hla, hlb, hp, hq, pl, pok, laid0, ql, qok, p3, len_27]
theorem tr4 {t : List PV} {ts : List (List PV)} (p3 : AM.part false 1 3 P = some (.sl (t :: ts) .dead)) (q3 : AM.part false 1 3 Q = some (.sl [] .dead)) : E L (.func 3) [.sl (ints a) .dead, .sl (ints b) .dead] s = some (.v (.bool true), (s.hpp hs).app [] [] []) := by
  have n0 : ∀ n : Nat, ((n : Int) + 1 = 0) = False := fun n => by simp; omega
  rw [S3_eq]
  simp [S3, ha, canon_v, canon_sl, canon_clo, canon_ptr, need_refl, elems_sl, sf_v, sf_sl, sf_ptr, sf_ptrh, sf_clo, sf_dead, sf_nil, sf_full, sf_fr, need_true, ibeq, beq_ba, nbeq, nble, nblt, AM.nth, List.getD_cons_succ, List.getD_cons_zero, Option.bind_some, Option.bind_none, Option.map_some, onBool, AM.onG, onFn, seqK, retK, Ex.outOf, cond_true, cond_false, bin_lss, bin_leq, bin_gtr, bin_geq, bin_eql, bin_neq, bin_add, bin_sub, bin_mul, un_not, str_eql, str_neq, app_push, app_stk, app_tk, app_lp, load_app, load_app0, load_fp, store_app, store_app0, leave_app, leave_app0, AM.ownPut, AM.cellsOf, AM.shift, aPick, fin_v, fin_sl, beq_true, okSz, List.length_cons, List.length_nil, Nat.zero_add, Nat.add_zero, Nat.reduceAdd, decide_true, decide_false, Bool.and_true, Bool.true_and, Bool.and_self, Bool.not_true, Bool.not_false, List.getElem?_cons_zero, List.getElem?_cons_succ, List.nil_append, List.cons_append, hpp_app, hpp_stk, hpp_tk, hpp_lp, hpp_hp, app_lpadd, hload, hload0, hloadh, hstore, hstore0, hleave, hleave0, hfin_v, hfin_sl, hback, hloop, hsetlp, max_int, min_int, hstore_v, hstore_v0, hstore_s, hstore_d, modify_concat, part1, hbackt, hbackl, hback0, List.take_succ_cons, List.take_left, List.take_zero, List.take_nil, len_22, ints_len, hla, hlb, hp, hq, pl, pok, laid0, ql, qok, p3, q3, len_27, n0]
end
end Go.Proofs.Ytkbhejcfejembaa.S

/- Trees: the statement TreeRows, as the machine reckons it: its main way. Printed by mkTr.py. No condition. -/
namespace Go.Proofs.Ytkbhejcfejembaa.S
open Go Go.AM Go.Proofs
set_option linter.unusedVariables false
set_option linter.unusedSimpArgs false
set_option maxHeartbeats 8000000
attribute [local congr] bind_stop
section
variable {a b : List Int} {s : St} {hs : List Blk} (ha : E L (.func 7) [] s = some (.v (.bool true), (s.hpp hs).app [] [] []))
  {P Q : List PV} (hla : ¬ (a.length : Int) > 400) (hlb : ¬ (b.length : Int) > 400) (hp : ∀ st, E L (.func 8) [.sl (ints a) .dead] st = some (.agg P, st)) (hq : ∀ st, E L (.func 8) [.sl (ints b) .dead] st = some (.agg Q, st))
  (pok : okCells P = true) (qok : okCells Q = true) (pl : P.length = 4) (ql : Q.length = 4)
  {t u : List PV} {ts us : List (List PV)} (p3 : AM.part false 1 3 P = some (.sl (t :: ts) .dead)) (q3 : AM.part false 1 3 Q = some (.sl (u :: us) .dead))
  {X Y XY YX N : List (List PV)} (tl : t.length = 3) (ul : u.length = 3) (tp : AM.part false 1 0 t = some (.sl X .dead)) (up : AM.part false 1 0 u = some (.sl Y .dead))
  {Z : List PV} (lit0 : rBuildSlice 58 Zs 0 [] = some (.sl N .full)) {c1 c2 c3 c4 c5 c6 : Cap} {k1 k2 k3 k4 k5 k6 : List (Nat × Nat)}
  (e1 : ∀ (bl : List Blk) (lp : List Aux) (base : Nat) (z : List PV), rAppend base z 58 688 (.sl N .full) X ((s.hpp hs).app bl [] lp) = some (.sl X c1, (s.hpp hs).app bl k1 lp))
  (e2 : ∀ (bl : List Blk) (lp : List Aux) (base : Nat) (z : List PV), rAppend base z 58 688 (.sl X c1) Y ((s.hpp hs).app bl k1 lp) = some (.sl XY c2, (s.hpp hs).app bl k2 lp))
  (e3 : ∀ (bl : List Blk) (lp : List Aux) (base : Nat) (z : List PV), rAppend base z 58 688 (.sl N .full) Y ((s.hpp hs).app bl k2 lp) = some (.sl Y c3, (s.hpp hs).app bl k3 lp))
  (e4 : ∀ (bl : List Blk) (lp : List Aux) (base : Nat) (z : List PV), rAppend base z 58 688 (.sl Y c3) X ((s.hpp hs).app bl k3 lp) = some (.sl YX c4, (s.hpp hs).app bl k4 lp))
  {b1 b2 b3 : Blk} {nx ny nxy : Int}
  (g1 : ∀ st, E L (.func 9) [.sl XY .dead, int 1000] st = some (.tup [int nxy, .v (.bool true)], st.hpp [b1]))
  (g2 : ∀ st, E L (.func 9) [.sl X .dead, int 1000] st = some (.tup [int nx, .v (.bool true)], st.hpp [b2]))
  (g3 : ∀ st, E L (.func 9) [.sl Y .dead, int 1000] st = some (.tup [int ny, .v (.bool true)], st.hpp [b3]))
  (wr : IntKind.i64.wrap (nx + ny) = nxy)
  (e5 : ∀ (bl : List Blk) (lp : List Aux) (base : Nat) (z : List PV), rAppend base z 58 688 (.sl N .full) X ((s.hpp (hs ++ [b1, b2, b3])).app bl k4 lp) = some (.sl X c5, (s.hpp (hs ++ [b1, b2, b3])).app bl k5 lp))
  (e6 : ∀ (bl : List Blk) (lp : List Aux) (base : Nat) (z : List PV), rAppend base z 58 688 (.sl X c5) Y ((s.hpp (hs ++ [b1, b2, b3])).app bl k5 lp) = some (.sl XY c6, (s.hpp (hs ++ [b1, b2, b3])).app bl k6 lp))
  (t1 : ∀ st, E L (.func 10) [.sl XY .dead, .sl XY .dead] st = some (.v (.bool true), st))
  {A1 A2 : List PV} {E1 E2 : List (List PV)}
  (v1 : rBuild [(0, 1), (1, 1), (2, 1), (3, 2), (5, 1), (6, 1), (7, 1), (8, 1)] [.v (.int .i64 0), .v (.int .i64 0), .v (.int .u64 0), .v (.int .i64 0), .v (.string ⟨#[]⟩), .v (.string ⟨#[]⟩), .sl [] .nil, .v (.int .i64 0), .v (.int .i64 0)] [(2, PV.v (.int .u64 1))] = some (.agg A1))
  (v2 : rBuild [(0, 1), (1, 1), (2, 1), (3, 2), (5, 1), (6, 1), (7, 1), (8, 1)] [.v (.int .i64 0), .v (.int .i64 0), .v (.int .u64 0), .v (.int .i64 0), .v (.string ⟨#[]⟩), .v (.string ⟨#[]⟩), .sl [] .nil, .v (.int .i64 0), .v (.int .i64 0)] [(2, PV.v (.int .u64 1)), (6, PV.v (.int .i64 4))] = some (.agg A2))
  (v3 : rBuildSlice 9 [.v (.int .i64 0), .v (.int .i64 0), .v (.int .u64 0), .v (.int .i64 0), .v (.string ⟨#[]⟩), .v (.string ⟨#[]⟩), .sl [] .nil, .v (.int .i64 0), .v (.int .i64 0)] 1 [(0, .agg A1)] = some (.sl E1 .full))
  (v4 : rBuildSlice 9 [.v (.int .i64 0), .v (.int .i64 0), .v (.int .u64 0), .v (.int .i64 0), .v (.string ⟨#[]⟩), .v (.string ⟨#[]⟩), .sl [] .nil, .v (.int .i64 0), .v (.int .i64 0)] 1 [(0, .agg A2)] = some (.sl E2 .full))
  (t4 : ∀ st, E L (.func 11) [.sl E1 .dead, .sl E2 .dead] st = some (.v (.bool true), st))
include ha hla hlb hp hq pok qok pl ql p3 q3 tl ul tp up lit0 e1 e2 e3 e4 g1 g2 g3 wr e5 e6 t1 v1 v2 v3 v4 t4
theorem tr5 (t2 : ∀ st, E L (.func 10) [.sl X .dead, .sl Y .dead] st = some (.v (.bool true), st)) (t3 : ∀ st, E L (.func 10) [.sl XY .dead, .sl YX .dead] st = some (.v (.bool true), st)) : E L (.func 3) [.sl (ints a) .dead, .sl (ints b) .dead] s = some (.v (.bool true), (s.hpp (hs ++ [b1, b2, b3])).app [] [] []) := by
  have ir : ∀ n : Nat, inRange 0 (n + 1) = true := fun n => by simp [inRange]
  have n0 : ∀ n : Nat, ((n : Int) + 1 = 0) = False := fun n => by simp; omega
  rw [S3_eq]
  simp [S3, ha, canon_v, canon_sl, canon_clo, canon_ptr, need_refl, elems_sl, sf_v, sf_sl, sf_ptr, sf_ptrh, sf_clo, sf_dead, sf_nil, sf_full, sf_fr, need_true, ibeq, beq_ba, nbeq, nble, nblt, AM.nth, List.getD_cons_succ, List.getD_cons_zero, bind_step, Option.bind_none, Option.map_some, onBool, AM.onG, onFn, seqK, retK, Ex.outOf, cond_true, cond_false, bin_lss, bin_leq, bin_gtr, bin_geq, bin_eql, bin_neq, bin_add, bin_sub, bin_mul, un_not, str_eql, str_neq, app_push, app_stk, app_tk, app_lp, load_app, load_app0, load_fp, store_app, store_app0, leave_app, leave_app0, AM.ownPut, AM.cellsOf, AM.shift, aPick, fin_v, fin_sl, beq_true, okSz, List.length_cons, List.length_nil, Nat.zero_add, Nat.add_zero, Nat.reduceAdd, decide_true, decide_false, Bool.and_true, Bool.true_and, Bool.and_self, Bool.not_true, Bool.not_false, List.getElem?_cons_zero, List.getElem?_cons_succ, List.nil_append, List.cons_append, hpp_app, hpp_stk, hpp_tk, hpp_lp, hpp_hp, app_lpadd, hload, hload0, hloadh, hstore, hstore0, hleave, hleave0, hfin_v, hfin_sl, hback, hloop, hsetlp, max_int, min_int, hstore_v, hstore_v0, hstore_s, hstore_d, modify_concat, part1, hbackt, hbackl, hback0, List.take_succ_cons, List.take_left, List.take_zero, List.take_nil, -Option.bind_some, len_22, ints_len, hla, hlb, hp, hq, pl, pok, laid0, ql, qok, p3, q3, len_27, n0, ia_27, ir, tl, ul, tp, up, Zc, lit0, e1, e2, e3, e4, g1, g2, g3, aExtract, wr, e5, e6, t1, t2, t3, v1, v2, v3, v4, t4]
end
end Go.Proofs.Ytkbhejcfejembaa.S

/- Trees: the statement TreeRows, as the machine reckons it: its main way. Printed by mkTr.py. No condition. -/
namespace Go.Proofs.Ytkbhejcfejembaa.S
open Go Go.AM Go.Proofs
set_option linter.unusedVariables false
set_option linter.unusedSimpArgs false
set_option maxHeartbeats 8000000
attribute [local congr] bind_stop
section
variable {a b : List Int} {s : St} {hs : List Blk} (ha : E L (.func 7) [] s = some (.v (.bool true), (s.hpp hs).app [] [] []))
  {P Q : List PV} (hla : ¬ (a.length : Int) > 400) (hlb : ¬ (b.length : Int) > 400) (hp : ∀ st, E L (.func 8) [.sl (ints a) .dead] st = some (.agg P, st)) (hq : ∀ st, E L (.func 8) [.sl (ints b) .dead] st = some (.agg Q, st))
  (pok : okCells P = true) (qok : okCells Q = true) (pl : P.length = 4) (ql : Q.length = 4)
  {t u : List PV} {ts us : List (List PV)} (p3 : AM.part false 1 3 P = some (.sl (t :: ts) .dead)) (q3 : AM.part false 1 3 Q = some (.sl (u :: us) .dead))
  {X Y XY YX N : List (List PV)} (tl : t.length = 3) (ul : u.length = 3) (tp : AM.part false 1 0 t = some (.sl X .dead)) (up : AM.part false 1 0 u = some (.sl Y .dead))
  {Z : List PV} (lit0 : rBuildSlice 58 Zs 0 [] = some (.sl N .full)) {c1 c2 c3 c4 c5 c6 : Cap} {k1 k2 k3 k4 k5 k6 : List (Nat × Nat)}
  (e1 : ∀ (bl : List Blk) (lp : List Aux) (base : Nat) (z : List PV), rAppend base z 58 688 (.sl N .full) X ((s.hpp hs).app bl [] lp) = some (.sl X c1, (s.hpp hs).app bl k1 lp))
  (e2 : ∀ (bl : List Blk) (lp : List Aux) (base : Nat) (z : List PV), rAppend base z 58 688 (.sl X c1) Y ((s.hpp hs).app bl k1 lp) = some (.sl XY c2, (s.hpp hs).app bl k2 lp))
  (e3 : ∀ (bl : List Blk) (lp : List Aux) (base : Nat) (z : List PV), rAppend base z 58 688 (.sl N .full) Y ((s.hpp hs).app bl k2 lp) = some (.sl Y c3, (s.hpp hs).app bl k3 lp))
  (e4 : ∀ (bl : List Blk) (lp : List Aux) (base : Nat) (z : List PV), rAppend base z 58 688 (.sl Y c3) X ((s.hpp hs).app bl k3 lp) = some (.sl YX c4, (s.hpp hs).app bl k4 lp))
  {b1 b2 b3 : Blk} {nx ny nxy : Int}
  (g1 : ∀ st, E L (.func 9) [.sl XY .dead, int 1000] st = some (.tup [int nxy, .v (.bool true)], st.hpp [b1]))
  (g2 : ∀ st, E L (.func 9) [.sl X .dead, int 1000] st = some (.tup [int nx, .v (.bool true)], st.hpp [b2]))
  (g3 : ∀ st, E L (.func 9) [.sl Y .dead, int 1000] st = some (.tup [int ny, .v (.bool true)], st.hpp [b3]))
  (wr : IntKind.i64.wrap (nx + ny) = nxy)
  (e5 : ∀ (bl : List Blk) (lp : List Aux) (base : Nat) (z : List PV), rAppend base z 58 688 (.sl N .full) X ((s.hpp (hs ++ [b1, b2, b3])).app bl k4 lp) = some (.sl X c5, (s.hpp (hs ++ [b1, b2, b3])).app bl k5 lp))
  (e6 : ∀ (bl : List Blk) (lp : List Aux) (base : Nat) (z : List PV), rAppend base z 58 688 (.sl X c5) Y ((s.hpp (hs ++ [b1, b2, b3])).app bl k5 lp) = some (.sl XY c6, (s.hpp (hs ++ [b1, b2, b3])).app bl k6 lp))
  (t1 : ∀ st, E L (.func 10) [.sl XY .dead, .sl XY .dead] st = some (.v (.bool true), st))
  {A1 A2 : List PV} {E1 E2 : List (List PV)}
  (v1 : rBuild [(0, 1), (1, 1), (2, 1), (3, 2), (5, 1), (6, 1), (7, 1), (8, 1)] [.v (.int .i64 0), .v (.int .i64 0), .v (.int .u64 0), .v (.int .i64 0), .v (.string ⟨#[]⟩), .v (.string ⟨#[]⟩), .sl [] .nil, .v (.int .i64 0), .v (.int .i64 0)] [(2, PV.v (.int .u64 1))] = some (.agg A1))
  (v2 : rBuild [(0, 1), (1, 1), (2, 1), (3, 2), (5, 1), (6, 1), (7, 1), (8, 1)] [.v (.int .i64 0), .v (.int .i64 0), .v (.int .u64 0), .v (.int .i64 0), .v (.string ⟨#[]⟩), .v (.string ⟨#[]⟩), .sl [] .nil, .v (.int .i64 0), .v (.int .i64 0)] [(2, PV.v (.int .u64 1)), (6, PV.v (.int .i64 4))] = some (.agg A2))
  (v3 : rBuildSlice 9 [.v (.int .i64 0), .v (.int .i64 0), .v (.int .u64 0), .v (.int .i64 0), .v (.string ⟨#[]⟩), .v (.string ⟨#[]⟩), .sl [] .nil, .v (.int .i64 0), .v (.int .i64 0)] 1 [(0, .agg A1)] = some (.sl E1 .full))
  (v4 : rBuildSlice 9 [.v (.int .i64 0), .v (.int .i64 0), .v (.int .u64 0), .v (.int .i64 0), .v (.string ⟨#[]⟩), .v (.string ⟨#[]⟩), .sl [] .nil, .v (.int .i64 0), .v (.int .i64 0)] 1 [(0, .agg A2)] = some (.sl E2 .full))
  (t4 : ∀ st, E L (.func 11) [.sl E1 .dead, .sl E2 .dead] st = some (.v (.bool true), st))
include ha hla hlb hp hq pok qok pl ql p3 q3 tl ul tp up lit0 e1 e2 e3 e4 g1 g2 g3 wr e5 e6 t1 v1 v2 v3 v4 t4
theorem tr6 (t2 : ∀ st, E L (.func 10) [.sl X .dead, .sl Y .dead] st = some (.v (.bool false), st)) : E L (.func 3) [.sl (ints a) .dead, .sl (ints b) .dead] s = some (.v (.bool true), (s.hpp (hs ++ [b1, b2, b3])).app [] [] []) := by
  have ir : ∀ n : Nat, inRange 0 (n + 1) = true := fun n => by simp [inRange]
  have n0 : ∀ n : Nat, ((n : Int) + 1 = 0) = False := fun n => by simp; omega
  rw [S3_eq]
  simp [S3, ha, canon_v, canon_sl, canon_clo, canon_ptr, need_refl, elems_sl, sf_v, sf_sl, sf_ptr, sf_ptrh, sf_clo, sf_dead, sf_nil, sf_full, sf_fr, need_true, ibeq, beq_ba, nbeq, nble, nblt, AM.nth, List.getD_cons_succ, List.getD_cons_zero, bind_step, Option.bind_none, Option.map_some, onBool, AM.onG, onFn, seqK, retK, Ex.outOf, cond_true, cond_false, bin_lss, bin_leq, bin_gtr, bin_geq, bin_eql, bin_neq, bin_add, bin_sub, bin_mul, un_not, str_eql, str_neq, app_push, app_stk, app_tk, app_lp, load_app, load_app0, load_fp, store_app, store_app0, leave_app, leave_app0, AM.ownPut, AM.cellsOf, AM.shift, aPick, fin_v, fin_sl, beq_true, okSz, List.length_cons, List.length_nil, Nat.zero_add, Nat.add_zero, Nat.reduceAdd, decide_true, decide_false, Bool.and_true, Bool.true_and, Bool.and_self, Bool.not_true, Bool.not_false, List.getElem?_cons_zero, List.getElem?_cons_succ, List.nil_append, List.cons_append, hpp_app, hpp_stk, hpp_tk, hpp_lp, hpp_hp, app_lpadd, hload, hload0, hloadh, hstore, hstore0, hleave, hleave0, hfin_v, hfin_sl, hback, hloop, hsetlp, max_int, min_int, hstore_v, hstore_v0, hstore_s, hstore_d, modify_concat, part1, hbackt, hbackl, hback0, List.take_succ_cons, List.take_left, List.take_zero, List.take_nil, -Option.bind_some, len_22, ints_len, hla, hlb, hp, hq, pl, pok, laid0, ql, qok, p3, q3, len_27, n0, ia_27, ir, tl, ul, tp, up, Zc, lit0, e1, e2, e3, e4, g1, g2, g3, aExtract, wr, e5, e6, t1, t2, v1, v2, v3, v4, t4]
end
end Go.Proofs.Ytkbhejcfejembaa.S

/- Trees: the statement TreeRows, as the machine reckons it. No condition. -/
namespace Go.Proofs.Ytkbhejcfejembaa.S
open Go Go.AM Go.Proofs
set_option linter.unusedVariables false
set_option linter.unusedSimpArgs false
set_option maxHeartbeats 8000000

theorem TreeRows_ev (a b : List Int) (s : St) : ∃ st', E L (.func 3) [.sl (ints a) .dead, .sl (ints b) .dead] s = some (.v (.bool true), st') := by
  obtain ⟨hs, ha⟩ := alive_st s
  rw [← app_nil (s.hpp hs)] at ha
  by_cases hla : (a.length : Int) > 400
  · exact ⟨_, tr1 ha hla⟩
  by_cases hlb : (b.length : Int) > 400
  · exact ⟨_, tr2 ha hla hlb⟩
  obtain ⟨p, _, _, pz, hp⟩ := make_ev a (by omega)
  obtain ⟨q, _, _, qz, hq⟩ := make_ev b (by omega)
  have p3 : AM.part false 1 3 p.enc = some (.sl (p.threads.map Th.enc) .dead) := rfl
  have q3 : AM.part false 1 3 q.enc = some (.sl (q.threads.map Th.enc) .dead) := rfl
  cases ht : p.threads with
  | nil =>
    rw [ht] at p3
    exact ⟨_, tr3 ha hla hlb hp hq rfl rfl rfl rfl p3⟩
  | cons t ts =>
  cases hu : q.threads with
  | nil =>
    rw [ht] at p3
    rw [hu] at q3
    exact ⟨_, tr4 ha hla hlb hp hq rfl rfl rfl rfl p3 q3⟩
  | cons u us =>
  have hx := bsz_mem (l := p.bodies) (b := t.body) (by simp [Pg.bodies, ht])
  have hy := bsz_mem (l := q.bodies) (b := u.body) (by simp [Pg.bodies, hu])
  rw [ht] at p3
  rw [hu] at q3
  have tp : AM.part false 1 0 t.enc = some (.sl (sencs t.body) .dead) := rfl
  have up : AM.part false 1 0 u.enc = some (.sl (sencs u.body) .dead) := rfl
  generalize t.body = x at *
  generalize u.body = y at *
  have lx := sszs_len x
  have ly := sszs_len y
  have mb : ∀ l m : List S, l.length ≤ 6000 → m.length ≤ 6000 → ((sencs l).length + (sencs m).length) * 688 ≤ maxLenB := fun l m h1 h2 => by simp only [sencs_length, maxLenB]; omega
  obtain ⟨c1, k1, e1, o1⟩ := app_own (s := s.hpp hs) (tk := []) (es := sencs []) (ys := sencs x) (bytes := 688) (Own.full ..) (mb _ _ (by simp) (by omega)) (sencs_ok _) (sencs_ok _) (by decide) (by decide)
  rw [sencs_app, List.nil_append] at e1 o1
  obtain ⟨c2, k2, e2, o2⟩ := app_own (s := s.hpp hs) (es := sencs x) (ys := sencs y) (bytes := 688) o1 (mb _ _ (by omega) (by omega)) (sencs_ok _) (sencs_ok _) (by decide) (by decide)
  rw [sencs_app] at e2 o2
  obtain ⟨c3, k3, e3, o3⟩ := app_own (s := s.hpp hs) (tk := k2) (es := sencs []) (ys := sencs y) (bytes := 688) (Own.full ..) (mb _ _ (by simp) (by omega)) (sencs_ok _) (sencs_ok _) (by decide) (by decide)
  rw [sencs_app, List.nil_append] at e3 o3
  obtain ⟨c4, k4, e4, o4⟩ := app_own (s := s.hpp hs) (es := sencs y) (ys := sencs x) (bytes := 688) o3 (mb _ _ (by omega) (by omega)) (sencs_ok _) (sencs_ok _) (by decide) (by decide)
  rw [sencs_app] at e4 o4
  obtain ⟨c5, k5, e5, o5⟩ := app_own (s := s.hpp (hs ++ [⟨[.sl (sencs (x ++ y)) .dead], []⟩, ⟨[.sl (sencs x) .dead], []⟩, ⟨[.sl (sencs y) .dead], []⟩])) (tk := k4) (es := sencs []) (ys := sencs x) (bytes := 688) (Own.full ..) (mb _ _ (by simp) (by omega)) (sencs_ok _) (sencs_ok _) (by decide) (by decide)
  rw [sencs_app, List.nil_append] at e5 o5
  obtain ⟨c6, k6, e6, o6⟩ := app_own (s := s.hpp (hs ++ [⟨[.sl (sencs (x ++ y)) .dead], []⟩, ⟨[.sl (sencs x) .dead], []⟩, ⟨[.sl (sencs y) .dead], []⟩])) (es := sencs x) (ys := sencs y) (bytes := 688) o5 (mb _ _ (by omega) (by omega)) (sencs_ok _) (sencs_ok _) (by decide) (by decide)
  rw [sencs_app] at e6 o6
  have g1 := gone_st (x ++ y) (by rw [sszs_app]; omega) 1000
  have g2 := gone_st x (by omega) 1000
  have g3 := gone_st y (by omega) 1000
  rw [cnts_app, show min (cnts x + cnts y) (1000 : Int).toNat = cnts x + cnts y by show min _ 1000 = _; omega] at g1
  rw [show min (cnts x) (1000 : Int).toNat = cnts x by show min _ 1000 = _; omega] at g2
  rw [show min (cnts y) (1000 : Int).toNat = cnts y by show min _ 1000 = _; omega] at g3
  have wr : IntKind.i64.wrap ((cnts x : Nat) + (cnts y : Nat) : Int) = ((cnts x + cnts y : Nat) : Int) := by rw [IntWalk.i64_in _ (by omega)]; omega
  have t1 : ∀ st, E L (.func 10) [.sl (sencs (x ++ y)) .dead, .sl (sencs (x ++ y)) .dead] st = some (.v (.bool true), st) := fun st => by
    rw [stmts_ev (x ++ y) (x ++ y) (by rw [sszs_app]; omega), ssames_refl]
  have t2 := stmts_ev x y (by omega)
  have t4 := exprs_ev [⟨0, 0, 1, 0, ⟨#[]⟩, ⟨#[]⟩, [], 0, 0⟩] [⟨0, 0, 1, 0, ⟨#[]⟩, ⟨#[]⟩, [], 4, 0⟩] (by decide)
  rw [show sames [⟨0, 0, 1, 0, ⟨#[]⟩, ⟨#[]⟩, [], 0, 0⟩] [⟨0, 0, 1, 0, ⟨#[]⟩, ⟨#[]⟩, [], 4, 0⟩] = true by decide] at t4
  have v3 : ∀ n : Int, rBuildSlice 9 [.v (.int .i64 0), .v (.int .i64 0), .v (.int .u64 0), .v (.int .i64 0), .v (.string ⟨#[]⟩), .v (.string ⟨#[]⟩), .sl [] .nil, .v (.int .i64 0), .v (.int .i64 0)] 1 [(0, .agg [int 0, int 0, .v (.int .u64 1), int 0, str ⟨#[]⟩, str ⟨#[]⟩, .sl [] .nil, int n, int 0])] = some (.sl (encs [⟨0, 0, 1, 0, ⟨#[]⟩, ⟨#[]⟩, [], n, 0⟩]) .full) := fun n => by
    simp only [encs, X.enc]
    rfl
  cases hT : ssames x y with
  | true =>
    rw [hT] at t2
    have t3 : ∀ st, E L (.func 10) [.sl (sencs (x ++ y)) .dead, .sl (sencs (y ++ x)) .dead] st = some (.v (.bool true), st) := fun st => by
      rw [stmts_ev (x ++ y) (y ++ x) (by rw [sszs_app]; omega), rows_law hT]
    exact ⟨_, tr5 ha hla hlb hp hq rfl rfl rfl rfl p3 q3 rfl rfl tp up lit58_0 e1 e2 e3 e4 g1 g2 g3 wr e5 e6 t1 rfl rfl (v3 0) (v3 4) t4 t2 t3⟩
  | false =>
    rw [hT] at t2
    exact ⟨_, tr6 ha hla hlb hp hq rfl rfl rfl rfl p3 q3 rfl rfl tp up lit58_0 e1 e2 e3 e4 g1 g2 g3 wr e5 e6 t1 rfl rfl (v3 0) (v3 4) t4 t2⟩
end Go.Proofs.Ytkbhejcfejembaa.S

/- Trees: the machine's own conditions hold of this program. No condition. -/
namespace Go.Proofs.Ytkbhejcfejembaa.S
open Go Go.AM Go.Proofs
set_option linter.unusedVariables false
theorem names_ok : (Try.prog.funcs.toList.all fun fn => !(fn.name == "runtime.NumGoroutine")) = true := by kernel_rfl
theorem ok : LibOk L where
  name f fn h := by
    have h1 := List.all_eq_true.1 names_ok fn (by
      have h : Try.prog.funcs[f]? = some fn := h
      rw [← Array.getElem?_toList] at h
      exact List.mem_of_getElem? h)
    simpa using h1
  mixed := by
    have h : Try.prog.follows .mixedOrders = true := by kernel_rfl
    exact h
  prim f g h := by cases h
end Go.Proofs.Ytkbhejcfejembaa.S

/- Trees: TreeRows is answered true. No condition. -/
namespace Go.Proofs.Ytkbhejcfejembaa.Pure
open Go Go.AM Go.Proofs
theorem TreeRows_ev (a b : List Int) : ∃ k st', evF S.L k (.func 3) [intsPV .i64 a, intsPV .i64 b] st0 = some (.v (.bool true), st') := by
  obtain ⟨st', h⟩ := S.TreeRows_ev a b st0
  obtain ⟨k, hk⟩ := E_evF h
  exact ⟨k, st', hk⟩
end Go.Proofs.Ytkbhejcfejembaa.Pure
