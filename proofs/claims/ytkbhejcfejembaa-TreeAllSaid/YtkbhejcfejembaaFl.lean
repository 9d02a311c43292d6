/- Trees: the document's row of all statements. No condition. -/
import Derived.Test.YtkbhejcfejembaaTx2
set_option linter.all false
namespace Go.Proofs.Ytkbhejcfejembaa.S
open Go Go.AM Go.Proofs
set_option linter.unusedVariables false
set_option linter.unusedSimpArgs false

def ints (l : List Int) : List (List PV) := l.map fun n => [int n]
theorem ints_len (l : List Int) : (ints l).length = l.length := List.length_map ..
theorem ints_ok (l : List Int) : okSz 1 (ints l) = true := okSz_map (fun n => [int n]) (fun _ => rfl) l
theorem ints_app (l m : List Int) : ints l ++ ints m = ints (l ++ m) := (List.map_append ..).symm
theorem sencs_ok (l : List S) : okSz 58 (sencs l) = true := by rw [sencs_map]; exact okSz_map _ S.len l
theorem sencs_app (l m : List S) : sencs l ++ sencs m = sencs (l ++ m) := by simp only [sencs_map]; exact (List.map_append ..).symm

mutual
def S.flat : S → Int → List (S × Int)
  | ⟨op, name, right, place, e, n, args, body, els, l, c⟩, d => (⟨op, name, right, place, e, n, args, body, els, l, c⟩, d) :: (flats body (d + 1) ++ flats els (d + 1))
def flats : List S → Int → List (S × Int)
  | [], _ => []
  | x :: xs, d => x.flat d ++ flats xs d
end
theorem S.flat_eq (x : S) (d : Int) : x.flat d = (x, d) :: (flats x.body (d + 1) ++ flats x.els (d + 1)) := by cases x; rfl
theorem flats_app1 : ∀ (p : List S) (x : S) (d : Int), flats (p ++ [x]) d = flats p d ++ x.flat d
  | [], x, d => by simp [flats]
  | y :: ys, x, d => by simp [flats, flats_app1 ys x]
mutual
theorem S.flat_len : ∀ (x : S) (d : Int), (x.flat d).length ≤ x.sz
  | ⟨op, name, right, place, e, n, args, body, els, l, c⟩, d => by
    have := flats_len body (d + 1)
    have := flats_len els (d + 1)
    simp [S.flat, S.sz]; omega
theorem flats_len : ∀ (xs : List S) (d : Int), (flats xs d).length ≤ sszs xs
  | [], d => by simp [flats]
  | x :: xs, d => by
    have := S.flat_len x d
    have := flats_len xs d
    simp [flats, sszs]; omega
end
def ss (l : List (S × Int)) : List (List PV) := sencs (l.map Prod.fst)
def ds (l : List (S × Int)) : List (List PV) := ints (l.map Prod.snd)
theorem ss_len (l : List (S × Int)) : (ss l).length = l.length := by rw [ss, sencs_length, List.length_map]
theorem ds_len (l : List (S × Int)) : (ds l).length = l.length := by rw [ds, ints_len, List.length_map]
theorem ss_app (l m : List (S × Int)) : ss l ++ ss m = ss (l ++ m) := by rw [ss, ss, ss, sencs_app, List.map_append]
theorem ds_app (l m : List (S × Int)) : ds l ++ ds m = ds (l ++ m) := by rw [ds, ds, ds, ints_app, List.map_append]

/-- Two rows that grow, side by side. -/
def Own2 (s : St) (tk : List (Nat × Nat)) (c1 c2 : Cap) (n : Nat) : Prop := Own s tk c1 n 58 ∧ Own s tk c2 n 1 ∧ Dist c1 c2
theorem app_both {s : St} {tk : List (Nat × Nat)} {c1 c2 : Cap} {l m : List (S × Int)} (h : Own2 s tk c1 c2 l.length) (hb : l.length + m.length ≤ 100000000) :
    ∃ d1 d2 tk1 tk2, (∀ (bl : List Blk) (lp : List Aux) (base : Nat) (z : List PV), rAppend base z 58 688 (.sl (ss l) c1) (ss m) (s.app bl tk lp) = some (.sl (ss (l ++ m)) d1, s.app bl tk1 lp)) ∧
      (∀ (bl : List Blk) (lp : List Aux) (base : Nat) (z : List PV), rAppend base z 1 8 (.sl (ds l) c2) (ds m) (s.app bl tk1 lp) = some (.sl (ds (l ++ m)) d2, s.app bl tk2 lp)) ∧ Own2 s tk2 d1 d2 (l ++ m).length := by
  obtain ⟨h1, h2, h3⟩ := h
  rw [← ss_len] at h1
  obtain ⟨d1, tk1, e1, o1, _, p1⟩ := app_own2 (ys := ss m) (bytes := 688) h1 (by simp only [ss_len, maxLenB]; omega) (sencs_ok _) (sencs_ok _) (by decide) (by decide)
  obtain ⟨h2, h3⟩ := p1 h2 h3
  rw [← ds_len] at h2
  obtain ⟨d2, tk2, e2, o2, _, p2⟩ := app_own2 (ys := ds m) (bytes := 8) h2 (by simp only [ds_len, maxLenB]; omega) (ints_ok _) (ints_ok _) (by decide) (by decide)
  obtain ⟨o1, h3⟩ := p2 o1 h3.symm
  rw [ss_app] at e1 o1
  rw [ds_app] at e2 o2
  rw [ss_len] at o1
  rw [ds_len] at o2
  exact ⟨d1, d2, tk1, tk2, e1, e2, o1, o2, h3.symm⟩

theorem S.sub {x : S} (h : x.sz ≤ 1000000) : sszs x.body < x.sz ∧ sszs x.els < x.sz := by have := S.sz_eq x; omega

set_option maxHeartbeats 4000000 in
theorem flat_loop (s : St) (xs0 : List S) (hb : sszs xs0 ≤ 1000000) (d : Int) (hd : 0 ≤ d) (hd2 : d ≤ 10000000) : ∀ (xs p : List S) (acc : List (S × Int)) (c1 c2 : Cap) (tk : List (Nat × Nat)), xs0 = p ++ xs → acc.length = (flats p d).length → Own2 s tk c1 c2 acc.length →
    (∀ x ∈ xs, ∀ (st : St), E L (.func 19) [.sl (sencs x.body) .dead, int (d + 1)] st = some (.tup [.sl (ss (flats x.body (d + 1))) .dead, .sl (ds (flats x.body (d + 1))) .dead], st) ∧
      E L (.func 19) [.sl (sencs x.els) .dead, int (d + 1)] st = some (.tup [.sl (ss (flats x.els (d + 1))) .dead, .sl (ds (flats x.els (d + 1))) .dead], st)) →
    ∃ j c1' c2' tk', itE (S19.b0 (E L) itE s.stk.length s.lp.length) [int d, .sl (ss acc) c1, .sl (ds acc) c2, .sl (sencs xs0) .dead, int xs0.length, int p.length] (s.app [] tk []) =
      some (.exit 0, [int d, .sl (ss (acc ++ flats xs d)) c1', .sl (ds (acc ++ flats xs d)) c2', .sl (sencs xs0) .dead, int xs0.length, int j], s.app [] tk' [])
  | [], p, acc, c1, c2, tk, hx, ha, ho, hf => by
    have e : xs0.length = p.length := by rw [hx]; simp
    refine ⟨p.length, c1, c2, tk, ?_⟩
    rw [itE_eq]
    simp [S19.b0, canon_v, canon_sl, canon_clo, canon_ptr, need_refl, elems_sl, sf_v, sf_sl, sf_ptr, sf_ptrh, sf_clo, sf_dead, sf_nil, sf_full, sf_fr, need_true, ibeq, beq_ba, nbeq, nble, nblt, AM.nth, List.getD_cons_succ, List.getD_cons_zero, Option.bind_some, Option.bind_none, Option.map_some, onBool, AM.onG, onFn, seqK, retK, Ex.outOf, cond_true, cond_false, bin_lss, bin_leq, bin_gtr, bin_geq, bin_eql, bin_neq, bin_add, bin_sub, bin_mul, un_not, str_eql, str_neq, app_push, app_stk, app_tk, app_lp, load_app, load_app0, load_fp, store_app, store_app0, leave_app, leave_app0, AM.ownPut, AM.cellsOf, AM.shift, aPick, fin_v, fin_sl, beq_true, okSz, List.length_cons, List.length_nil, Nat.zero_add, Nat.add_zero, Nat.reduceAdd, decide_true, decide_false, Bool.and_true, Bool.true_and, Bool.and_self, Bool.not_true, Bool.not_false, List.getElem?_cons_zero, List.getElem?_cons_succ, List.nil_append, List.cons_append, hpp_app, hpp_stk, hpp_tk, hpp_lp, hpp_hp, app_lpadd, hload, hload0, hloadh, hstore, hstore0, hleave, hleave0, hfin_v, hfin_sl, hback, hloop, hsetlp, max_int, min_int, hstore_v, hstore_v0, hstore_s, hstore_d, modify_concat, part1, hbackt, hbackl, hback0, List.take_succ_cons, List.take_left, List.take_zero, List.take_nil, e, flats, ho.1.sfc, ho.2.1.sfc]
  | x :: xs, p, acc, c1, c2, tk, hx, ha, ho, hf => by
    have hlt : (p.length : Int) < (xs0.length : Int) := by rw [hx]; simp; omega
    have g1 : (sencs xs0)[p.length]? = some x.enc := by rw [hx]; exact sencs_get p x xs
    have r1 : inRange (p.length : Int) (sencs xs0).length = true := by rw [sencs_length, hx]; exact inR p x xs
    have hl0 := sszs_len xs0
    have hs0 : sszs xs0 = sszs p + (x.sz + sszs xs) := by rw [hx, sszs_app]; rfl
    have hpl : p.length < xs0.length := by rw [hx]; simp
    have w1 : IntKind.i64.wrap ((p.length : Int) + 1) = (p.length : Int) + 1 := IntWalk.i64_in _ (by omega)
    have wd : IntKind.i64.wrap (d + 1) = d + 1 := IntWalk.i64_in _ (by omega)
    have lp := flats_len p d
    have lb := flats_len x.body (d + 1)
    have le := flats_len x.els (d + 1)
    have hz := S.sz_eq x
    obtain ⟨a1, a2, ta, ta', ea, ea', oa⟩ := app_both (m := [(x, d)]) ho (by simp; omega)
    have ma : (acc ++ [(x, d)]).length = acc.length + 1 := by simp
    generalize hA : acc ++ [(x, d)] = A at ea ea' oa ma
    obtain ⟨b1, b2, tb, tb', eb, eb', ob⟩ := app_both (m := flats x.body (d + 1)) oa (by omega)
    have mb : (A ++ flats x.body (d + 1)).length = A.length + (flats x.body (d + 1)).length := by simp
    generalize hB : A ++ flats x.body (d + 1) = B at eb eb' ob mb
    obtain ⟨f1, f2, tf, tf', ef, ef', of⟩ := app_both (m := flats x.els (d + 1)) ob (by omega)
    have etx : B ++ flats x.els (d + 1) = acc ++ x.flat d := by rw [S.flat_eq, ← hB, ← hA]; simp
    generalize hC : B ++ flats x.els (d + 1) = C at ef ef' of etx
    have hstx := flats_app1 p x d
    obtain ⟨j, g1', g2', tk9, h9⟩ := flat_loop s xs0 hb d hd hd2 xs (p ++ [x]) C f1 f2 tf' (by simp [hx]) (by rw [etx, hstx, List.length_append, List.length_append]; omega) of fun z hz => hf z (List.mem_cons_of_mem _ hz)
    refine ⟨j, g1', g2', tk9, ?_⟩
    rw [show flats (x :: xs) d = x.flat d ++ flats xs d from rfl, ← List.append_assoc, ← etx, ← h9]
    refine it_step ?_
    have hb1 := fun st => (hf x List.mem_cons_self st).1
    have hb2 := fun st => (hf x List.mem_cons_self st).2
    have hs1 : [x.enc] = ss [(x, d)] := by simp [ss, sencs]
    have hd1 : [[int d]] = ds [(x, d)] := by simp [ds, ints]
    clear hf h9 hz hs0
    have inner : itE (S19.b1 (E L) itE s.stk.length s.lp.length) [int d, .sl (ss A) a1, .sl (ds A) a2, .sl (sencs xs0) .dead, int xs0.length, int p.length, .sl [[.sl (sencs x.body) .dead], [.sl (sencs x.els) .dead]] .full, int 2, int 0] (s.app [⟨x.enc, []⟩] ta' []) =
        some (.exit 2, [int d, .sl (ss C) f1, .sl (ds C) f2, .sl (sencs xs0) .dead, int xs0.length, int p.length, .sl [[.sl (sencs x.body) .dead], [.sl (sencs x.els) .dead]] .full, int 2, int 2], s.app [⟨x.enc, []⟩] tf' []) := by
      refine (it_step (vs' := [int d, .sl (ss B) b1, .sl (ds B) b2, .sl (sencs xs0) .dead, int xs0.length, int p.length, .sl [[.sl (sencs x.body) .dead], [.sl (sencs x.els) .dead]] .full, int 2, int 1]) (st' := s.app [⟨x.enc, []⟩] tb' []) ?_).trans ?_
      · simp [S19.b1, canon_v, canon_sl, canon_clo, canon_ptr, need_refl, elems_sl, sf_v, sf_sl, sf_ptr, sf_ptrh, sf_clo, sf_dead, sf_nil, sf_full, sf_fr, need_true, ibeq, beq_ba, nbeq, nble, nblt, AM.nth, List.getD_cons_succ, List.getD_cons_zero, Option.bind_some, Option.bind_none, Option.map_some, onBool, AM.onG, onFn, seqK, retK, Ex.outOf, cond_true, cond_false, bin_lss, bin_leq, bin_gtr, bin_geq, bin_eql, bin_neq, bin_add, bin_sub, bin_mul, un_not, str_eql, str_neq, app_push, app_stk, app_tk, app_lp, load_app, load_app0, load_fp, store_app, store_app0, leave_app, leave_app0, AM.ownPut, AM.cellsOf, AM.shift, aPick, fin_v, fin_sl, beq_true, okSz, List.length_cons, List.length_nil, Nat.zero_add, Nat.add_zero, Nat.reduceAdd, decide_true, decide_false, Bool.and_true, Bool.true_and, Bool.and_self, Bool.not_true, Bool.not_false, List.getElem?_cons_zero, List.getElem?_cons_succ, List.nil_append, List.cons_append, hpp_app, hpp_stk, hpp_tk, hpp_lp, hpp_hp, app_lpadd, hload, hload0, hloadh, hstore, hstore0, hleave, hleave0, hfin_v, hfin_sl, hback, hloop, hsetlp, max_int, min_int, hstore_v, hstore_v0, hstore_s, hstore_d, modify_concat, part1, hbackt, hbackl, hback0, List.take_succ_cons, List.take_left, List.take_zero, List.take_nil, ia_61, inRange, AM.part, wd, hb1, aExtract, eb, eb', show IntKind.i64.wrap 1 = 1 from rfl]
      refine (it_step (vs' := [int d, .sl (ss C) f1, .sl (ds C) f2, .sl (sencs xs0) .dead, int xs0.length, int p.length, .sl [[.sl (sencs x.body) .dead], [.sl (sencs x.els) .dead]] .full, int 2, int 2]) (st' := s.app [⟨x.enc, []⟩] tf' []) ?_).trans ?_
      · simp [S19.b1, canon_v, canon_sl, canon_clo, canon_ptr, need_refl, elems_sl, sf_v, sf_sl, sf_ptr, sf_ptrh, sf_clo, sf_dead, sf_nil, sf_full, sf_fr, need_true, ibeq, beq_ba, nbeq, nble, nblt, AM.nth, List.getD_cons_succ, List.getD_cons_zero, Option.bind_some, Option.bind_none, Option.map_some, onBool, AM.onG, onFn, seqK, retK, Ex.outOf, cond_true, cond_false, bin_lss, bin_leq, bin_gtr, bin_geq, bin_eql, bin_neq, bin_add, bin_sub, bin_mul, un_not, str_eql, str_neq, app_push, app_stk, app_tk, app_lp, load_app, load_app0, load_fp, store_app, store_app0, leave_app, leave_app0, AM.ownPut, AM.cellsOf, AM.shift, aPick, fin_v, fin_sl, beq_true, okSz, List.length_cons, List.length_nil, Nat.zero_add, Nat.add_zero, Nat.reduceAdd, decide_true, decide_false, Bool.and_true, Bool.true_and, Bool.and_self, Bool.not_true, Bool.not_false, List.getElem?_cons_zero, List.getElem?_cons_succ, List.nil_append, List.cons_append, hpp_app, hpp_stk, hpp_tk, hpp_lp, hpp_hp, app_lpadd, hload, hload0, hloadh, hstore, hstore0, hleave, hleave0, hfin_v, hfin_sl, hback, hloop, hsetlp, max_int, min_int, hstore_v, hstore_v0, hstore_s, hstore_d, modify_concat, part1, hbackt, hbackl, hback0, List.take_succ_cons, List.take_left, List.take_zero, List.take_nil, ia_61, inRange, AM.part, wd, hb2, aExtract, ef, ef', show IntKind.i64.wrap 2 = 2 from rfl]
      · refine it_exit ?_
        simp [S19.b1, canon_v, canon_sl, canon_clo, canon_ptr, need_refl, elems_sl, sf_v, sf_sl, sf_ptr, sf_ptrh, sf_clo, sf_dead, sf_nil, sf_full, sf_fr, need_true, ibeq, beq_ba, nbeq, nble, nblt, AM.nth, List.getD_cons_succ, List.getD_cons_zero, Option.bind_some, Option.bind_none, Option.map_some, onBool, AM.onG, onFn, seqK, retK, Ex.outOf, cond_true, cond_false, bin_lss, bin_leq, bin_gtr, bin_geq, bin_eql, bin_neq, bin_add, bin_sub, bin_mul, un_not, str_eql, str_neq, app_push, app_stk, app_tk, app_lp, load_app, load_app0, load_fp, store_app, store_app0, leave_app, leave_app0, AM.ownPut, AM.cellsOf, AM.shift, aPick, fin_v, fin_sl, beq_true, okSz, List.length_cons, List.length_nil, Nat.zero_add, Nat.add_zero, Nat.reduceAdd, decide_true, decide_false, Bool.and_true, Bool.true_and, Bool.and_self, Bool.not_true, Bool.not_false, List.getElem?_cons_zero, List.getElem?_cons_succ, List.nil_append, List.cons_append, hpp_app, hpp_stk, hpp_tk, hpp_lp, hpp_hp, app_lpadd, hload, hload0, hloadh, hstore, hstore0, hleave, hleave0, hfin_v, hfin_sl, hback, hloop, hsetlp, max_int, min_int, hstore_v, hstore_v0, hstore_s, hstore_d, modify_concat, part1, hbackt, hbackl, hback0, List.take_succ_cons, List.take_left, List.take_zero, List.take_nil]
    have bi : rBuildSlice 1 [.v (.int .i64 0)] 1 [(0, int d)] = some (.sl [[int d]] .full) := rfl
    have bb : rBuildSlice 1 [.sl [] .nil] 2 [(0, .sl (sencs x.body) .dead), (1, .sl (sencs x.els) .dead)] = some (.sl [[.sl (sencs x.body) .dead], [.sl (sencs x.els) .dead]] .full) := rfl
    have bx : ∀ z, z.length = 58 → rBuildSlice 58 z 1 [(0, .agg x.enc)] = some (.sl [x.enc] .full) := fun z hz => lit1 hz x.len x.pl x.len
    simp [S19.b0, canon_v, canon_sl, canon_clo, canon_ptr, need_refl, elems_sl, sf_v, sf_sl, sf_ptr, sf_ptrh, sf_clo, sf_dead, sf_nil, sf_full, sf_fr, need_true, ibeq, beq_ba, nbeq, nble, nblt, AM.nth, List.getD_cons_succ, List.getD_cons_zero, Option.bind_some, Option.bind_none, Option.map_some, onBool, AM.onG, onFn, seqK, retK, Ex.outOf, cond_true, cond_false, bin_lss, bin_leq, bin_gtr, bin_geq, bin_eql, bin_neq, bin_add, bin_sub, bin_mul, un_not, str_eql, str_neq, app_push, app_stk, app_tk, app_lp, load_app, load_app0, load_fp, store_app, store_app0, leave_app, leave_app0, AM.ownPut, AM.cellsOf, AM.shift, aPick, fin_v, fin_sl, beq_true, okSz, List.length_cons, List.length_nil, Nat.zero_add, Nat.add_zero, Nat.reduceAdd, decide_true, decide_false, Bool.and_true, Bool.true_and, Bool.and_self, Bool.not_true, Bool.not_false, List.getElem?_cons_zero, List.getElem?_cons_succ, List.nil_append, List.cons_append, hpp_app, hpp_stk, hpp_tk, hpp_lp, hpp_hp, app_lpadd, hload, hload0, hloadh, hstore, hstore0, hleave, hleave0, hfin_v, hfin_sl, hback, hloop, hsetlp, max_int, min_int, hstore_v, hstore_v0, hstore_s, hstore_d, modify_concat, part1, hbackt, hbackl, hback0, List.take_succ_cons, List.take_left, List.take_zero, List.take_nil, hlt, ia_31, r1, g1, S.len, S.whole, S.okc, laid0, bx, hs1, ea, bi, hd1, ea', S.p54_1, S.p55_1, bb, len_61, inner, w1, S.sf4, of.1.sfc, of.2.1.sfc]

theorem flat_ev : ∀ (n : Nat) (xs : List S), sszs xs ≤ n → n ≤ 1000000 → ∀ (d : Int), 0 ≤ d → d + n ≤ 10000000 → ∀ st : St,
    E L (.func 19) [.sl (sencs xs) .dead, int d] st = some (.tup [.sl (ss (flats xs d)) .dead, .sl (ds (flats xs d)) .dead], st) := by
  intro n
  induction n with
  | zero => exact fun xs h hn d h1 h2 st => row0 xs 0 h hn d h1 h2 (fun x hx => by have := sszs_mem hx; have := S.sz_eq x; omega) st
  | succ n ih => exact fun xs h hn d h1 h2 st => row0 xs (n + 1) h hn d h1 h2 (fun x hx => by
      have := sszs_mem hx
      have hz := S.sz_eq x
      exact fun st => ⟨ih x.body (by omega) (by omega) (d + 1) (by omega) (by omega) st, ih x.els (by omega) (by omega) (d + 1) (by omega) (by omega) st⟩) st
where
  row0 (xs : List S) (n : Nat) (h : sszs xs ≤ n) (hn : n ≤ 1000000) (d : Int) (h1 : 0 ≤ d) (h2 : d + n ≤ 10000000)
      (hf : ∀ x ∈ xs, ∀ (st : St), E L (.func 19) [.sl (sencs x.body) .dead, int (d + 1)] st = some (.tup [.sl (ss (flats x.body (d + 1))) .dead, .sl (ds (flats x.body (d + 1))) .dead], st) ∧
        E L (.func 19) [.sl (sencs x.els) .dead, int (d + 1)] st = some (.tup [.sl (ss (flats x.els (d + 1))) .dead, .sl (ds (flats x.els (d + 1))) .dead], st)) (st : St) :
      E L (.func 19) [.sl (sencs xs) .dead, int d] st = some (.tup [.sl (ss (flats xs d)) .dead, .sl (ds (flats xs d)) .dead], st) := by
    obtain ⟨s, rfl⟩ : ∃ s : St, st = s.app [] [] [] := ⟨st, (app_nil st).symm⟩
    obtain ⟨j, c1, c2, tk', hl⟩ := flat_loop s xs (by omega) d h1 (by omega) xs [] [] .nil .nil [] rfl rfl ⟨Own.nil .., Own.nil .., .inl rfl⟩ hf
    rw [S19_eq]
    have e1 : ss [] = [] := rfl
    have e2 : ds [] = [] := rfl
    simp [e1, e2] at hl
    simp [S19, canon_v, canon_sl, canon_clo, canon_ptr, need_refl, elems_sl, sf_v, sf_sl, sf_ptr, sf_ptrh, sf_clo, sf_dead, sf_nil, sf_full, sf_fr, need_true, ibeq, beq_ba, nbeq, nble, nblt, AM.nth, List.getD_cons_succ, List.getD_cons_zero, Option.bind_some, Option.bind_none, Option.map_some, onBool, AM.onG, onFn, seqK, retK, Ex.outOf, cond_true, cond_false, bin_lss, bin_leq, bin_gtr, bin_geq, bin_eql, bin_neq, bin_add, bin_sub, bin_mul, un_not, str_eql, str_neq, app_push, app_stk, app_tk, app_lp, load_app, load_app0, load_fp, store_app, store_app0, leave_app, leave_app0, AM.ownPut, AM.cellsOf, AM.shift, aPick, fin_v, fin_sl, beq_true, okSz, List.length_cons, List.length_nil, Nat.zero_add, Nat.add_zero, Nat.reduceAdd, decide_true, decide_false, Bool.and_true, Bool.true_and, Bool.and_self, Bool.not_true, Bool.not_false, List.getElem?_cons_zero, List.getElem?_cons_succ, List.nil_append, List.cons_append, hpp_app, hpp_stk, hpp_tk, hpp_lp, hpp_hp, app_lpadd, hload, hload0, hloadh, hstore, hstore0, hleave, hleave0, hfin_v, hfin_sl, hback, hloop, hsetlp, max_int, min_int, hstore_v, hstore_v0, hstore_s, hstore_d, modify_concat, part1, hbackt, hbackl, hback0, List.take_succ_cons, List.take_left, List.take_zero, List.take_nil, len_31, sencs_length]
    rw [hl]
    simp [canon_v, canon_sl, canon_clo, canon_ptr, need_refl, elems_sl, sf_v, sf_sl, sf_ptr, sf_ptrh, sf_clo, sf_dead, sf_nil, sf_full, sf_fr, need_true, ibeq, beq_ba, nbeq, nble, nblt, AM.nth, List.getD_cons_succ, List.getD_cons_zero, Option.bind_some, Option.bind_none, Option.map_some, onBool, AM.onG, onFn, seqK, retK, Ex.outOf, cond_true, cond_false, bin_lss, bin_leq, bin_gtr, bin_geq, bin_eql, bin_neq, bin_add, bin_sub, bin_mul, un_not, str_eql, str_neq, app_push, app_stk, app_tk, app_lp, load_app, load_app0, load_fp, store_app, store_app0, leave_app, leave_app0, AM.ownPut, AM.cellsOf, AM.shift, aPick, fin_v, fin_sl, beq_true, okSz, List.length_cons, List.length_nil, Nat.zero_add, Nat.add_zero, Nat.reduceAdd, decide_true, decide_false, Bool.and_true, Bool.true_and, Bool.and_self, Bool.not_true, Bool.not_false, List.getElem?_cons_zero, List.getElem?_cons_succ, List.nil_append, List.cons_append, hpp_app, hpp_stk, hpp_tk, hpp_lp, hpp_hp, app_lpadd, hload, hload0, hloadh, hstore, hstore0, hleave, hleave0, hfin_v, hfin_sl, hback, hloop, hsetlp, max_int, min_int, hstore_v, hstore_v0, hstore_s, hstore_d, modify_concat, part1, hbackt, hbackl, hback0, List.take_succ_cons, List.take_left, List.take_zero, List.take_nil, fin_tup, flatC, canonC]
end Go.Proofs.Ytkbhejcfejembaa.S
