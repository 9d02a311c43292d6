/- Trees: the reference's texts. No condition. -/
import Derived.Test.YtkbhejcfejembaaEq2
import Derived.Test.YtkbhejcfejembaaM28
set_option linter.all false
namespace Go.Proofs.Ytkbhejcfejembaa.S
open Go Go.AM Go.Proofs
set_option linter.unusedVariables false
set_option linter.unusedSimpArgs false

theorem shr_u64 (P : Program) (c : Bool) (t : TypeId) (a b : Int) (h : 0 ≤ b) (h2 : b ≤ 64) : aBin P c .shr t (.v (.int .u64 a)) (.v (.int .u64 b)) = some (.v (.int .u64 (a.fdiv (2 ^ b.toNat)))) := by
  show flatRes (pureIn P (Op.shift .shr .u64 a .u64 b)) = _
  have : ¬ b < 0 := by omega
  have h3 : min b.toNat IntKind.u64.bits = b.toNat := by simp [IntKind.bits]; omega
  simp only [Op.shift, this, if_false, h3]
  exact flat_pure P _ rfl
def by8 (n : Int) (i : Nat) : UInt8 := UInt8.ofNat (IntKind.u8.wrap ((IntKind.u64.wrap n).fdiv (2 ^ i))).toNat
def numT (n : Int) : ByteArray := ⟨#[UInt8.ofNat (IntKind.u8.wrap (IntKind.u64.wrap n)).toNat, by8 n 8, by8 n 16, by8 n 24, by8 n 32, by8 n 40, by8 n 48, by8 n 56]⟩
theorem text_ev (n : Int) (st : St) : E L (.func 37) [int n] st = some (str (numT n), st) := by
  obtain ⟨s, rfl⟩ : ∃ s : St, st = s.app [] [] [] := ⟨st, (app_nil st).symm⟩
  rw [S37_eq]
  simp [canon_v, canon_sl, canon_clo, canon_ptr, need_refl, elems_sl, sf_v, sf_sl, sf_ptr, sf_ptrh, sf_clo, sf_dead, sf_nil, sf_full, sf_fr, need_true, ibeq, beq_ba, nbeq, nble, nblt, AM.nth, List.getD_cons_succ, List.getD_cons_zero, Option.bind_some, Option.bind_none, Option.map_some, onBool, AM.onG, onFn, seqK, retK, Ex.outOf, cond_true, cond_false, bin_lss, bin_leq, bin_gtr, bin_geq, bin_eql, bin_neq, bin_add, bin_sub, bin_mul, un_not, str_eql, str_neq, app_push, app_stk, app_tk, app_lp, load_app, load_app0, load_fp, store_app, store_app0, leave_app, leave_app0, AM.ownPut, AM.cellsOf, AM.shift, aPick, fin_v, fin_sl, beq_true, okSz, List.length_cons, List.length_nil, Nat.zero_add, Nat.add_zero, Nat.reduceAdd, decide_true, decide_false, Bool.and_true, Bool.true_and, Bool.and_self, Bool.not_true, Bool.not_false, List.getElem?_cons_zero, List.getElem?_cons_succ, List.nil_append, List.cons_append, hpp_app, hpp_stk, hpp_tk, hpp_lp, hpp_hp, app_lpadd, hload, hload0, hloadh, hstore, hstore0, hleave, hleave0, hfin_v, hfin_sl, hback, hloop, hsetlp, max_int, min_int, hstore_v, hstore_v0, hstore_s, hstore_d, modify_concat, part1, hbackt, hbackl, hback0, List.take_succ_cons, List.take_left, List.take_zero, List.take_nil, S37, conv_3_38, conv_38_5, shr_u64, rBuildSlice, rLit, fillP, reps, cellsOf, laid, plainCs, plainC, chunks, conv_103_9, bytesOf, AM.byteOfCell]
  rfl

def strs (l : List ByteArray) : List (List PV) := l.map fun b => [str b]
theorem strs_len (l : List ByteArray) : (strs l).length = l.length := List.length_map ..
theorem strs_ok (l : List ByteArray) : okSz 1 (strs l) = true := okSz_map (fun b => [str b]) (fun _ => rfl) l
theorem strs_app (l m : List ByteArray) : strs l ++ strs m = strs (l ++ m) := (List.map_append ..).symm
def w64 (n : Int) : Int := IntKind.i64.wrap n
mutual
def X.text : X → List ByteArray
  | ⟨op, bin, n, kd, rc, name, ks, _, _⟩ => [⟨#[101, 120, 112, 114]⟩, numT op, numT bin, numT (w64 n), numT kd, rc, name, numT ks.length] ++ xtexts ks
def xtexts : List X → List ByteArray
  | [] => []
  | x :: xs => x.text ++ xtexts xs
end
theorem X.text_eq (x : X) : x.text = [⟨#[101, 120, 112, 114]⟩, numT x.op, numT x.bin, numT (w64 x.n), numT x.kd, x.rc, x.name, numT x.kids.length] ++ xtexts x.kids := by
  cases x; simp only [X.text]; rfl
mutual
theorem X.text_len : ∀ x : X, x.text.length = 8 * x.sz
  | ⟨op, bin, n, kd, rc, name, ks, _, _⟩ => by
    have := xtexts_len ks
    simp [X.text, X.sz, this]; omega
theorem xtexts_len : ∀ xs : List X, (xtexts xs).length = 8 * szs xs
  | [] => by simp [xtexts, szs]
  | x :: xs => by
    have := xtexts_len xs
    have := X.text_len x
    simp [xtexts, szs, *]; omega
end

theorem szs_app : ∀ xs ys : List X, szs (xs ++ ys) = szs xs + szs ys
  | [], ys => by simp [szs]
  | x :: xs, ys => by simp [szs, szs_app xs ys]; omega
theorem expr_loop (s : St) (b : Blk) (xs0 : List X) (hb : szs xs0 ≤ 1000000) (hbk : b.cs.all (sf true (s.stk.length + 1) 4) = true) : ∀ (xs p : List X) (acc : List ByteArray) (c : Cap) (tk : List (Nat × Nat)), xs0 = p ++ xs → acc.length = 8 + 8 * szs p → Own s tk c (strs acc).length 1 →
    (∀ x ∈ xs, ∀ (st : St), E L (.func 17) [.agg x.enc] st = some (.sl (strs x.text) .dead, st)) →
    ∃ vs c' tk', itE (S17.b0 (E L) itE s.stk.length s.lp.length) [.sl (strs acc) c, .sl (encs xs0) .dead, int xs0.length, int p.length] (s.app [b] tk []) =
      some (.exit 0, .sl (strs (acc ++ xtexts xs)) c' :: vs, s.app [b] tk' [])
  | [], p, acc, c, tk, hx, ha, ho, hf => by
    have e : xs0.length = p.length := by rw [hx]; simp
    refine ⟨[.sl (encs xs0) .dead, int xs0.length, int p.length], c, tk, ?_⟩
    rw [itE_eq]
    simp [S17.b0, canon_v, canon_sl, canon_clo, canon_ptr, need_refl, elems_sl, sf_v, sf_sl, sf_ptr, sf_ptrh, sf_clo, sf_dead, sf_nil, sf_full, sf_fr, need_true, ibeq, beq_ba, nbeq, nble, nblt, AM.nth, List.getD_cons_succ, List.getD_cons_zero, Option.bind_some, Option.bind_none, Option.map_some, onBool, AM.onG, onFn, seqK, retK, Ex.outOf, cond_true, cond_false, bin_lss, bin_leq, bin_gtr, bin_geq, bin_eql, bin_neq, bin_add, bin_sub, bin_mul, un_not, str_eql, str_neq, app_push, app_stk, app_tk, app_lp, load_app, load_app0, load_fp, store_app, store_app0, leave_app, leave_app0, AM.ownPut, AM.cellsOf, AM.shift, aPick, fin_v, fin_sl, beq_true, okSz, List.length_cons, List.length_nil, Nat.zero_add, Nat.add_zero, Nat.reduceAdd, decide_true, decide_false, Bool.and_true, Bool.true_and, Bool.and_self, Bool.not_true, Bool.not_false, List.getElem?_cons_zero, List.getElem?_cons_succ, List.nil_append, List.cons_append, hpp_app, hpp_stk, hpp_tk, hpp_lp, hpp_hp, app_lpadd, hload, hload0, hloadh, hstore, hstore0, hleave, hleave0, hfin_v, hfin_sl, hback, hloop, hsetlp, max_int, min_int, hstore_v, hstore_v0, hstore_s, hstore_d, modify_concat, part1, hbackt, hbackl, hback0, List.take_succ_cons, List.take_left, List.take_zero, List.take_nil, e, xtexts, ho.sfc, hbk]
  | x :: xs, p, acc, c, tk, hx, ha, ho, hf => by
    have hlt : (p.length : Int) < (xs0.length : Int) := by rw [hx]; simp; omega
    have g1 : (encs xs0)[p.length]? = some x.enc := by rw [hx]; exact encs_get p x xs
    have r1 : inRange (p.length : Int) (encs xs0).length = true := by rw [encs_length, hx]; exact inR p x xs
    have hl0 := szs_len xs0
    have hs0 : szs xs0 = szs p + (x.sz + szs xs) := by rw [hx, szs_app]; rfl
    have hpl : p.length < xs0.length := by rw [hx]; simp
    have w1 : IntKind.i64.wrap ((p.length : Int) + 1) = (p.length : Int) + 1 := IntWalk.i64_in _ (by omega)
    have hc := hf x List.mem_cons_self
    have hxl := X.text_len x
    obtain ⟨c1, tk1, e1, o1⟩ := app_own (ys := strs x.text) (bytes := 16) ho (by simp only [strs_len, maxLenB]; omega) (strs_ok _) (strs_ok _) (by decide) (by decide)
    rw [strs_app] at e1 o1
    obtain ⟨vs, c2, tk2, h2⟩ := expr_loop s b xs0 hb hbk xs (p ++ [x]) (acc ++ x.text) c1 tk1 (by simp [hx]) (by rw [szs_app, List.length_append]; simp [szs]; omega) o1 fun z hz => hf z (List.mem_cons_of_mem _ hz)
    refine ⟨vs, c2, tk2, ?_⟩
    rw [show xtexts (x :: xs) = x.text ++ xtexts xs from rfl, ← List.append_assoc, ← h2]
    refine it_step ?_
    simp [S17.b0, canon_v, canon_sl, canon_clo, canon_ptr, need_refl, elems_sl, sf_v, sf_sl, sf_ptr, sf_ptrh, sf_clo, sf_dead, sf_nil, sf_full, sf_fr, need_true, ibeq, beq_ba, nbeq, nble, nblt, AM.nth, List.getD_cons_succ, List.getD_cons_zero, Option.bind_some, Option.bind_none, Option.map_some, onBool, AM.onG, onFn, seqK, retK, Ex.outOf, cond_true, cond_false, bin_lss, bin_leq, bin_gtr, bin_geq, bin_eql, bin_neq, bin_add, bin_sub, bin_mul, un_not, str_eql, str_neq, app_push, app_stk, app_tk, app_lp, load_app, load_app0, load_fp, store_app, store_app0, leave_app, leave_app0, AM.ownPut, AM.cellsOf, AM.shift, aPick, fin_v, fin_sl, beq_true, okSz, List.length_cons, List.length_nil, Nat.zero_add, Nat.add_zero, Nat.reduceAdd, decide_true, decide_false, Bool.and_true, Bool.true_and, Bool.and_self, Bool.not_true, Bool.not_false, List.getElem?_cons_zero, List.getElem?_cons_succ, List.nil_append, List.cons_append, hpp_app, hpp_stk, hpp_tk, hpp_lp, hpp_hp, app_lpadd, hload, hload0, hloadh, hstore, hstore0, hleave, hleave0, hfin_v, hfin_sl, hback, hloop, hsetlp, max_int, min_int, hstore_v, hstore_v0, hstore_s, hstore_d, modify_concat, part1, hbackt, hbackl, hback0, List.take_succ_cons, List.take_left, List.take_zero, List.take_nil, hlt, ia_41, r1, g1, X.len, X.whole, X.okc, X.can, laid0, hc, e1, w1, o1.sfc, hbk]

theorem expr_ev : ∀ (n : Nat) (x : X), x.sz ≤ n → n ≤ 1000000 → ∀ st : St, E L (.func 17) [.agg x.enc] st = some (.sl (strs x.text) .dead, st)
  | 0, x, h, _ => by rw [X.sz_eq] at h; omega
  | n + 1, x, h, hn => fun st => by
    rw [X.sz_eq] at h
    obtain ⟨s, rfl⟩ : ∃ s : St, st = s.app [] [] [] := ⟨st, (app_nil st).symm⟩
    obtain ⟨vs, c', tk', hl⟩ := expr_loop s ⟨x.enc, []⟩ x.kids (by omega) (X.sf4 ..) x.kids [] [⟨#[101, 120, 112, 114]⟩, numT x.op, numT x.bin, numT (w64 x.n), numT x.kd, x.rc, x.name, numT x.kids.length] .full [] rfl rfl (Own.full ..)
      fun z hz st => expr_ev n z (by have := szs_mem hz; omega) (by omega) st
    rw [S17_eq]
    simp [S17, canon_v, canon_sl, canon_clo, canon_ptr, need_refl, elems_sl, sf_v, sf_sl, sf_ptr, sf_ptrh, sf_clo, sf_dead, sf_nil, sf_full, sf_fr, need_true, ibeq, beq_ba, nbeq, nble, nblt, AM.nth, List.getD_cons_succ, List.getD_cons_zero, Option.bind_some, Option.bind_none, Option.map_some, onBool, AM.onG, onFn, seqK, retK, Ex.outOf, cond_true, cond_false, bin_lss, bin_leq, bin_gtr, bin_geq, bin_eql, bin_neq, bin_add, bin_sub, bin_mul, un_not, str_eql, str_neq, app_push, app_stk, app_tk, app_lp, load_app, load_app0, load_fp, store_app, store_app0, leave_app, leave_app0, AM.ownPut, AM.cellsOf, AM.shift, aPick, fin_v, fin_sl, beq_true, okSz, List.length_cons, List.length_nil, Nat.zero_add, Nat.add_zero, Nat.reduceAdd, decide_true, decide_false, Bool.and_true, Bool.true_and, Bool.and_self, Bool.not_true, Bool.not_false, List.getElem?_cons_zero, List.getElem?_cons_succ, List.nil_append, List.cons_append, hpp_app, hpp_stk, hpp_tk, hpp_lp, hpp_hp, app_lpadd, hload, hload0, hloadh, hstore, hstore0, hleave, hleave0, hfin_v, hfin_sl, hback, hloop, hsetlp, max_int, min_int, hstore_v, hstore_v0, hstore_s, hstore_d, modify_concat, part1, hbackt, hbackl, hback0, List.take_succ_cons, List.take_left, List.take_zero, List.take_nil, X.p0_1, X.p1_1, X.p2_1, X.p3_1, X.p4_1, X.p5_1, X.p6_1, text_ev, conv_38_3, len_41, encs_length, rBuildSlice, rLit, fillP, reps, laid, plainCs, plainC, chunks]
    simp [strs, w64] at hl
    rw [hl]
    simp [canon_v, canon_sl, canon_clo, canon_ptr, need_refl, elems_sl, sf_v, sf_sl, sf_ptr, sf_ptrh, sf_clo, sf_dead, sf_nil, sf_full, sf_fr, need_true, ibeq, beq_ba, nbeq, nble, nblt, AM.nth, List.getD_cons_succ, List.getD_cons_zero, Option.bind_some, Option.bind_none, Option.map_some, onBool, AM.onG, onFn, seqK, retK, Ex.outOf, cond_true, cond_false, bin_lss, bin_leq, bin_gtr, bin_geq, bin_eql, bin_neq, bin_add, bin_sub, bin_mul, un_not, str_eql, str_neq, app_push, app_stk, app_tk, app_lp, load_app, load_app0, load_fp, store_app, store_app0, leave_app, leave_app0, AM.ownPut, AM.cellsOf, AM.shift, aPick, fin_v, fin_sl, beq_true, okSz, List.length_cons, List.length_nil, Nat.zero_add, Nat.add_zero, Nat.reduceAdd, decide_true, decide_false, Bool.and_true, Bool.true_and, Bool.and_self, Bool.not_true, Bool.not_false, List.getElem?_cons_zero, List.getElem?_cons_succ, List.nil_append, List.cons_append, hpp_app, hpp_stk, hpp_tk, hpp_lp, hpp_hp, app_lpadd, hload, hload0, hloadh, hstore, hstore0, hleave, hleave0, hfin_v, hfin_sl, hback, hloop, hsetlp, max_int, min_int, hstore_v, hstore_v0, hstore_s, hstore_d, modify_concat, part1, hbackt, hbackl, hback0, List.take_succ_cons, List.take_left, List.take_zero, List.take_nil, X.text_eq, strs, w64]
end Go.Proofs.Ytkbhejcfejembaa.S
