/- The lexer: numbers are read. No condition. -/
import Derived.Test.YtbbaalimilcppaaDoorGS4
set_option linter.all false
namespace Go.Proofs.YtbbaalimilcppaaDoor.S
open Go Go.AM Go.Proofs
set_option linter.unusedVariables false
set_option linter.unusedSimpArgs false

theorem bin_or8 (P : Program) (cst : Bool) (t : TypeId) (a b : UInt8) : aBin P cst .or t (.v (.int .u8 (a.toNat : Int))) (.v (.int .u8 (b.toNat : Int))) = some (.v (.int .u8 ((a ||| b).toNat : Int))) := by
  have h : binOp .or t (.int .u8 (a.toNat : Int)) (.int .u8 (b.toNat : Int)) = pure (.int .u8 ((a ||| b).toNat : Int)) := by
    have e : ∀ x : UInt8, BitVec.ofInt 8 (x.toNat : Int) = x.toBitVec := fun x => by
      rw [BitVec.ofInt_natCast]; exact BitVec.eq_of_toNat_eq (by simp)
    have e2 : (BitVec.ofInt IntKind.u8.bits (a.toNat : Int) ||| BitVec.ofInt IntKind.u8.bits (b.toNat : Int)).toNat = (a ||| b).toNat := by
      show (BitVec.ofInt 8 (a.toNat : Int) ||| BitVec.ofInt 8 (b.toNat : Int)).toNat = _
      rw [e, e]; rfl
    have e3 : IntKind.u8.wrap ((a ||| b).toNat : Int) = ((a ||| b).toNat : Int) := IntWalk.u8_in _ (by have := (a ||| b).toNat_lt; omega)
    show (pure (.int .u8 (IntKind.u8.wrap ((BitVec.ofInt IntKind.u8.bits (a.toNat : Int) ||| BitVec.ofInt IntKind.u8.bits (b.toNat : Int)).toNat : Int))) : Sem Value) = _
    rw [e2, e3]
  rw [bin_int, h]
  exact flat_pure P _ rfl
theorem F55_ev (c : UInt8) (st : St) : E L (.func 55) [.v (.int .u8 (c.toNat : Int))] st = some (.v (.int .u8 ((c ||| 32).toNat : Int)), st) := by
  rw [S55_eq]
  obtain ⟨N, hN⟩ : ∃ q, st.stk.length = q := ⟨_, rfl⟩
  obtain ⟨T, hT⟩ : ∃ q, st.tk.length = q := ⟨_, rfl⟩
  obtain ⟨Lb, hL⟩ : ∃ q, st.lp.length = q := ⟨_, rfl⟩
  conv => lhs; rw [← app_nil (st)]
  have h := bin_or8 Tryd.prog true 5 c 32
  simp only [show ((32 : UInt8).toNat : Int) = 32 from rfl] at h
  simp [S55, canon_v, canon_sl, canon_clo, canon_ptr, need_refl, elems_sl, sf_v, sf_sl, sf_ptr, sf_ptrh, sf_clo, sf_dead, sf_nil, sf_full, sf_fr, need_true, ibeq, beq_ba, nbeq, nble, nblt, AM.nth, List.getD_cons_succ, List.getD_cons_zero, Option.bind_some, Option.bind_none, Option.map_some, onBool, AM.onG, onFn, seqK, retK, Ex.outOf, cond_true, cond_false, bin_lss, bin_leq, bin_gtr, bin_geq, bin_eql, bin_neq, bin_add, bin_sub, bin_mul, un_not, str_eql, str_neq, app_push, load_fp, AM.ownPut, AM.cellsOf, AM.shift, aPick, beq_true, okSz, List.length_cons, List.length_nil, Nat.zero_add, Nat.add_zero, Nat.reduceAdd, decide_true, decide_false, Bool.and_true, Bool.true_and, Bool.and_self, Bool.not_true, Bool.not_false, List.getElem?_cons_zero, List.getElem?_cons_succ, List.nil_append, List.cons_append, max_int, min_int, modify_concat, part1, List.take_succ_cons, List.take_left, List.take_zero, List.take_nil, app_stk, app_tk, app_lp, set_stk, set_tk, set_lp, set_set, n_load, n_load0, n_old, n_store, n_store0, n_store_old, n_leave, n_leave0, n_fin_v, n_fin_sl, n_fin_u, n_back, n_next, n_blk, n_blk0, n_set, n_set0, n_set_old, bs_size, bs_inj, mk_bs, noPan, onRet, hN, hT, hL, List.toList_toArray, aNilCheck, AM.aExtract, canon, canonA, canonC, List.map_cons, List.map_nil, List.modify_zero_cons, List.modify_succ_cons, AM.part, List.drop_zero, List.drop_succ_cons, List.drop_nil, n_fin_tup, n_fin_agg, flatA, flatA.flatD, AM.flatC, List.all_cons, List.all_nil, h]

/-- What a letter means in a number; 255: nothing. -/
def digv (c : UInt8) : Nat := if 48 ≤ c.toNat ∧ c.toNat ≤ 57 then c.toNat - 48 else if 97 ≤ (c ||| 32).toNat ∧ (c ||| 32).toNat ≤ 122 then (c ||| 32).toNat - 87 else 255
/-- A number that is read: what it is, or what was wrong. -/
def pu (B cut mx : Nat) : List UInt8 → Nat → Nat × Option Nat
  | [], n => (n, none)
  | c :: t, n => if B ≤ digv c then (0, some 2) else if cut ≤ n then (mx, some 1) else if mx < n * B + digv c then (mx, some 1) else pu B cut mx t (n * B + digv c)
theorem wrapU64 (n : Int) : IntKind.u64.wrap n = n % 18446744073709551616 := by
  simp [IntKind.wrap, IntKind.bits, IntKind.signed]
/-- A round's values. -/
abbrev pV (B cut mx : Nat) (t s0 : List UInt8) (n i : Nat) : List PV := [PV.v (.int .i64 (B : Int)), .v (.int .u64 0), .v .nilIface, .v (.bool false), str s0, .v (.int .u64 (cut : Int)), .v (.int .u64 (mx : Int)), .v (.bool false), .v (.int .u64 (n : Int)), .sl (t.map byteC) .dead, .v (.int .i64 (t.length : Int)), .v (.int .i64 (i : Int))]
set_option maxHeartbeats 1000000 in
theorem parse_digit {t s0 : List UInt8} {B cut mx n i d : Nat} (hB : 2 ≤ B ∧ B ≤ 36) (hcut : ∀ n, n < cut → n * B < 18446744073709551616) (hmx : mx < 18446744073709551616) (hc64 : cut < 18446744073709551616) {X : St} {N T Lb : Nat} (hN : X.stk.length = N) (hT : X.tk.length = T) (hL : X.lp.length = Lb) (hi : i < t.length) (hlen : t.length < 4611686018427387904) (ht : 48 ≤ t[i].toNat ∧ t[i].toNat ≤ 57) (hd : d = t[i].toNat - 48) :
    ∃ vs, S48.b0 (E L) itE N Lb (pV B cut mx t s0 n i) (X.app [] [] []) = some (if B ≤ d ∨ cut ≤ n ∨ mx < n * B + d then .ret else .normal, vs, X.app [] [] []) ∧
      (if B ≤ d then AM.nth vs 1 = .v (.int .u64 0) ∧ AM.nth vs 2 = .ifc 70 (.int .i64 2) else if cut ≤ n ∨ mx < n * B + d then AM.nth vs 1 = .v (.int .u64 (mx : Int)) ∧ AM.nth vs 2 = .ifc 70 (.int .i64 1) else vs = pV B cut mx t s0 (n * B + d) (i + 1)) := by
  have hx := ia60 (l := t) (c := .dead) .i64 hi
  generalize t[i] = c at *
  have clt := c.toNat_lt
  have hlt : (i : Int) < (t.length : Int) := by omega
  have wi : IntKind.i64.wrap ((i : Int) + 1) = (i : Int) + 1 := IntWalk.i64_in _ (by omega)
  have wB8 : IntKind.u8.wrap (B : Int) = B := IntWalk.u8_in _ (by omega)
  have wB64 : IntKind.u64.wrap (B : Int) = B := IntWalk.u64_in _ (by omega)
  have i95 : ¬ ((c.toNat : Int) = 95) := by omega
  have i1 : (48 : Int) ≤ (c.toNat : Int) := by omega
  have i2 : (c.toNat : Int) ≤ 57 := by omega
  have wd : IntKind.u8.wrap ((c.toNat : Int) - 48) = (d : Int) := by rw [IntWalk.u8_in _ (by omega)]; omega
  have wd64 : IntKind.u64.wrap (d : Int) = d := IntWalk.u64_in _ (by omega)
  by_cases g1 : B ≤ d
  · have j1 : (B : Int) ≤ (d : Int) := by omega
    simp [S48.b0, canon_v, canon_sl, canon_clo, canon_ptr, need_refl, elems_sl, sf_v, sf_sl, sf_ptr, sf_ptrh, sf_clo, sf_dead, sf_nil, sf_full, sf_fr, need_true, ibeq, beq_ba, nbeq, nble, nblt, AM.nth, List.getD_cons_succ, List.getD_cons_zero, Option.bind_some, Option.bind_none, Option.map_some, onBool, AM.onG, onFn, seqK, retK, Ex.outOf, cond_true, cond_false, bin_lss, bin_leq, bin_gtr, bin_geq, bin_eql, bin_neq, bin_add, bin_sub, bin_mul, un_not, str_eql, str_neq, app_push, load_fp, AM.ownPut, AM.cellsOf, AM.shift, aPick, beq_true, okSz, List.length_cons, List.length_nil, Nat.zero_add, Nat.add_zero, Nat.reduceAdd, decide_true, decide_false, Bool.and_true, Bool.true_and, Bool.and_self, Bool.not_true, Bool.not_false, List.getElem?_cons_zero, List.getElem?_cons_succ, List.nil_append, List.cons_append, max_int, min_int, modify_concat, part1, List.take_succ_cons, List.take_left, List.take_zero, List.take_nil, app_stk, app_tk, app_lp, set_stk, set_tk, set_lp, set_set, n_load, n_load0, n_old, n_store, n_store0, n_store_old, n_leave, n_leave0, n_fin_v, n_fin_sl, n_fin_u, n_back, n_next, n_blk, n_blk0, n_set, n_set0, n_set_old, bs_size, bs_inj, mk_bs, noPan, onRet, hN, hT, hL, List.toList_toArray, aNilCheck, AM.aExtract, canon, canonA, canonC, List.map_cons, List.map_nil, List.modify_zero_cons, List.modify_succ_cons, AM.part, List.drop_zero, List.drop_succ_cons, List.drop_nil, n_fin_tup, n_fin_agg, flatA, flatA.flatD, AM.flatC, List.all_cons, List.all_nil, hlt, hx, byteC, i95, i1, i2, wd, ifc_70, conv_3_5, conv_3_33, conv_5_33, wB8, wB64, wd64, wi, g1, j1]
  have j1 : ¬ ((B : Int) ≤ (d : Int)) := by omega
  by_cases g2 : cut ≤ n
  · have j2 : (cut : Int) ≤ (n : Int) := by omega
    simp [S48.b0, canon_v, canon_sl, canon_clo, canon_ptr, need_refl, elems_sl, sf_v, sf_sl, sf_ptr, sf_ptrh, sf_clo, sf_dead, sf_nil, sf_full, sf_fr, need_true, ibeq, beq_ba, nbeq, nble, nblt, AM.nth, List.getD_cons_succ, List.getD_cons_zero, Option.bind_some, Option.bind_none, Option.map_some, onBool, AM.onG, onFn, seqK, retK, Ex.outOf, cond_true, cond_false, bin_lss, bin_leq, bin_gtr, bin_geq, bin_eql, bin_neq, bin_add, bin_sub, bin_mul, un_not, str_eql, str_neq, app_push, load_fp, AM.ownPut, AM.cellsOf, AM.shift, aPick, beq_true, okSz, List.length_cons, List.length_nil, Nat.zero_add, Nat.add_zero, Nat.reduceAdd, decide_true, decide_false, Bool.and_true, Bool.true_and, Bool.and_self, Bool.not_true, Bool.not_false, List.getElem?_cons_zero, List.getElem?_cons_succ, List.nil_append, List.cons_append, max_int, min_int, modify_concat, part1, List.take_succ_cons, List.take_left, List.take_zero, List.take_nil, app_stk, app_tk, app_lp, set_stk, set_tk, set_lp, set_set, n_load, n_load0, n_old, n_store, n_store0, n_store_old, n_leave, n_leave0, n_fin_v, n_fin_sl, n_fin_u, n_back, n_next, n_blk, n_blk0, n_set, n_set0, n_set_old, bs_size, bs_inj, mk_bs, noPan, onRet, hN, hT, hL, List.toList_toArray, aNilCheck, AM.aExtract, canon, canonA, canonC, List.map_cons, List.map_nil, List.modify_zero_cons, List.modify_succ_cons, AM.part, List.drop_zero, List.drop_succ_cons, List.drop_nil, n_fin_tup, n_fin_agg, flatA, flatA.flatD, AM.flatC, List.all_cons, List.all_nil, hlt, hx, byteC, i95, i1, i2, wd, ifc_70, conv_3_5, conv_3_33, conv_5_33, wB8, wB64, wd64, wi, g1, j1, g2, j2]
  have j2 : ¬ ((cut : Int) ≤ (n : Int)) := by omega
  have hm := hcut n (by omega)
  have wm : IntKind.u64.wrap ((n : Int) * (B : Int)) = ((n * B : Nat) : Int) := by rw [← Int.natCast_mul]; exact IntWalk.u64_in _ (by omega)
  generalize n * B = m at *
  by_cases g3 : mx < m + d
  · by_cases g4 : m + d < 18446744073709551616
    · have wa : IntKind.u64.wrap ((m : Int) + (d : Int)) = (m : Int) + (d : Int) := IntWalk.u64_in _ (by omega)
      have j3 : ¬ ((m : Int) + (d : Int) < (m : Int)) := by omega
      have j4 : (mx : Int) < (m : Int) + (d : Int) := by omega
      simp [S48.b0, canon_v, canon_sl, canon_clo, canon_ptr, need_refl, elems_sl, sf_v, sf_sl, sf_ptr, sf_ptrh, sf_clo, sf_dead, sf_nil, sf_full, sf_fr, need_true, ibeq, beq_ba, nbeq, nble, nblt, AM.nth, List.getD_cons_succ, List.getD_cons_zero, Option.bind_some, Option.bind_none, Option.map_some, onBool, AM.onG, onFn, seqK, retK, Ex.outOf, cond_true, cond_false, bin_lss, bin_leq, bin_gtr, bin_geq, bin_eql, bin_neq, bin_add, bin_sub, bin_mul, un_not, str_eql, str_neq, app_push, load_fp, AM.ownPut, AM.cellsOf, AM.shift, aPick, beq_true, okSz, List.length_cons, List.length_nil, Nat.zero_add, Nat.add_zero, Nat.reduceAdd, decide_true, decide_false, Bool.and_true, Bool.true_and, Bool.and_self, Bool.not_true, Bool.not_false, List.getElem?_cons_zero, List.getElem?_cons_succ, List.nil_append, List.cons_append, max_int, min_int, modify_concat, part1, List.take_succ_cons, List.take_left, List.take_zero, List.take_nil, app_stk, app_tk, app_lp, set_stk, set_tk, set_lp, set_set, n_load, n_load0, n_old, n_store, n_store0, n_store_old, n_leave, n_leave0, n_fin_v, n_fin_sl, n_fin_u, n_back, n_next, n_blk, n_blk0, n_set, n_set0, n_set_old, bs_size, bs_inj, mk_bs, noPan, onRet, hN, hT, hL, List.toList_toArray, aNilCheck, AM.aExtract, canon, canonA, canonC, List.map_cons, List.map_nil, List.modify_zero_cons, List.modify_succ_cons, AM.part, List.drop_zero, List.drop_succ_cons, List.drop_nil, n_fin_tup, n_fin_agg, flatA, flatA.flatD, AM.flatC, List.all_cons, List.all_nil, hlt, hx, byteC, i95, i1, i2, wd, ifc_70, conv_3_5, conv_3_33, conv_5_33, wB8, wB64, wd64, wi, g1, j1, g2, j2, wm, wa, g3, j3, j4]
    · have wa : IntKind.u64.wrap ((m : Int) + (d : Int)) = (m : Int) + (d : Int) - 18446744073709551616 := by rw [wrapU64]; omega
      have j3 : (m : Int) + (d : Int) - 18446744073709551616 < (m : Int) := by omega
      simp [S48.b0, canon_v, canon_sl, canon_clo, canon_ptr, need_refl, elems_sl, sf_v, sf_sl, sf_ptr, sf_ptrh, sf_clo, sf_dead, sf_nil, sf_full, sf_fr, need_true, ibeq, beq_ba, nbeq, nble, nblt, AM.nth, List.getD_cons_succ, List.getD_cons_zero, Option.bind_some, Option.bind_none, Option.map_some, onBool, AM.onG, onFn, seqK, retK, Ex.outOf, cond_true, cond_false, bin_lss, bin_leq, bin_gtr, bin_geq, bin_eql, bin_neq, bin_add, bin_sub, bin_mul, un_not, str_eql, str_neq, app_push, load_fp, AM.ownPut, AM.cellsOf, AM.shift, aPick, beq_true, okSz, List.length_cons, List.length_nil, Nat.zero_add, Nat.add_zero, Nat.reduceAdd, decide_true, decide_false, Bool.and_true, Bool.true_and, Bool.and_self, Bool.not_true, Bool.not_false, List.getElem?_cons_zero, List.getElem?_cons_succ, List.nil_append, List.cons_append, max_int, min_int, modify_concat, part1, List.take_succ_cons, List.take_left, List.take_zero, List.take_nil, app_stk, app_tk, app_lp, set_stk, set_tk, set_lp, set_set, n_load, n_load0, n_old, n_store, n_store0, n_store_old, n_leave, n_leave0, n_fin_v, n_fin_sl, n_fin_u, n_back, n_next, n_blk, n_blk0, n_set, n_set0, n_set_old, bs_size, bs_inj, mk_bs, noPan, onRet, hN, hT, hL, List.toList_toArray, aNilCheck, AM.aExtract, canon, canonA, canonC, List.map_cons, List.map_nil, List.modify_zero_cons, List.modify_succ_cons, AM.part, List.drop_zero, List.drop_succ_cons, List.drop_nil, n_fin_tup, n_fin_agg, flatA, flatA.flatD, AM.flatC, List.all_cons, List.all_nil, hlt, hx, byteC, i95, i1, i2, wd, ifc_70, conv_3_5, conv_3_33, conv_5_33, wB8, wB64, wd64, wi, g1, j1, g2, j2, wm, wa, g3, j3]
  · have wa : IntKind.u64.wrap ((m : Int) + (d : Int)) = (m : Int) + (d : Int) := IntWalk.u64_in _ (by omega)
    have j3 : ¬ ((m : Int) + (d : Int) < (m : Int)) := by omega
    have j4 : ¬ ((mx : Int) < (m : Int) + (d : Int)) := by omega
    simp [S48.b0, canon_v, canon_sl, canon_clo, canon_ptr, need_refl, elems_sl, sf_v, sf_sl, sf_ptr, sf_ptrh, sf_clo, sf_dead, sf_nil, sf_full, sf_fr, need_true, ibeq, beq_ba, nbeq, nble, nblt, AM.nth, List.getD_cons_succ, List.getD_cons_zero, Option.bind_some, Option.bind_none, Option.map_some, onBool, AM.onG, onFn, seqK, retK, Ex.outOf, cond_true, cond_false, bin_lss, bin_leq, bin_gtr, bin_geq, bin_eql, bin_neq, bin_add, bin_sub, bin_mul, un_not, str_eql, str_neq, app_push, load_fp, AM.ownPut, AM.cellsOf, AM.shift, aPick, beq_true, okSz, List.length_cons, List.length_nil, Nat.zero_add, Nat.add_zero, Nat.reduceAdd, decide_true, decide_false, Bool.and_true, Bool.true_and, Bool.and_self, Bool.not_true, Bool.not_false, List.getElem?_cons_zero, List.getElem?_cons_succ, List.nil_append, List.cons_append, max_int, min_int, modify_concat, part1, List.take_succ_cons, List.take_left, List.take_zero, List.take_nil, app_stk, app_tk, app_lp, set_stk, set_tk, set_lp, set_set, n_load, n_load0, n_old, n_store, n_store0, n_store_old, n_leave, n_leave0, n_fin_v, n_fin_sl, n_fin_u, n_back, n_next, n_blk, n_blk0, n_set, n_set0, n_set_old, bs_size, bs_inj, mk_bs, noPan, onRet, hN, hT, hL, List.toList_toArray, aNilCheck, AM.aExtract, canon, canonA, canonC, List.map_cons, List.map_nil, List.modify_zero_cons, List.modify_succ_cons, AM.part, List.drop_zero, List.drop_succ_cons, List.drop_nil, n_fin_tup, n_fin_agg, flatA, flatA.flatD, AM.flatC, List.all_cons, List.all_nil, hlt, hx, byteC, i95, i1, i2, wd, ifc_70, conv_3_5, conv_3_33, conv_5_33, wB8, wB64, wd64, wi, g1, j1, g2, j2, wm, wa, g3, j3, j4]
set_option maxHeartbeats 1000000 in
theorem parse_letter {t s0 : List UInt8} {B cut mx n i d : Nat} (hB : 2 ≤ B ∧ B ≤ 36) (hcut : ∀ n, n < cut → n * B < 18446744073709551616) (hmx : mx < 18446744073709551616) (hc64 : cut < 18446744073709551616) {X : St} {N T Lb : Nat} (hN : X.stk.length = N) (hT : X.tk.length = T) (hL : X.lp.length = Lb) (hi : i < t.length) (hlen : t.length < 4611686018427387904) (h57 : 57 < t[i].toNat) (h95 : t[i].toNat ≠ 95) (ht : 97 ≤ (t[i] ||| 32).toNat ∧ (t[i] ||| 32).toNat ≤ 122) (hd : d = (t[i] ||| 32).toNat - 87) :
    ∃ vs, S48.b0 (E L) itE N Lb (pV B cut mx t s0 n i) (X.app [] [] []) = some (if B ≤ d ∨ cut ≤ n ∨ mx < n * B + d then .ret else .normal, vs, X.app [] [] []) ∧
      (if B ≤ d then AM.nth vs 1 = .v (.int .u64 0) ∧ AM.nth vs 2 = .ifc 70 (.int .i64 2) else if cut ≤ n ∨ mx < n * B + d then AM.nth vs 1 = .v (.int .u64 (mx : Int)) ∧ AM.nth vs 2 = .ifc 70 (.int .i64 1) else vs = pV B cut mx t s0 (n * B + d) (i + 1)) := by
  have hx := ia60 (l := t) (c := .dead) .i64 hi
  generalize t[i] = c at *
  have clt := c.toNat_lt
  have hlt : (i : Int) < (t.length : Int) := by omega
  have wi : IntKind.i64.wrap ((i : Int) + 1) = (i : Int) + 1 := IntWalk.i64_in _ (by omega)
  have wB8 : IntKind.u8.wrap (B : Int) = B := IntWalk.u8_in _ (by omega)
  have wB64 : IntKind.u64.wrap (B : Int) = B := IntWalk.u64_in _ (by omega)
  have i95 : ¬ ((c.toNat : Int) = 95) := by omega
  have i1 : (48 : Int) ≤ (c.toNat : Int) := by omega
  have i2 : ¬ ((c.toNat : Int) ≤ 57) := by omega
  have hl := F55_ev c
  generalize (c ||| 32).toNat = lo at *
  have i3 : (97 : Int) ≤ (lo : Int) := by omega
  have i4 : (lo : Int) ≤ 122 := by omega
  have wd0 : IntKind.u8.wrap ((lo : Int) - 97) = (lo : Int) - 97 := IntWalk.u8_in _ (by omega)
  have wd : IntKind.u8.wrap ((lo : Int) - 97 + 10) = (d : Int) := by rw [IntWalk.u8_in _ (by omega)]; omega
  have wd64 : IntKind.u64.wrap (d : Int) = d := IntWalk.u64_in _ (by omega)
  by_cases g1 : B ≤ d
  · have j1 : (B : Int) ≤ (d : Int) := by omega
    simp [S48.b0, canon_v, canon_sl, canon_clo, canon_ptr, need_refl, elems_sl, sf_v, sf_sl, sf_ptr, sf_ptrh, sf_clo, sf_dead, sf_nil, sf_full, sf_fr, need_true, ibeq, beq_ba, nbeq, nble, nblt, AM.nth, List.getD_cons_succ, List.getD_cons_zero, Option.bind_some, Option.bind_none, Option.map_some, onBool, AM.onG, onFn, seqK, retK, Ex.outOf, cond_true, cond_false, bin_lss, bin_leq, bin_gtr, bin_geq, bin_eql, bin_neq, bin_add, bin_sub, bin_mul, un_not, str_eql, str_neq, app_push, load_fp, AM.ownPut, AM.cellsOf, AM.shift, aPick, beq_true, okSz, List.length_cons, List.length_nil, Nat.zero_add, Nat.add_zero, Nat.reduceAdd, decide_true, decide_false, Bool.and_true, Bool.true_and, Bool.and_self, Bool.not_true, Bool.not_false, List.getElem?_cons_zero, List.getElem?_cons_succ, List.nil_append, List.cons_append, max_int, min_int, modify_concat, part1, List.take_succ_cons, List.take_left, List.take_zero, List.take_nil, app_stk, app_tk, app_lp, set_stk, set_tk, set_lp, set_set, n_load, n_load0, n_old, n_store, n_store0, n_store_old, n_leave, n_leave0, n_fin_v, n_fin_sl, n_fin_u, n_back, n_next, n_blk, n_blk0, n_set, n_set0, n_set_old, bs_size, bs_inj, mk_bs, noPan, onRet, hN, hT, hL, List.toList_toArray, aNilCheck, AM.aExtract, canon, canonA, canonC, List.map_cons, List.map_nil, List.modify_zero_cons, List.modify_succ_cons, AM.part, List.drop_zero, List.drop_succ_cons, List.drop_nil, n_fin_tup, n_fin_agg, flatA, flatA.flatD, AM.flatC, List.all_cons, List.all_nil, hlt, hx, byteC, i95, i1, i2, hl, i3, i4, wd0, wd, ifc_70, conv_3_5, conv_3_33, conv_5_33, wB8, wB64, wd64, wi, g1, j1]
  have j1 : ¬ ((B : Int) ≤ (d : Int)) := by omega
  by_cases g2 : cut ≤ n
  · have j2 : (cut : Int) ≤ (n : Int) := by omega
    simp [S48.b0, canon_v, canon_sl, canon_clo, canon_ptr, need_refl, elems_sl, sf_v, sf_sl, sf_ptr, sf_ptrh, sf_clo, sf_dead, sf_nil, sf_full, sf_fr, need_true, ibeq, beq_ba, nbeq, nble, nblt, AM.nth, List.getD_cons_succ, List.getD_cons_zero, Option.bind_some, Option.bind_none, Option.map_some, onBool, AM.onG, onFn, seqK, retK, Ex.outOf, cond_true, cond_false, bin_lss, bin_leq, bin_gtr, bin_geq, bin_eql, bin_neq, bin_add, bin_sub, bin_mul, un_not, str_eql, str_neq, app_push, load_fp, AM.ownPut, AM.cellsOf, AM.shift, aPick, beq_true, okSz, List.length_cons, List.length_nil, Nat.zero_add, Nat.add_zero, Nat.reduceAdd, decide_true, decide_false, Bool.and_true, Bool.true_and, Bool.and_self, Bool.not_true, Bool.not_false, List.getElem?_cons_zero, List.getElem?_cons_succ, List.nil_append, List.cons_append, max_int, min_int, modify_concat, part1, List.take_succ_cons, List.take_left, List.take_zero, List.take_nil, app_stk, app_tk, app_lp, set_stk, set_tk, set_lp, set_set, n_load, n_load0, n_old, n_store, n_store0, n_store_old, n_leave, n_leave0, n_fin_v, n_fin_sl, n_fin_u, n_back, n_next, n_blk, n_blk0, n_set, n_set0, n_set_old, bs_size, bs_inj, mk_bs, noPan, onRet, hN, hT, hL, List.toList_toArray, aNilCheck, AM.aExtract, canon, canonA, canonC, List.map_cons, List.map_nil, List.modify_zero_cons, List.modify_succ_cons, AM.part, List.drop_zero, List.drop_succ_cons, List.drop_nil, n_fin_tup, n_fin_agg, flatA, flatA.flatD, AM.flatC, List.all_cons, List.all_nil, hlt, hx, byteC, i95, i1, i2, hl, i3, i4, wd0, wd, ifc_70, conv_3_5, conv_3_33, conv_5_33, wB8, wB64, wd64, wi, g1, j1, g2, j2]
  have j2 : ¬ ((cut : Int) ≤ (n : Int)) := by omega
  have hm := hcut n (by omega)
  have wm : IntKind.u64.wrap ((n : Int) * (B : Int)) = ((n * B : Nat) : Int) := by rw [← Int.natCast_mul]; exact IntWalk.u64_in _ (by omega)
  generalize n * B = m at *
  by_cases g3 : mx < m + d
  · by_cases g4 : m + d < 18446744073709551616
    · have wa : IntKind.u64.wrap ((m : Int) + (d : Int)) = (m : Int) + (d : Int) := IntWalk.u64_in _ (by omega)
      have j3 : ¬ ((m : Int) + (d : Int) < (m : Int)) := by omega
      have j4 : (mx : Int) < (m : Int) + (d : Int) := by omega
      simp [S48.b0, canon_v, canon_sl, canon_clo, canon_ptr, need_refl, elems_sl, sf_v, sf_sl, sf_ptr, sf_ptrh, sf_clo, sf_dead, sf_nil, sf_full, sf_fr, need_true, ibeq, beq_ba, nbeq, nble, nblt, AM.nth, List.getD_cons_succ, List.getD_cons_zero, Option.bind_some, Option.bind_none, Option.map_some, onBool, AM.onG, onFn, seqK, retK, Ex.outOf, cond_true, cond_false, bin_lss, bin_leq, bin_gtr, bin_geq, bin_eql, bin_neq, bin_add, bin_sub, bin_mul, un_not, str_eql, str_neq, app_push, load_fp, AM.ownPut, AM.cellsOf, AM.shift, aPick, beq_true, okSz, List.length_cons, List.length_nil, Nat.zero_add, Nat.add_zero, Nat.reduceAdd, decide_true, decide_false, Bool.and_true, Bool.true_and, Bool.and_self, Bool.not_true, Bool.not_false, List.getElem?_cons_zero, List.getElem?_cons_succ, List.nil_append, List.cons_append, max_int, min_int, modify_concat, part1, List.take_succ_cons, List.take_left, List.take_zero, List.take_nil, app_stk, app_tk, app_lp, set_stk, set_tk, set_lp, set_set, n_load, n_load0, n_old, n_store, n_store0, n_store_old, n_leave, n_leave0, n_fin_v, n_fin_sl, n_fin_u, n_back, n_next, n_blk, n_blk0, n_set, n_set0, n_set_old, bs_size, bs_inj, mk_bs, noPan, onRet, hN, hT, hL, List.toList_toArray, aNilCheck, AM.aExtract, canon, canonA, canonC, List.map_cons, List.map_nil, List.modify_zero_cons, List.modify_succ_cons, AM.part, List.drop_zero, List.drop_succ_cons, List.drop_nil, n_fin_tup, n_fin_agg, flatA, flatA.flatD, AM.flatC, List.all_cons, List.all_nil, hlt, hx, byteC, i95, i1, i2, hl, i3, i4, wd0, wd, ifc_70, conv_3_5, conv_3_33, conv_5_33, wB8, wB64, wd64, wi, g1, j1, g2, j2, wm, wa, g3, j3, j4]
    · have wa : IntKind.u64.wrap ((m : Int) + (d : Int)) = (m : Int) + (d : Int) - 18446744073709551616 := by rw [wrapU64]; omega
      have j3 : (m : Int) + (d : Int) - 18446744073709551616 < (m : Int) := by omega
      simp [S48.b0, canon_v, canon_sl, canon_clo, canon_ptr, need_refl, elems_sl, sf_v, sf_sl, sf_ptr, sf_ptrh, sf_clo, sf_dead, sf_nil, sf_full, sf_fr, need_true, ibeq, beq_ba, nbeq, nble, nblt, AM.nth, List.getD_cons_succ, List.getD_cons_zero, Option.bind_some, Option.bind_none, Option.map_some, onBool, AM.onG, onFn, seqK, retK, Ex.outOf, cond_true, cond_false, bin_lss, bin_leq, bin_gtr, bin_geq, bin_eql, bin_neq, bin_add, bin_sub, bin_mul, un_not, str_eql, str_neq, app_push, load_fp, AM.ownPut, AM.cellsOf, AM.shift, aPick, beq_true, okSz, List.length_cons, List.length_nil, Nat.zero_add, Nat.add_zero, Nat.reduceAdd, decide_true, decide_false, Bool.and_true, Bool.true_and, Bool.and_self, Bool.not_true, Bool.not_false, List.getElem?_cons_zero, List.getElem?_cons_succ, List.nil_append, List.cons_append, max_int, min_int, modify_concat, part1, List.take_succ_cons, List.take_left, List.take_zero, List.take_nil, app_stk, app_tk, app_lp, set_stk, set_tk, set_lp, set_set, n_load, n_load0, n_old, n_store, n_store0, n_store_old, n_leave, n_leave0, n_fin_v, n_fin_sl, n_fin_u, n_back, n_next, n_blk, n_blk0, n_set, n_set0, n_set_old, bs_size, bs_inj, mk_bs, noPan, onRet, hN, hT, hL, List.toList_toArray, aNilCheck, AM.aExtract, canon, canonA, canonC, List.map_cons, List.map_nil, List.modify_zero_cons, List.modify_succ_cons, AM.part, List.drop_zero, List.drop_succ_cons, List.drop_nil, n_fin_tup, n_fin_agg, flatA, flatA.flatD, AM.flatC, List.all_cons, List.all_nil, hlt, hx, byteC, i95, i1, i2, hl, i3, i4, wd0, wd, ifc_70, conv_3_5, conv_3_33, conv_5_33, wB8, wB64, wd64, wi, g1, j1, g2, j2, wm, wa, g3, j3]
  · have wa : IntKind.u64.wrap ((m : Int) + (d : Int)) = (m : Int) + (d : Int) := IntWalk.u64_in _ (by omega)
    have j3 : ¬ ((m : Int) + (d : Int) < (m : Int)) := by omega
    have j4 : ¬ ((mx : Int) < (m : Int) + (d : Int)) := by omega
    simp [S48.b0, canon_v, canon_sl, canon_clo, canon_ptr, need_refl, elems_sl, sf_v, sf_sl, sf_ptr, sf_ptrh, sf_clo, sf_dead, sf_nil, sf_full, sf_fr, need_true, ibeq, beq_ba, nbeq, nble, nblt, AM.nth, List.getD_cons_succ, List.getD_cons_zero, Option.bind_some, Option.bind_none, Option.map_some, onBool, AM.onG, onFn, seqK, retK, Ex.outOf, cond_true, cond_false, bin_lss, bin_leq, bin_gtr, bin_geq, bin_eql, bin_neq, bin_add, bin_sub, bin_mul, un_not, str_eql, str_neq, app_push, load_fp, AM.ownPut, AM.cellsOf, AM.shift, aPick, beq_true, okSz, List.length_cons, List.length_nil, Nat.zero_add, Nat.add_zero, Nat.reduceAdd, decide_true, decide_false, Bool.and_true, Bool.true_and, Bool.and_self, Bool.not_true, Bool.not_false, List.getElem?_cons_zero, List.getElem?_cons_succ, List.nil_append, List.cons_append, max_int, min_int, modify_concat, part1, List.take_succ_cons, List.take_left, List.take_zero, List.take_nil, app_stk, app_tk, app_lp, set_stk, set_tk, set_lp, set_set, n_load, n_load0, n_old, n_store, n_store0, n_store_old, n_leave, n_leave0, n_fin_v, n_fin_sl, n_fin_u, n_back, n_next, n_blk, n_blk0, n_set, n_set0, n_set_old, bs_size, bs_inj, mk_bs, noPan, onRet, hN, hT, hL, List.toList_toArray, aNilCheck, AM.aExtract, canon, canonA, canonC, List.map_cons, List.map_nil, List.modify_zero_cons, List.modify_succ_cons, AM.part, List.drop_zero, List.drop_succ_cons, List.drop_nil, n_fin_tup, n_fin_agg, flatA, flatA.flatD, AM.flatC, List.all_cons, List.all_nil, hlt, hx, byteC, i95, i1, i2, hl, i3, i4, wd0, wd, ifc_70, conv_3_5, conv_3_33, conv_5_33, wB8, wB64, wd64, wi, g1, j1, g2, j2, wm, wa, g3, j3, j4]
theorem parse_none {t s0 : List UInt8} {B cut mx n i : Nat} (hB : 2 ≤ B ∧ B ≤ 36) (hcut : ∀ n, n < cut → n * B < 18446744073709551616) (hmx : mx < 18446744073709551616) (hc64 : cut < 18446744073709551616) {X : St} {N T Lb : Nat} (hN : X.stk.length = N) (hT : X.tk.length = T) (hL : X.lp.length = Lb) (hi : i < t.length) (hlen : t.length < 4611686018427387904) (ht : ¬ (48 ≤ t[i].toNat ∧ t[i].toNat ≤ 57)) (ht' : ¬ (97 ≤ (t[i] ||| 32).toNat ∧ (t[i] ||| 32).toNat ≤ 122)) :
    ∃ vs, S48.b0 (E L) itE N Lb (pV B cut mx t s0 n i) (X.app [] [] []) = some (.ret, vs, X.app [] [] []) ∧ AM.nth vs 1 = .v (.int .u64 0) ∧ AM.nth vs 2 = .ifc 70 (.int .i64 2) := by
  have hx := ia60 (l := t) (c := .dead) .i64 hi
  generalize t[i] = c at *
  have clt := c.toNat_lt
  have hlt : (i : Int) < (t.length : Int) := by omega
  have wi : IntKind.i64.wrap ((i : Int) + 1) = (i : Int) + 1 := IntWalk.i64_in _ (by omega)
  have wB8 : IntKind.u8.wrap (B : Int) = B := IntWalk.u8_in _ (by omega)
  have wB64 : IntKind.u64.wrap (B : Int) = B := IntWalk.u64_in _ (by omega)
  by_cases h95 : c = 95
  · subst h95
    have hl : ∀ st, E L (.func 55) [.v (.int .u8 95)] st = some (.v (.int .u8 127), st) := fun st => F55_ev 95 st
    simp [S48.b0, canon_v, canon_sl, canon_clo, canon_ptr, need_refl, elems_sl, sf_v, sf_sl, sf_ptr, sf_ptrh, sf_clo, sf_dead, sf_nil, sf_full, sf_fr, need_true, ibeq, beq_ba, nbeq, nble, nblt, AM.nth, List.getD_cons_succ, List.getD_cons_zero, Option.bind_some, Option.bind_none, Option.map_some, onBool, AM.onG, onFn, seqK, retK, Ex.outOf, cond_true, cond_false, bin_lss, bin_leq, bin_gtr, bin_geq, bin_eql, bin_neq, bin_add, bin_sub, bin_mul, un_not, str_eql, str_neq, app_push, load_fp, AM.ownPut, AM.cellsOf, AM.shift, aPick, beq_true, okSz, List.length_cons, List.length_nil, Nat.zero_add, Nat.add_zero, Nat.reduceAdd, decide_true, decide_false, Bool.and_true, Bool.true_and, Bool.and_self, Bool.not_true, Bool.not_false, List.getElem?_cons_zero, List.getElem?_cons_succ, List.nil_append, List.cons_append, max_int, min_int, modify_concat, part1, List.take_succ_cons, List.take_left, List.take_zero, List.take_nil, app_stk, app_tk, app_lp, set_stk, set_tk, set_lp, set_set, n_load, n_load0, n_old, n_store, n_store0, n_store_old, n_leave, n_leave0, n_fin_v, n_fin_sl, n_fin_u, n_back, n_next, n_blk, n_blk0, n_set, n_set0, n_set_old, bs_size, bs_inj, mk_bs, noPan, onRet, hN, hT, hL, List.toList_toArray, aNilCheck, AM.aExtract, canon, canonA, canonC, List.map_cons, List.map_nil, List.modify_zero_cons, List.modify_succ_cons, AM.part, List.drop_zero, List.drop_succ_cons, List.drop_nil, n_fin_tup, n_fin_agg, flatA, flatA.flatD, AM.flatC, List.all_cons, List.all_nil, hlt, hx, byteC, ifc_70, hl]
  have i95 : ¬ ((c.toNat : Int) = 95) := fun h => h95 (UInt8.toNat_inj.1 (by simpa using Int.ofNat_inj.1 h))
  have hl := F55_ev c
  generalize (c ||| 32).toNat = lo at *
  by_cases i1 : (48 : Int) ≤ (c.toNat : Int)
  · have i2 : ¬ ((c.toNat : Int) ≤ 57) := by omega
    by_cases i3 : (97 : Int) ≤ (lo : Int)
    · have i4 : ¬ ((lo : Int) ≤ 122) := by omega
      simp [S48.b0, canon_v, canon_sl, canon_clo, canon_ptr, need_refl, elems_sl, sf_v, sf_sl, sf_ptr, sf_ptrh, sf_clo, sf_dead, sf_nil, sf_full, sf_fr, need_true, ibeq, beq_ba, nbeq, nble, nblt, AM.nth, List.getD_cons_succ, List.getD_cons_zero, Option.bind_some, Option.bind_none, Option.map_some, onBool, AM.onG, onFn, seqK, retK, Ex.outOf, cond_true, cond_false, bin_lss, bin_leq, bin_gtr, bin_geq, bin_eql, bin_neq, bin_add, bin_sub, bin_mul, un_not, str_eql, str_neq, app_push, load_fp, AM.ownPut, AM.cellsOf, AM.shift, aPick, beq_true, okSz, List.length_cons, List.length_nil, Nat.zero_add, Nat.add_zero, Nat.reduceAdd, decide_true, decide_false, Bool.and_true, Bool.true_and, Bool.and_self, Bool.not_true, Bool.not_false, List.getElem?_cons_zero, List.getElem?_cons_succ, List.nil_append, List.cons_append, max_int, min_int, modify_concat, part1, List.take_succ_cons, List.take_left, List.take_zero, List.take_nil, app_stk, app_tk, app_lp, set_stk, set_tk, set_lp, set_set, n_load, n_load0, n_old, n_store, n_store0, n_store_old, n_leave, n_leave0, n_fin_v, n_fin_sl, n_fin_u, n_back, n_next, n_blk, n_blk0, n_set, n_set0, n_set_old, bs_size, bs_inj, mk_bs, noPan, onRet, hN, hT, hL, List.toList_toArray, aNilCheck, AM.aExtract, canon, canonA, canonC, List.map_cons, List.map_nil, List.modify_zero_cons, List.modify_succ_cons, AM.part, List.drop_zero, List.drop_succ_cons, List.drop_nil, n_fin_tup, n_fin_agg, flatA, flatA.flatD, AM.flatC, List.all_cons, List.all_nil, hlt, hx, byteC, ifc_70, hl, i95, i1, i2, i3, i4]
    · simp [S48.b0, canon_v, canon_sl, canon_clo, canon_ptr, need_refl, elems_sl, sf_v, sf_sl, sf_ptr, sf_ptrh, sf_clo, sf_dead, sf_nil, sf_full, sf_fr, need_true, ibeq, beq_ba, nbeq, nble, nblt, AM.nth, List.getD_cons_succ, List.getD_cons_zero, Option.bind_some, Option.bind_none, Option.map_some, onBool, AM.onG, onFn, seqK, retK, Ex.outOf, cond_true, cond_false, bin_lss, bin_leq, bin_gtr, bin_geq, bin_eql, bin_neq, bin_add, bin_sub, bin_mul, un_not, str_eql, str_neq, app_push, load_fp, AM.ownPut, AM.cellsOf, AM.shift, aPick, beq_true, okSz, List.length_cons, List.length_nil, Nat.zero_add, Nat.add_zero, Nat.reduceAdd, decide_true, decide_false, Bool.and_true, Bool.true_and, Bool.and_self, Bool.not_true, Bool.not_false, List.getElem?_cons_zero, List.getElem?_cons_succ, List.nil_append, List.cons_append, max_int, min_int, modify_concat, part1, List.take_succ_cons, List.take_left, List.take_zero, List.take_nil, app_stk, app_tk, app_lp, set_stk, set_tk, set_lp, set_set, n_load, n_load0, n_old, n_store, n_store0, n_store_old, n_leave, n_leave0, n_fin_v, n_fin_sl, n_fin_u, n_back, n_next, n_blk, n_blk0, n_set, n_set0, n_set_old, bs_size, bs_inj, mk_bs, noPan, onRet, hN, hT, hL, List.toList_toArray, aNilCheck, AM.aExtract, canon, canonA, canonC, List.map_cons, List.map_nil, List.modify_zero_cons, List.modify_succ_cons, AM.part, List.drop_zero, List.drop_succ_cons, List.drop_nil, n_fin_tup, n_fin_agg, flatA, flatA.flatD, AM.flatC, List.all_cons, List.all_nil, hlt, hx, byteC, ifc_70, hl, i95, i1, i2, i3]
  · by_cases i3 : (97 : Int) ≤ (lo : Int)
    · have i4 : ¬ ((lo : Int) ≤ 122) := by omega
      simp [S48.b0, canon_v, canon_sl, canon_clo, canon_ptr, need_refl, elems_sl, sf_v, sf_sl, sf_ptr, sf_ptrh, sf_clo, sf_dead, sf_nil, sf_full, sf_fr, need_true, ibeq, beq_ba, nbeq, nble, nblt, AM.nth, List.getD_cons_succ, List.getD_cons_zero, Option.bind_some, Option.bind_none, Option.map_some, onBool, AM.onG, onFn, seqK, retK, Ex.outOf, cond_true, cond_false, bin_lss, bin_leq, bin_gtr, bin_geq, bin_eql, bin_neq, bin_add, bin_sub, bin_mul, un_not, str_eql, str_neq, app_push, load_fp, AM.ownPut, AM.cellsOf, AM.shift, aPick, beq_true, okSz, List.length_cons, List.length_nil, Nat.zero_add, Nat.add_zero, Nat.reduceAdd, decide_true, decide_false, Bool.and_true, Bool.true_and, Bool.and_self, Bool.not_true, Bool.not_false, List.getElem?_cons_zero, List.getElem?_cons_succ, List.nil_append, List.cons_append, max_int, min_int, modify_concat, part1, List.take_succ_cons, List.take_left, List.take_zero, List.take_nil, app_stk, app_tk, app_lp, set_stk, set_tk, set_lp, set_set, n_load, n_load0, n_old, n_store, n_store0, n_store_old, n_leave, n_leave0, n_fin_v, n_fin_sl, n_fin_u, n_back, n_next, n_blk, n_blk0, n_set, n_set0, n_set_old, bs_size, bs_inj, mk_bs, noPan, onRet, hN, hT, hL, List.toList_toArray, aNilCheck, AM.aExtract, canon, canonA, canonC, List.map_cons, List.map_nil, List.modify_zero_cons, List.modify_succ_cons, AM.part, List.drop_zero, List.drop_succ_cons, List.drop_nil, n_fin_tup, n_fin_agg, flatA, flatA.flatD, AM.flatC, List.all_cons, List.all_nil, hlt, hx, byteC, ifc_70, hl, i95, i1, i3, i4]
    · simp [S48.b0, canon_v, canon_sl, canon_clo, canon_ptr, need_refl, elems_sl, sf_v, sf_sl, sf_ptr, sf_ptrh, sf_clo, sf_dead, sf_nil, sf_full, sf_fr, need_true, ibeq, beq_ba, nbeq, nble, nblt, AM.nth, List.getD_cons_succ, List.getD_cons_zero, Option.bind_some, Option.bind_none, Option.map_some, onBool, AM.onG, onFn, seqK, retK, Ex.outOf, cond_true, cond_false, bin_lss, bin_leq, bin_gtr, bin_geq, bin_eql, bin_neq, bin_add, bin_sub, bin_mul, un_not, str_eql, str_neq, app_push, load_fp, AM.ownPut, AM.cellsOf, AM.shift, aPick, beq_true, okSz, List.length_cons, List.length_nil, Nat.zero_add, Nat.add_zero, Nat.reduceAdd, decide_true, decide_false, Bool.and_true, Bool.true_and, Bool.and_self, Bool.not_true, Bool.not_false, List.getElem?_cons_zero, List.getElem?_cons_succ, List.nil_append, List.cons_append, max_int, min_int, modify_concat, part1, List.take_succ_cons, List.take_left, List.take_zero, List.take_nil, app_stk, app_tk, app_lp, set_stk, set_tk, set_lp, set_set, n_load, n_load0, n_old, n_store, n_store0, n_store_old, n_leave, n_leave0, n_fin_v, n_fin_sl, n_fin_u, n_back, n_next, n_blk, n_blk0, n_set, n_set0, n_set_old, bs_size, bs_inj, mk_bs, noPan, onRet, hN, hT, hL, List.toList_toArray, aNilCheck, AM.aExtract, canon, canonA, canonC, List.map_cons, List.map_nil, List.modify_zero_cons, List.modify_succ_cons, AM.part, List.drop_zero, List.drop_succ_cons, List.drop_nil, n_fin_tup, n_fin_agg, flatA, flatA.flatD, AM.flatC, List.all_cons, List.all_nil, hlt, hx, byteC, ifc_70, hl, i95, i1, i3]

theorem letter_at (c : UInt8) (h : 97 ≤ (c ||| 32).toNat ∧ (c ||| 32).toNat ≤ 122) : 57 < c.toNat ∧ c.toNat ≠ 95 := by
  have key : ∀ n, n < 256 → 97 ≤ (UInt8.ofNat n ||| 32).toNat ∧ (UInt8.ofNat n ||| 32).toNat ≤ 122 → 57 < (UInt8.ofNat n).toNat ∧ (UInt8.ofNat n).toNat ≠ 95 := by decide +kernel
  have := key c.toNat c.toNat_lt
  rw [UInt8.ofNat_toNat] at this
  exact this h

def PLo (t s0 : List UInt8) (B cut mx : Nat) (X : St) (N Lb : Nat) (suf : List UInt8) (n i : Nat) : Prop :=
  ∃ x vs, itE (S48.b0 (E L) itE N Lb) (pV B cut mx t s0 n i) (X.app [] [] []) = some (x, vs, X.app [] [] []) ∧
      (match (pu B cut mx suf n).2 with
        | none => x = .exit 3 ∧ vs = pV B cut mx t s0 (pu B cut mx suf n).1 t.length
        | some k => x = .ret ∧ AM.nth vs 1 = .v (.int .u64 ((pu B cut mx suf n).1 : Int)) ∧ AM.nth vs 2 = .ifc 70 (.int .i64 (k : Int)))
theorem parse_loop {t s0 : List UInt8} {B cut mx : Nat} (hB : 2 ≤ B ∧ B ≤ 36) (hcut : ∀ n, n < cut → n * B < 18446744073709551616) (hmx : mx < 18446744073709551616) (hc64 : cut < 18446744073709551616) {X : St} {N T Lb : Nat} (hN : X.stk.length = N) (hT : X.tk.length = T) (hL : X.lp.length = Lb) (hlen : t.length < 4611686018427387904) :
    ∀ (suf pre : List UInt8) (n : Nat), t = pre ++ suf →
    PLo t s0 B cut mx X N Lb suf n pre.length := by
  intro suf
  induction suf with
  | nil =>
    intro pre n ht
    have ht : t = pre := by simpa using ht
    subst ht
    refine ⟨.exit 3, pV B cut mx t s0 n t.length, ?_, rfl, rfl⟩
    apply it_exit
    simp [S48.b0, canon_v, canon_sl, canon_clo, canon_ptr, need_refl, elems_sl, sf_v, sf_sl, sf_ptr, sf_ptrh, sf_clo, sf_dead, sf_nil, sf_full, sf_fr, need_true, ibeq, beq_ba, nbeq, nble, nblt, AM.nth, List.getD_cons_succ, List.getD_cons_zero, Option.bind_some, Option.bind_none, Option.map_some, onBool, AM.onG, onFn, seqK, retK, Ex.outOf, cond_true, cond_false, bin_lss, bin_leq, bin_gtr, bin_geq, bin_eql, bin_neq, bin_add, bin_sub, bin_mul, un_not, str_eql, str_neq, app_push, load_fp, AM.ownPut, AM.cellsOf, AM.shift, aPick, beq_true, okSz, List.length_cons, List.length_nil, Nat.zero_add, Nat.add_zero, Nat.reduceAdd, decide_true, decide_false, Bool.and_true, Bool.true_and, Bool.and_self, Bool.not_true, Bool.not_false, List.getElem?_cons_zero, List.getElem?_cons_succ, List.nil_append, List.cons_append, max_int, min_int, modify_concat, part1, List.take_succ_cons, List.take_left, List.take_zero, List.take_nil, app_stk, app_tk, app_lp, set_stk, set_tk, set_lp, set_set, n_load, n_load0, n_old, n_store, n_store0, n_store_old, n_leave, n_leave0, n_fin_v, n_fin_sl, n_fin_u, n_back, n_next, n_blk, n_blk0, n_set, n_set0, n_set_old, bs_size, bs_inj, mk_bs, noPan, onRet, hN, hT, hL, List.toList_toArray, aNilCheck, AM.aExtract, canon, canonA, canonC, List.map_cons, List.map_nil, List.modify_zero_cons, List.modify_succ_cons, AM.part, List.drop_zero, List.drop_succ_cons, List.drop_nil, n_fin_tup, n_fin_agg, flatA, flatA.flatD, AM.flatC, List.all_cons, List.all_nil]
  | cons c suf ih =>
    intro pre n ht
    have ht' : t = (pre ++ [c]) ++ suf := by simp [ht]
    have hl : pre.length < t.length := by rw [ht]; simp
    have hg : t[pre.length] = c := by simp [ht]
    have fin : ∀ d, d = digv c → (∃ vs, S48.b0 (E L) itE N Lb (pV B cut mx t s0 n pre.length) (X.app [] [] []) = some (if B ≤ d ∨ cut ≤ n ∨ mx < n * B + d then .ret else .normal, vs, X.app [] [] []) ∧
      (if B ≤ d then AM.nth vs 1 = .v (.int .u64 0) ∧ AM.nth vs 2 = .ifc 70 (.int .i64 2) else if cut ≤ n ∨ mx < n * B + d then AM.nth vs 1 = .v (.int .u64 (mx : Int)) ∧ AM.nth vs 2 = .ifc 70 (.int .i64 1) else vs = pV B cut mx t s0 (n * B + d) (pre.length + 1))) → PLo t s0 B cut mx X N Lb (c :: suf) n pre.length := by
      intro d hd h
      obtain ⟨vs, h1, h2⟩ := h
      subst hd
      simp only [PLo, pu]
      by_cases g1 : B ≤ digv c
      · rw [if_pos (.inl g1)] at h1
        rw [if_pos g1] at h2
        rw [if_pos g1]
        exact ⟨.ret, vs, it_ret h1, rfl, h2.1, h2.2⟩
      · rw [if_neg g1] at h2
        rw [if_neg g1]
        by_cases g2 : cut ≤ n ∨ mx < n * B + digv c
        · rw [if_pos (.inr g2)] at h1
          rw [if_pos g2] at h2
          refine ⟨.ret, vs, it_ret h1, ?_⟩
          by_cases g3 : cut ≤ n
          · rw [if_pos g3]; exact ⟨rfl, h2.1, h2.2⟩
          · rw [if_neg g3, if_pos (g2.resolve_left g3)]; exact ⟨rfl, h2.1, h2.2⟩
        · rw [if_neg (by rw [not_or]; exact ⟨g1, g2⟩)] at h1
          rw [if_neg g2] at h2
          subst h2
          rw [if_neg (fun h => g2 (.inl h)), if_neg (fun h => g2 (.inr h)), it_step h1]
          have := ih (pre ++ [c]) (n * B + digv c) ht'
          rw [List.length_append, List.length_singleton] at this
          simp only [PLo] at this
          exact this
    by_cases h1 : 48 ≤ c.toNat ∧ c.toNat ≤ 57
    · exact fin (c.toNat - 48) (by rw [digv, if_pos h1]) (parse_digit hB hcut hmx hc64 hN hT hL hl hlen (by rw [hg]; exact h1) (by rw [hg]))
    · by_cases h2 : 97 ≤ (c ||| 32).toNat ∧ (c ||| 32).toNat ≤ 122
      · exact fin ((c ||| 32).toNat - 87) (by rw [digv, if_neg h1, if_pos h2]) (parse_letter hB hcut hmx hc64 hN hT hL hl hlen (by rw [hg]; exact (letter_at c h2).1) (by rw [hg]; exact (letter_at c h2).2) (by rw [hg]; exact h2) (by rw [hg]))
      · have hd : digv c = 255 := by rw [digv, if_neg h1, if_neg h2]
        obtain ⟨vs, e1, e2, e3⟩ := parse_none (s0 := s0) (n := n) hB hcut hmx hc64 hN hT hL hl hlen (by rw [hg]; exact h1) (by rw [hg]; exact h2)
        simp only [PLo, pu, hd]
        rw [if_pos (by omega)]
        exact ⟨.ret, vs, it_ret e1, rfl, e2, e3⟩
end Go.Proofs.YtbbaalimilcppaaDoor.S

/- The lexer: numbers. No condition. -/
namespace Go.Proofs.YtbbaalimilcppaaDoor.S
open Go Go.AM Go.Proofs
set_option linter.unusedVariables false
set_option linter.unusedSimpArgs false

def puR (B cut mx : Nat) (t : List UInt8) : Nat × Option Nat := if t = [] then (0, some 2) else pu B cut mx t 0
def errPV : Option Nat → PV
  | none => .v .nilIface
  | some k => .ifc 70 (.int .i64 (k : Int))

theorem shl63 : aBin Tryd.prog true .shl 33 (.v (.int .u64 1)) (.v (.int .u64 63)) = some (.v (.int .u64 9223372036854775808)) := by kernel_rfl
theorem F48_10 {t : List UInt8} (h : t.length < 2147483648) (st : St) : E L (.func 48) [str t, .v (.int .i64 10), .v (.int .i64 63)] st = some (.tup [.v (.int .u64 ((puR 10 1844674407370955162 9223372036854775807 t).1 : Int)), errPV (puR 10 1844674407370955162 9223372036854775807 t).2], st) := by
  rw [S48_eq]
  obtain ⟨N, hN⟩ : ∃ q, st.stk.length = q := ⟨_, rfl⟩
  obtain ⟨T, hT⟩ : ∃ q, st.tk.length = q := ⟨_, rfl⟩
  obtain ⟨Lb, hL⟩ : ∃ q, st.lp.length = q := ⟨_, rfl⟩
  conv => lhs; rw [← app_nil (st)]
  by_cases h0 : t = []
  · subst h0
    simp [S48, canon_v, canon_sl, canon_clo, canon_ptr, need_refl, elems_sl, sf_v, sf_sl, sf_ptr, sf_ptrh, sf_clo, sf_dead, sf_nil, sf_full, sf_fr, need_true, ibeq, beq_ba, nbeq, nble, nblt, AM.nth, List.getD_cons_succ, List.getD_cons_zero, Option.bind_some, Option.bind_none, Option.map_some, onBool, AM.onG, onFn, seqK, retK, Ex.outOf, cond_true, cond_false, bin_lss, bin_leq, bin_gtr, bin_geq, bin_eql, bin_neq, bin_add, bin_sub, bin_mul, un_not, str_eql, str_neq, app_push, load_fp, AM.ownPut, AM.cellsOf, AM.shift, aPick, beq_true, okSz, List.length_cons, List.length_nil, Nat.zero_add, Nat.add_zero, Nat.reduceAdd, decide_true, decide_false, Bool.and_true, Bool.true_and, Bool.and_self, Bool.not_true, Bool.not_false, List.getElem?_cons_zero, List.getElem?_cons_succ, List.nil_append, List.cons_append, max_int, min_int, modify_concat, part1, List.take_succ_cons, List.take_left, List.take_zero, List.take_nil, app_stk, app_tk, app_lp, set_stk, set_tk, set_lp, set_set, n_load, n_load0, n_old, n_store, n_store0, n_store_old, n_leave, n_leave0, n_fin_v, n_fin_sl, n_fin_u, n_back, n_next, n_blk, n_blk0, n_set, n_set0, n_set_old, bs_size, bs_inj, mk_bs, noPan, onRet, hN, hT, hL, List.toList_toArray, aNilCheck, AM.aExtract, canon, canonA, canonC, List.map_cons, List.map_nil, List.modify_zero_cons, List.modify_succ_cons, AM.part, List.drop_zero, List.drop_succ_cons, List.drop_nil, n_fin_tup, n_fin_agg, flatA, flatA.flatD, AM.flatC, List.all_cons, List.all_nil, ifc_70, puR, errPV]
  have wb : IntKind.u64.wrap 63 = 63 := IntWalk.u64_in _ (by omega)
  have wm : IntKind.u64.wrap 9223372036854775807 = 9223372036854775807 := by exact IntWalk.u64_in _ (by omega)
  obtain ⟨x, vs, h1, h2⟩ := parse_loop (t := t) (s0 := t) (B := 10) (cut := 1844674407370955162) (mx := 9223372036854775807) (by omega) (fun n h => by omega) (by omega) (by omega) hN hT hL (by omega) t [] 0 rfl
  have e0 : puR 10 1844674407370955162 9223372036854775807 t = pu 10 1844674407370955162 9223372036854775807 t 0 := by rw [puR, if_neg h0]
  rw [e0]
  generalize pu 10 1844674407370955162 9223372036854775807 t 0 = q at h2 ⊢
  obtain ⟨r, k⟩ := q
  simp only [List.length_nil, pV, Int.natCast_zero, Int.cast_ofNat_Int] at h1 h2
  cases k with
  | none =>
    obtain ⟨rfl, rfl⟩ := h2
    simp [S48, canon_v, canon_sl, canon_clo, canon_ptr, need_refl, elems_sl, sf_v, sf_sl, sf_ptr, sf_ptrh, sf_clo, sf_dead, sf_nil, sf_full, sf_fr, need_true, ibeq, beq_ba, nbeq, nble, nblt, AM.nth, List.getD_cons_succ, List.getD_cons_zero, Option.bind_some, Option.bind_none, Option.map_some, onBool, AM.onG, onFn, seqK, retK, Ex.outOf, cond_true, cond_false, bin_lss, bin_leq, bin_gtr, bin_geq, bin_eql, bin_neq, bin_add, bin_sub, bin_mul, un_not, str_eql, str_neq, app_push, load_fp, AM.ownPut, AM.cellsOf, AM.shift, aPick, beq_true, okSz, List.length_cons, List.length_nil, Nat.zero_add, Nat.add_zero, Nat.reduceAdd, decide_true, decide_false, Bool.and_true, Bool.true_and, Bool.and_self, Bool.not_true, Bool.not_false, List.getElem?_cons_zero, List.getElem?_cons_succ, List.nil_append, List.cons_append, max_int, min_int, modify_concat, part1, List.take_succ_cons, List.take_left, List.take_zero, List.take_nil, app_stk, app_tk, app_lp, set_stk, set_tk, set_lp, set_set, n_load, n_load0, n_old, n_store, n_store0, n_store_old, n_leave, n_leave0, n_fin_v, n_fin_sl, n_fin_u, n_back, n_next, n_blk, n_blk0, n_set, n_set0, n_set_old, bs_size, bs_inj, mk_bs, noPan, onRet, hN, hT, hL, List.toList_toArray, aNilCheck, AM.aExtract, canon, canonA, canonC, List.map_cons, List.map_nil, List.modify_zero_cons, List.modify_succ_cons, AM.part, List.drop_zero, List.drop_succ_cons, List.drop_nil, n_fin_tup, n_fin_agg, flatA, flatA.flatD, AM.flatC, List.all_cons, List.all_nil, ifc_70, h0, conv_3_69, conv_9_60, bytesEs_bs, len_60, shl63, wb, wm, h1, errPV]
  | some k =>
    obtain ⟨rfl, h3, h4⟩ := h2
    simp [AM.nth] at h3 h4
    simp [S48, canon_v, canon_sl, canon_clo, canon_ptr, need_refl, elems_sl, sf_v, sf_sl, sf_ptr, sf_ptrh, sf_clo, sf_dead, sf_nil, sf_full, sf_fr, need_true, ibeq, beq_ba, nbeq, nble, nblt, AM.nth, List.getD_cons_succ, List.getD_cons_zero, Option.bind_some, Option.bind_none, Option.map_some, onBool, AM.onG, onFn, seqK, retK, Ex.outOf, cond_true, cond_false, bin_lss, bin_leq, bin_gtr, bin_geq, bin_eql, bin_neq, bin_add, bin_sub, bin_mul, un_not, str_eql, str_neq, app_push, load_fp, AM.ownPut, AM.cellsOf, AM.shift, aPick, beq_true, okSz, List.length_cons, List.length_nil, Nat.zero_add, Nat.add_zero, Nat.reduceAdd, decide_true, decide_false, Bool.and_true, Bool.true_and, Bool.and_self, Bool.not_true, Bool.not_false, List.getElem?_cons_zero, List.getElem?_cons_succ, List.nil_append, List.cons_append, max_int, min_int, modify_concat, part1, List.take_succ_cons, List.take_left, List.take_zero, List.take_nil, app_stk, app_tk, app_lp, set_stk, set_tk, set_lp, set_set, n_load, n_load0, n_old, n_store, n_store0, n_store_old, n_leave, n_leave0, n_fin_v, n_fin_sl, n_fin_u, n_back, n_next, n_blk, n_blk0, n_set, n_set0, n_set_old, bs_size, bs_inj, mk_bs, noPan, onRet, hN, hT, hL, List.toList_toArray, aNilCheck, AM.aExtract, canon, canonA, canonC, List.map_cons, List.map_nil, List.modify_zero_cons, List.modify_succ_cons, AM.part, List.drop_zero, List.drop_succ_cons, List.drop_nil, n_fin_tup, n_fin_agg, flatA, flatA.flatD, AM.flatC, List.all_cons, List.all_nil, ifc_70, h0, conv_3_69, conv_9_60, bytesEs_bs, len_60, shl63, wb, wm, h1, errPV, h3, h4]

theorem shl64 : aBin Tryd.prog true .shl 33 (.v (.int .u64 1)) (.v (.int .u64 64)) = some (.v (.int .u64 0)) := by kernel_rfl
theorem F48_16 {t : List UInt8} (h : t.length < 2147483648) (st : St) : E L (.func 48) [str t, .v (.int .i64 16), .v (.int .i64 64)] st = some (.tup [.v (.int .u64 ((puR 16 1152921504606846976 18446744073709551615 t).1 : Int)), errPV (puR 16 1152921504606846976 18446744073709551615 t).2], st) := by
  rw [S48_eq]
  obtain ⟨N, hN⟩ : ∃ q, st.stk.length = q := ⟨_, rfl⟩
  obtain ⟨T, hT⟩ : ∃ q, st.tk.length = q := ⟨_, rfl⟩
  obtain ⟨Lb, hL⟩ : ∃ q, st.lp.length = q := ⟨_, rfl⟩
  conv => lhs; rw [← app_nil (st)]
  by_cases h0 : t = []
  · subst h0
    simp [S48, canon_v, canon_sl, canon_clo, canon_ptr, need_refl, elems_sl, sf_v, sf_sl, sf_ptr, sf_ptrh, sf_clo, sf_dead, sf_nil, sf_full, sf_fr, need_true, ibeq, beq_ba, nbeq, nble, nblt, AM.nth, List.getD_cons_succ, List.getD_cons_zero, Option.bind_some, Option.bind_none, Option.map_some, onBool, AM.onG, onFn, seqK, retK, Ex.outOf, cond_true, cond_false, bin_lss, bin_leq, bin_gtr, bin_geq, bin_eql, bin_neq, bin_add, bin_sub, bin_mul, un_not, str_eql, str_neq, app_push, load_fp, AM.ownPut, AM.cellsOf, AM.shift, aPick, beq_true, okSz, List.length_cons, List.length_nil, Nat.zero_add, Nat.add_zero, Nat.reduceAdd, decide_true, decide_false, Bool.and_true, Bool.true_and, Bool.and_self, Bool.not_true, Bool.not_false, List.getElem?_cons_zero, List.getElem?_cons_succ, List.nil_append, List.cons_append, max_int, min_int, modify_concat, part1, List.take_succ_cons, List.take_left, List.take_zero, List.take_nil, app_stk, app_tk, app_lp, set_stk, set_tk, set_lp, set_set, n_load, n_load0, n_old, n_store, n_store0, n_store_old, n_leave, n_leave0, n_fin_v, n_fin_sl, n_fin_u, n_back, n_next, n_blk, n_blk0, n_set, n_set0, n_set_old, bs_size, bs_inj, mk_bs, noPan, onRet, hN, hT, hL, List.toList_toArray, aNilCheck, AM.aExtract, canon, canonA, canonC, List.map_cons, List.map_nil, List.modify_zero_cons, List.modify_succ_cons, AM.part, List.drop_zero, List.drop_succ_cons, List.drop_nil, n_fin_tup, n_fin_agg, flatA, flatA.flatD, AM.flatC, List.all_cons, List.all_nil, ifc_70, puR, errPV]
  have wb : IntKind.u64.wrap 64 = 64 := IntWalk.u64_in _ (by omega)
  have wm : IntKind.u64.wrap (-1) = 18446744073709551615 := by rw [wrapU64]; omega
  obtain ⟨x, vs, h1, h2⟩ := parse_loop (t := t) (s0 := t) (B := 16) (cut := 1152921504606846976) (mx := 18446744073709551615) (by omega) (fun n h => by omega) (by omega) (by omega) hN hT hL (by omega) t [] 0 rfl
  have e0 : puR 16 1152921504606846976 18446744073709551615 t = pu 16 1152921504606846976 18446744073709551615 t 0 := by rw [puR, if_neg h0]
  rw [e0]
  generalize pu 16 1152921504606846976 18446744073709551615 t 0 = q at h2 ⊢
  obtain ⟨r, k⟩ := q
  simp only [List.length_nil, pV, Int.natCast_zero, Int.cast_ofNat_Int] at h1 h2
  cases k with
  | none =>
    obtain ⟨rfl, rfl⟩ := h2
    simp [S48, canon_v, canon_sl, canon_clo, canon_ptr, need_refl, elems_sl, sf_v, sf_sl, sf_ptr, sf_ptrh, sf_clo, sf_dead, sf_nil, sf_full, sf_fr, need_true, ibeq, beq_ba, nbeq, nble, nblt, AM.nth, List.getD_cons_succ, List.getD_cons_zero, Option.bind_some, Option.bind_none, Option.map_some, onBool, AM.onG, onFn, seqK, retK, Ex.outOf, cond_true, cond_false, bin_lss, bin_leq, bin_gtr, bin_geq, bin_eql, bin_neq, bin_add, bin_sub, bin_mul, un_not, str_eql, str_neq, app_push, load_fp, AM.ownPut, AM.cellsOf, AM.shift, aPick, beq_true, okSz, List.length_cons, List.length_nil, Nat.zero_add, Nat.add_zero, Nat.reduceAdd, decide_true, decide_false, Bool.and_true, Bool.true_and, Bool.and_self, Bool.not_true, Bool.not_false, List.getElem?_cons_zero, List.getElem?_cons_succ, List.nil_append, List.cons_append, max_int, min_int, modify_concat, part1, List.take_succ_cons, List.take_left, List.take_zero, List.take_nil, app_stk, app_tk, app_lp, set_stk, set_tk, set_lp, set_set, n_load, n_load0, n_old, n_store, n_store0, n_store_old, n_leave, n_leave0, n_fin_v, n_fin_sl, n_fin_u, n_back, n_next, n_blk, n_blk0, n_set, n_set0, n_set_old, bs_size, bs_inj, mk_bs, noPan, onRet, hN, hT, hL, List.toList_toArray, aNilCheck, AM.aExtract, canon, canonA, canonC, List.map_cons, List.map_nil, List.modify_zero_cons, List.modify_succ_cons, AM.part, List.drop_zero, List.drop_succ_cons, List.drop_nil, n_fin_tup, n_fin_agg, flatA, flatA.flatD, AM.flatC, List.all_cons, List.all_nil, ifc_70, h0, conv_3_69, conv_9_60, bytesEs_bs, len_60, shl64, wb, wm, h1, errPV]
  | some k =>
    obtain ⟨rfl, h3, h4⟩ := h2
    simp [AM.nth] at h3 h4
    simp [S48, canon_v, canon_sl, canon_clo, canon_ptr, need_refl, elems_sl, sf_v, sf_sl, sf_ptr, sf_ptrh, sf_clo, sf_dead, sf_nil, sf_full, sf_fr, need_true, ibeq, beq_ba, nbeq, nble, nblt, AM.nth, List.getD_cons_succ, List.getD_cons_zero, Option.bind_some, Option.bind_none, Option.map_some, onBool, AM.onG, onFn, seqK, retK, Ex.outOf, cond_true, cond_false, bin_lss, bin_leq, bin_gtr, bin_geq, bin_eql, bin_neq, bin_add, bin_sub, bin_mul, un_not, str_eql, str_neq, app_push, load_fp, AM.ownPut, AM.cellsOf, AM.shift, aPick, beq_true, okSz, List.length_cons, List.length_nil, Nat.zero_add, Nat.add_zero, Nat.reduceAdd, decide_true, decide_false, Bool.and_true, Bool.true_and, Bool.and_self, Bool.not_true, Bool.not_false, List.getElem?_cons_zero, List.getElem?_cons_succ, List.nil_append, List.cons_append, max_int, min_int, modify_concat, part1, List.take_succ_cons, List.take_left, List.take_zero, List.take_nil, app_stk, app_tk, app_lp, set_stk, set_tk, set_lp, set_set, n_load, n_load0, n_old, n_store, n_store0, n_store_old, n_leave, n_leave0, n_fin_v, n_fin_sl, n_fin_u, n_back, n_next, n_blk, n_blk0, n_set, n_set0, n_set_old, bs_size, bs_inj, mk_bs, noPan, onRet, hN, hT, hL, List.toList_toArray, aNilCheck, AM.aExtract, canon, canonA, canonC, List.map_cons, List.map_nil, List.modify_zero_cons, List.modify_succ_cons, AM.part, List.drop_zero, List.drop_succ_cons, List.drop_nil, n_fin_tup, n_fin_agg, flatA, flatA.flatD, AM.flatC, List.all_cons, List.all_nil, ifc_70, h0, conv_3_69, conv_9_60, bytesEs_bs, len_60, shl64, wb, wm, h1, errPV, h3, h4]

theorem pureF_eq {g : List Value → Option PV} {args : List PV} {vs : List Value} {p : PV} (h1 : valsOf args = some vs) (h2 : g vs = some p) (h3 : plainR p = true) (st : St) : pureF g args st = some (p, st) := by
  simp only [AM.pureF, h1, h2, Option.bind_some, h3, cond_true]
theorem F49_ev {f t : List UInt8} {b z : Int} {k : Nat} (h : t.length < 2147483648) (hk : k = 1 ∨ k = 2) (st : St) : E L (.func 49) [str f, str t, .v (.int .i64 b), .v (.int .i64 z), .ifc 70 (.int .i64 (k : Int))] st = some (.ni, st) := by
  rw [E_prim (L := L) (f := 49) (g := pureF (pToErr 70)) rfl]
  have h1 : t.length ≤ 281474976710656 := by omega
  have h2 : (k : Int) = 1 ∨ (k : Int) = 2 := by omega
  simp [AM.pureF, AM.valsOf, AM.valOf, pToErr, bs_size, h1, h2, plainR]
theorem F43_ev {n : Nat} (h : n < 18446744073709551616) (st : St) : E L (.func 43) [.v (.int .u64 (n : Int)), .v (.int .i64 10)] st = some (str (Lib.decDigits n), st) := by
  rw [E_prim (L := L) (f := 43) (g := pureF pFmt) rfl]
  have h1 : (n : Int) < 18446744073709551616 := by omega
  have h0 : (0 : Int) ≤ (n : Int) := by omega
  have e : pFmt [.int .u64 (n : Int), .int .i64 10] = some (str (Lib.decDigits n)) := by
    unfold pFmt
    show (if (10 : Int) = 10 ∧ 0 ≤ (n : Int) ∧ (n : Int) < 18446744073709551616 then some (PV.v (.string ⟨(Lib.decDigits (n : Int).toNat).toArray⟩)) else none) = _
    rw [if_pos ⟨rfl, h0, h1⟩, Int.toNat_natCast]
    rfl
  exact pureF_eq rfl e rfl st
theorem F40_ev (l : List UInt8) (c : UInt8) (st : St) : E L (.func 40) [str l, .v (.int .u8 (c.toNat : Int))] st = some (.v (.int .i64 (Lib.indexByte l c)), st) := by
  rw [E_prim (L := L) (f := 40) (g := pureF pIndexByte) rfl]
  simp [AM.pureF, AM.valsOf, AM.valOf, pIndexByte, plainR, flatV, toList_bs]
theorem F45_ev {a b : List UInt8} (h : a.length < 4294967281) (hb : b.length < 4294967281) (h1 : ∀ c ∈ a, c.toNat < 128) (h2 : ∀ c ∈ b, c.toNat < 128) (st : St) : E L (.func 45) [str a, str b] st = some (.v (.bool (Lib.containsAny a b)), st) := by
  rw [E_prim (L := L) (f := 45) (g := pureF pContainsAny) rfl]
  have e1 : asciiB (bs a) = true := by simpa [asciiB, toList_bs] using h1
  have e2 : asciiB (bs b) = true := by simpa [asciiB, toList_bs] using h2
  simp [AM.pureF, AM.valsOf, AM.valOf, pContainsAny, bs_size, h, hb, e1, e2, plainR, flatV, toList_bs]
theorem F30_ev (l : List UInt8) (c : UInt8) (st : St) : E L (.func 30) [str l, .v (.int .u8 (c.toNat : Int))] st = some (.v (.int .i64 (Lib.indexByte l c)), st) := by
  rw [S30_eq]
  obtain ⟨N, hN⟩ : ∃ q, st.stk.length = q := ⟨_, rfl⟩
  obtain ⟨T, hT⟩ : ∃ q, st.tk.length = q := ⟨_, rfl⟩
  obtain ⟨Lb, hL⟩ : ∃ q, st.lp.length = q := ⟨_, rfl⟩
  conv => lhs; rw [← app_nil (st)]
  simp [S30, canon_v, canon_sl, canon_clo, canon_ptr, need_refl, elems_sl, sf_v, sf_sl, sf_ptr, sf_ptrh, sf_clo, sf_dead, sf_nil, sf_full, sf_fr, need_true, ibeq, beq_ba, nbeq, nble, nblt, AM.nth, List.getD_cons_succ, List.getD_cons_zero, Option.bind_some, Option.bind_none, Option.map_some, onBool, AM.onG, onFn, seqK, retK, Ex.outOf, cond_true, cond_false, bin_lss, bin_leq, bin_gtr, bin_geq, bin_eql, bin_neq, bin_add, bin_sub, bin_mul, un_not, str_eql, str_neq, app_push, load_fp, AM.ownPut, AM.cellsOf, AM.shift, aPick, beq_true, okSz, List.length_cons, List.length_nil, Nat.zero_add, Nat.add_zero, Nat.reduceAdd, decide_true, decide_false, Bool.and_true, Bool.true_and, Bool.and_self, Bool.not_true, Bool.not_false, List.getElem?_cons_zero, List.getElem?_cons_succ, List.nil_append, List.cons_append, max_int, min_int, modify_concat, part1, List.take_succ_cons, List.take_left, List.take_zero, List.take_nil, app_stk, app_tk, app_lp, set_stk, set_tk, set_lp, set_set, n_load, n_load0, n_old, n_store, n_store0, n_store_old, n_leave, n_leave0, n_fin_v, n_fin_sl, n_fin_u, n_back, n_next, n_blk, n_blk0, n_set, n_set0, n_set_old, bs_size, bs_inj, mk_bs, noPan, onRet, hN, hT, hL, List.toList_toArray, aNilCheck, AM.aExtract, canon, canonA, canonC, List.map_cons, List.map_nil, List.modify_zero_cons, List.modify_succ_cons, AM.part, List.drop_zero, List.drop_succ_cons, List.drop_nil, n_fin_tup, n_fin_agg, flatA, flatA.flatD, AM.flatC, List.all_cons, List.all_nil, F40_ev]
theorem indexByte_ge (c : UInt8) : ∀ l : List UInt8, -1 ≤ Lib.indexByte l c ∧ (0 ≤ Lib.indexByte l c ↔ c ∈ l)
  | [] => by simp [Lib.indexByte]
  | b :: l => by
    have ih := indexByte_ge c l
    simp only [Lib.indexByte]
    by_cases hb : b = c
    · simp [hb]
    · have hb' : (b == c) = false := by simpa using hb
      have hb2 : ¬ c = b := fun h => hb h.symm
      rw [hb']
      simp only [Bool.false_eq_true, if_false, List.mem_cons, hb2, false_or]
      by_cases h1 : Lib.indexByte l c = -1
      · have : (Lib.indexByte l c == -1) = true := by simpa using h1
        rw [if_pos this]
        rw [h1] at ih
        exact ⟨by omega, by rw [← ih.2]⟩
      · have : (Lib.indexByte l c == -1) = false := by simpa using h1
        rw [this]
        simp only [Bool.false_eq_true, if_false]
        exact ⟨by omega, by rw [← ih.2]; omega⟩
/-- What is told of an error. -/
def errPV' : Option Nat → PV
  | none => .v .nilIface
  | some _ => .ni
theorem pu_err {B cut mx : Nat} : ∀ (t : List UInt8) (n : Nat) (k : Nat), (pu B cut mx t n).2 = some k → k = 1 ∨ k = 2
  | [], n, k, h => by cases h
  | c :: t, n, k, h => by
    simp only [pu] at h
    split at h
    · right; exact (Option.some.inj h).symm
    · split at h
      · left; exact (Option.some.inj h).symm
      · split at h
        · left; exact (Option.some.inj h).symm
        · exact pu_err t _ k h
theorem puR_err {B cut mx : Nat} {t : List UInt8} {k : Nat} (h : (puR B cut mx t).2 = some k) : k = 1 ∨ k = 2 := by
  rw [puR] at h
  split at h
  · right; exact (Option.some.inj h).symm
  · exact pu_err t 0 k h
theorem F42_10 {t : List UInt8} (h : t.length < 2147483648) (st : St) : E L (.func 42) [str t, .v (.int .i64 10), .v (.int .i64 63)] st = some (.tup [.v (.int .u64 ((puR 10 1844674407370955162 9223372036854775807 t).1 : Int)), errPV' (puR 10 1844674407370955162 9223372036854775807 t).2], st) := by
  rw [S42_eq]
  obtain ⟨N, hN⟩ : ∃ q, st.stk.length = q := ⟨_, rfl⟩
  obtain ⟨T, hT⟩ : ∃ q, st.tk.length = q := ⟨_, rfl⟩
  obtain ⟨Lb, hL⟩ : ∃ q, st.lp.length = q := ⟨_, rfl⟩
  conv => lhs; rw [← app_nil (st)]
  have h1 : ∀ X, E L (.func 48) [str t, .v (.int .i64 10), .v (.int .i64 63)] X = some (.tup [.v (.int .u64 ((puR 10 1844674407370955162 9223372036854775807 t).1 : Int)), errPV (puR 10 1844674407370955162 9223372036854775807 t).2], X) := F48_10 h
  have hk : ∀ k, (puR 10 1844674407370955162 9223372036854775807 t).2 = some k → k = 1 ∨ k = 2 := fun k h => puR_err h
  generalize puR 10 1844674407370955162 9223372036854775807 t = q at h1 hk ⊢
  obtain ⟨r, k⟩ := q
  cases k with
  | none => simp [S42, canon_v, canon_sl, canon_clo, canon_ptr, need_refl, elems_sl, sf_v, sf_sl, sf_ptr, sf_ptrh, sf_clo, sf_dead, sf_nil, sf_full, sf_fr, need_true, ibeq, beq_ba, nbeq, nble, nblt, AM.nth, List.getD_cons_succ, List.getD_cons_zero, Option.bind_some, Option.bind_none, Option.map_some, onBool, AM.onG, onFn, seqK, retK, Ex.outOf, cond_true, cond_false, bin_lss, bin_leq, bin_gtr, bin_geq, bin_eql, bin_neq, bin_add, bin_sub, bin_mul, un_not, str_eql, str_neq, app_push, load_fp, AM.ownPut, AM.cellsOf, AM.shift, aPick, beq_true, okSz, List.length_cons, List.length_nil, Nat.zero_add, Nat.add_zero, Nat.reduceAdd, decide_true, decide_false, Bool.and_true, Bool.true_and, Bool.and_self, Bool.not_true, Bool.not_false, List.getElem?_cons_zero, List.getElem?_cons_succ, List.nil_append, List.cons_append, max_int, min_int, modify_concat, part1, List.take_succ_cons, List.take_left, List.take_zero, List.take_nil, app_stk, app_tk, app_lp, set_stk, set_tk, set_lp, set_set, n_load, n_load0, n_old, n_store, n_store0, n_store_old, n_leave, n_leave0, n_fin_v, n_fin_sl, n_fin_u, n_back, n_next, n_blk, n_blk0, n_set, n_set0, n_set_old, bs_size, bs_inj, mk_bs, noPan, onRet, hN, hT, hL, List.toList_toArray, aNilCheck, AM.aExtract, canon, canonA, canonC, List.map_cons, List.map_nil, List.modify_zero_cons, List.modify_succ_cons, AM.part, List.drop_zero, List.drop_succ_cons, List.drop_nil, n_fin_tup, n_fin_agg, flatA, flatA.flatD, AM.flatC, List.all_cons, List.all_nil, h1, errPV, errPV', nnneq_62]
  | some k =>
    have h49 : ∀ X, E L (.func 49) [str [80, 97, 114, 115, 101, 85, 105, 110, 116], str t, .v (.int .i64 10), .v (.int .i64 63), .ifc 70 (.int .i64 (k : Int))] X = some (.ni, X) := F49_ev h (hk k rfl)
    simp [S42, canon_v, canon_sl, canon_clo, canon_ptr, need_refl, elems_sl, sf_v, sf_sl, sf_ptr, sf_ptrh, sf_clo, sf_dead, sf_nil, sf_full, sf_fr, need_true, ibeq, beq_ba, nbeq, nble, nblt, AM.nth, List.getD_cons_succ, List.getD_cons_zero, Option.bind_some, Option.bind_none, Option.map_some, onBool, AM.onG, onFn, seqK, retK, Ex.outOf, cond_true, cond_false, bin_lss, bin_leq, bin_gtr, bin_geq, bin_eql, bin_neq, bin_add, bin_sub, bin_mul, un_not, str_eql, str_neq, app_push, load_fp, AM.ownPut, AM.cellsOf, AM.shift, aPick, beq_true, okSz, List.length_cons, List.length_nil, Nat.zero_add, Nat.add_zero, Nat.reduceAdd, decide_true, decide_false, Bool.and_true, Bool.true_and, Bool.and_self, Bool.not_true, Bool.not_false, List.getElem?_cons_zero, List.getElem?_cons_succ, List.nil_append, List.cons_append, max_int, min_int, modify_concat, part1, List.take_succ_cons, List.take_left, List.take_zero, List.take_nil, app_stk, app_tk, app_lp, set_stk, set_tk, set_lp, set_set, n_load, n_load0, n_old, n_store, n_store0, n_store_old, n_leave, n_leave0, n_fin_v, n_fin_sl, n_fin_u, n_back, n_next, n_blk, n_blk0, n_set, n_set0, n_set_old, bs_size, bs_inj, mk_bs, noPan, onRet, hN, hT, hL, List.toList_toArray, aNilCheck, AM.aExtract, canon, canonA, canonC, List.map_cons, List.map_nil, List.modify_zero_cons, List.modify_succ_cons, AM.part, List.drop_zero, List.drop_succ_cons, List.drop_nil, n_fin_tup, n_fin_agg, flatA, flatA.flatD, AM.flatC, List.all_cons, List.all_nil, h1, errPV, errPV', fnneq_62, h49]
theorem F42_16 {t : List UInt8} (h : t.length < 2147483648) (st : St) : E L (.func 42) [str t, .v (.int .i64 16), .v (.int .i64 64)] st = some (.tup [.v (.int .u64 ((puR 16 1152921504606846976 18446744073709551615 t).1 : Int)), errPV' (puR 16 1152921504606846976 18446744073709551615 t).2], st) := by
  rw [S42_eq]
  obtain ⟨N, hN⟩ : ∃ q, st.stk.length = q := ⟨_, rfl⟩
  obtain ⟨T, hT⟩ : ∃ q, st.tk.length = q := ⟨_, rfl⟩
  obtain ⟨Lb, hL⟩ : ∃ q, st.lp.length = q := ⟨_, rfl⟩
  conv => lhs; rw [← app_nil (st)]
  have h1 : ∀ X, E L (.func 48) [str t, .v (.int .i64 16), .v (.int .i64 64)] X = some (.tup [.v (.int .u64 ((puR 16 1152921504606846976 18446744073709551615 t).1 : Int)), errPV (puR 16 1152921504606846976 18446744073709551615 t).2], X) := F48_16 h
  have hk : ∀ k, (puR 16 1152921504606846976 18446744073709551615 t).2 = some k → k = 1 ∨ k = 2 := fun k h => puR_err h
  generalize puR 16 1152921504606846976 18446744073709551615 t = q at h1 hk ⊢
  obtain ⟨r, k⟩ := q
  cases k with
  | none => simp [S42, canon_v, canon_sl, canon_clo, canon_ptr, need_refl, elems_sl, sf_v, sf_sl, sf_ptr, sf_ptrh, sf_clo, sf_dead, sf_nil, sf_full, sf_fr, need_true, ibeq, beq_ba, nbeq, nble, nblt, AM.nth, List.getD_cons_succ, List.getD_cons_zero, Option.bind_some, Option.bind_none, Option.map_some, onBool, AM.onG, onFn, seqK, retK, Ex.outOf, cond_true, cond_false, bin_lss, bin_leq, bin_gtr, bin_geq, bin_eql, bin_neq, bin_add, bin_sub, bin_mul, un_not, str_eql, str_neq, app_push, load_fp, AM.ownPut, AM.cellsOf, AM.shift, aPick, beq_true, okSz, List.length_cons, List.length_nil, Nat.zero_add, Nat.add_zero, Nat.reduceAdd, decide_true, decide_false, Bool.and_true, Bool.true_and, Bool.and_self, Bool.not_true, Bool.not_false, List.getElem?_cons_zero, List.getElem?_cons_succ, List.nil_append, List.cons_append, max_int, min_int, modify_concat, part1, List.take_succ_cons, List.take_left, List.take_zero, List.take_nil, app_stk, app_tk, app_lp, set_stk, set_tk, set_lp, set_set, n_load, n_load0, n_old, n_store, n_store0, n_store_old, n_leave, n_leave0, n_fin_v, n_fin_sl, n_fin_u, n_back, n_next, n_blk, n_blk0, n_set, n_set0, n_set_old, bs_size, bs_inj, mk_bs, noPan, onRet, hN, hT, hL, List.toList_toArray, aNilCheck, AM.aExtract, canon, canonA, canonC, List.map_cons, List.map_nil, List.modify_zero_cons, List.modify_succ_cons, AM.part, List.drop_zero, List.drop_succ_cons, List.drop_nil, n_fin_tup, n_fin_agg, flatA, flatA.flatD, AM.flatC, List.all_cons, List.all_nil, h1, errPV, errPV', nnneq_62]
  | some k =>
    have h49 : ∀ X, E L (.func 49) [str [80, 97, 114, 115, 101, 85, 105, 110, 116], str t, .v (.int .i64 16), .v (.int .i64 64), .ifc 70 (.int .i64 (k : Int))] X = some (.ni, X) := F49_ev h (hk k rfl)
    simp [S42, canon_v, canon_sl, canon_clo, canon_ptr, need_refl, elems_sl, sf_v, sf_sl, sf_ptr, sf_ptrh, sf_clo, sf_dead, sf_nil, sf_full, sf_fr, need_true, ibeq, beq_ba, nbeq, nble, nblt, AM.nth, List.getD_cons_succ, List.getD_cons_zero, Option.bind_some, Option.bind_none, Option.map_some, onBool, AM.onG, onFn, seqK, retK, Ex.outOf, cond_true, cond_false, bin_lss, bin_leq, bin_gtr, bin_geq, bin_eql, bin_neq, bin_add, bin_sub, bin_mul, un_not, str_eql, str_neq, app_push, load_fp, AM.ownPut, AM.cellsOf, AM.shift, aPick, beq_true, okSz, List.length_cons, List.length_nil, Nat.zero_add, Nat.add_zero, Nat.reduceAdd, decide_true, decide_false, Bool.and_true, Bool.true_and, Bool.and_self, Bool.not_true, Bool.not_false, List.getElem?_cons_zero, List.getElem?_cons_succ, List.nil_append, List.cons_append, max_int, min_int, modify_concat, part1, List.take_succ_cons, List.take_left, List.take_zero, List.take_nil, app_stk, app_tk, app_lp, set_stk, set_tk, set_lp, set_set, n_load, n_load0, n_old, n_store, n_store0, n_store_old, n_leave, n_leave0, n_fin_v, n_fin_sl, n_fin_u, n_back, n_next, n_blk, n_blk0, n_set, n_set0, n_set_old, bs_size, bs_inj, mk_bs, noPan, onRet, hN, hT, hL, List.toList_toArray, aNilCheck, AM.aExtract, canon, canonA, canonC, List.map_cons, List.map_nil, List.modify_zero_cons, List.modify_succ_cons, AM.part, List.drop_zero, List.drop_succ_cons, List.drop_nil, n_fin_tup, n_fin_agg, flatA, flatA.flatD, AM.flatC, List.all_cons, List.all_nil, h1, errPV, errPV', fnneq_62, h49]
end Go.Proofs.YtbbaalimilcppaaDoor.S

/- The lexer: what lies between tokens. No condition. -/
namespace Go.Proofs.YtbbaalimilcppaaDoor.S
open Go Go.AM Go.Proofs
set_option linter.unusedVariables false
set_option linter.unusedSimpArgs false
theorem tell41 : Tell 41 alnB := ⟨fun c st h => F41_ev _ st, false, fun c h => by simp [alnB, letB, digB, let_high (show (128 : Int) ≤ (c.toNat : Int) by omega), dig_high (show (128 : Int) ≤ (c.toNat : Int) by omega)], fun n st h => by rw [F41_ev, let_high (by omega), dig_high (by omega)]; rfl⟩
theorem tell44 : Tell 44 alnB := ⟨fun c st h => F44_ev _ st, false, fun c h => by simp [alnB, letB, digB, let_high (show (128 : Int) ≤ (c.toNat : Int) by omega), dig_high (show (128 : Int) ≤ (c.toNat : Int) by omega)], fun n st h => by rw [F44_ev, let_high (by omega), dig_high (by omega)]; rfl⟩
def nlB (c : UInt8) : Bool := !decide (c = 10)
theorem u8_eq (c : UInt8) (n : Nat) (h : n < 256) : ((c.toNat : Int) = (n : Int)) = (c = UInt8.ofNat n) := by
  apply propext
  constructor
  · intro e
    have : c.toNat = n := by omega
    rw [← this, UInt8.ofNat_toNat]
  · rintro rfl
    simp [UInt8.toNat_ofNat', Nat.mod_eq_of_lt h]
theorem tell29 : Tell 29 nlB := ⟨fun c st h => by rw [F29_ev]; have e : ((c.toNat : Int) = 10) = (c = 10) := u8_eq c 10 (by omega); simp [nlB, e], true, fun c h => by simp [nlB]; rintro rfl; simp at h, fun n st h => by rw [F29_ev]; simp; omega⟩

theorem F39_ev {a b : List UInt8} (ha : a.length < 4611686018427387904) (hb : b.length < 4611686018427387904) (st : St) : E L (.func 39) [str a, str b] st = some (.v (.bool (b.isPrefixOf a)), st) := by
  rw [S39_eq]
  obtain ⟨N, hN⟩ : ∃ q, st.stk.length = q := ⟨_, rfl⟩
  obtain ⟨T, hT⟩ : ∃ q, st.tk.length = q := ⟨_, rfl⟩
  obtain ⟨Lb, hL⟩ : ∃ q, st.lp.length = q := ⟨_, rfl⟩
  conv => lhs; rw [← app_nil (st)]
  by_cases h : b.length ≤ a.length
  · have h1 : (b.length : Int) ≤ (a.length : Int) := by omega
    have e : b.isPrefixOf a = decide (a.take b.length = b) := by
      rw [Bool.eq_iff_iff, List.isPrefixOf_iff_prefix, decide_eq_true_eq, List.prefix_iff_eq_take]
      exact eq_comm
    simp [S39, canon_v, canon_sl, canon_clo, canon_ptr, need_refl, elems_sl, sf_v, sf_sl, sf_ptr, sf_ptrh, sf_clo, sf_dead, sf_nil, sf_full, sf_fr, need_true, ibeq, beq_ba, nbeq, nble, nblt, AM.nth, List.getD_cons_succ, List.getD_cons_zero, Option.bind_some, Option.bind_none, Option.map_some, onBool, AM.onG, onFn, seqK, retK, Ex.outOf, cond_true, cond_false, bin_lss, bin_leq, bin_gtr, bin_geq, bin_eql, bin_neq, bin_add, bin_sub, bin_mul, un_not, str_eql, str_neq, app_push, load_fp, AM.ownPut, AM.cellsOf, AM.shift, aPick, beq_true, okSz, List.length_cons, List.length_nil, Nat.zero_add, Nat.add_zero, Nat.reduceAdd, decide_true, decide_false, Bool.and_true, Bool.true_and, Bool.and_self, Bool.not_true, Bool.not_false, List.getElem?_cons_zero, List.getElem?_cons_succ, List.nil_append, List.cons_append, max_int, min_int, modify_concat, part1, List.take_succ_cons, List.take_left, List.take_zero, List.take_nil, app_stk, app_tk, app_lp, set_stk, set_tk, set_lp, set_set, n_load, n_load0, n_old, n_store, n_store0, n_store_old, n_leave, n_leave0, n_fin_v, n_fin_sl, n_fin_u, n_back, n_next, n_blk, n_blk0, n_set, n_set0, n_set_old, bs_size, bs_inj, mk_bs, noPan, onRet, hN, hT, hL, List.toList_toArray, aNilCheck, AM.aExtract, canon, canonA, canonC, List.map_cons, List.map_nil, List.modify_zero_cons, List.modify_succ_cons, AM.part, List.drop_zero, List.drop_succ_cons, List.drop_nil, n_fin_tup, n_fin_agg, flatA, flatA.flatD, AM.flatC, List.all_cons, List.all_nil, len_9, h1, slch_9 _ h, e]
  · have h1 : ¬ ((b.length : Int) ≤ (a.length : Int)) := by omega
    have e : b.isPrefixOf a = false := by
      rw [Bool.eq_false_iff]
      intro hp
      exact h ((List.isPrefixOf_iff_prefix.1 hp).length_le)
    simp [S39, canon_v, canon_sl, canon_clo, canon_ptr, need_refl, elems_sl, sf_v, sf_sl, sf_ptr, sf_ptrh, sf_clo, sf_dead, sf_nil, sf_full, sf_fr, need_true, ibeq, beq_ba, nbeq, nble, nblt, AM.nth, List.getD_cons_succ, List.getD_cons_zero, Option.bind_some, Option.bind_none, Option.map_some, onBool, AM.onG, onFn, seqK, retK, Ex.outOf, cond_true, cond_false, bin_lss, bin_leq, bin_gtr, bin_geq, bin_eql, bin_neq, bin_add, bin_sub, bin_mul, un_not, str_eql, str_neq, app_push, load_fp, AM.ownPut, AM.cellsOf, AM.shift, aPick, beq_true, okSz, List.length_cons, List.length_nil, Nat.zero_add, Nat.add_zero, Nat.reduceAdd, decide_true, decide_false, Bool.and_true, Bool.true_and, Bool.and_self, Bool.not_true, Bool.not_false, List.getElem?_cons_zero, List.getElem?_cons_succ, List.nil_append, List.cons_append, max_int, min_int, modify_concat, part1, List.take_succ_cons, List.take_left, List.take_zero, List.take_nil, app_stk, app_tk, app_lp, set_stk, set_tk, set_lp, set_set, n_load, n_load0, n_old, n_store, n_store0, n_store_old, n_leave, n_leave0, n_fin_v, n_fin_sl, n_fin_u, n_back, n_next, n_blk, n_blk0, n_set, n_set0, n_set_old, bs_size, bs_inj, mk_bs, noPan, onRet, hN, hT, hL, List.toList_toArray, aNilCheck, AM.aExtract, canon, canonA, canonC, List.map_cons, List.map_nil, List.modify_zero_cons, List.modify_succ_cons, AM.part, List.drop_zero, List.drop_succ_cons, List.drop_nil, n_fin_tup, n_fin_agg, flatA, flatA.flatD, AM.flatC, List.all_cons, List.all_nil, len_9, h1, e]
theorem F26_ev {a b : List UInt8} (ha : a.length < 4611686018427387904) (hb : b.length < 4611686018427387904) (st : St) : E L (.func 26) [str a, str b] st = some (.v (.bool (b.isPrefixOf a)), st) := by
  rw [S26_eq]
  obtain ⟨N, hN⟩ : ∃ q, st.stk.length = q := ⟨_, rfl⟩
  obtain ⟨T, hT⟩ : ∃ q, st.tk.length = q := ⟨_, rfl⟩
  obtain ⟨Lb, hL⟩ : ∃ q, st.lp.length = q := ⟨_, rfl⟩
  conv => lhs; rw [← app_nil (st)]
  simp [S26, canon_v, canon_sl, canon_clo, canon_ptr, need_refl, elems_sl, sf_v, sf_sl, sf_ptr, sf_ptrh, sf_clo, sf_dead, sf_nil, sf_full, sf_fr, need_true, ibeq, beq_ba, nbeq, nble, nblt, AM.nth, List.getD_cons_succ, List.getD_cons_zero, Option.bind_some, Option.bind_none, Option.map_some, onBool, AM.onG, onFn, seqK, retK, Ex.outOf, cond_true, cond_false, bin_lss, bin_leq, bin_gtr, bin_geq, bin_eql, bin_neq, bin_add, bin_sub, bin_mul, un_not, str_eql, str_neq, app_push, load_fp, AM.ownPut, AM.cellsOf, AM.shift, aPick, beq_true, okSz, List.length_cons, List.length_nil, Nat.zero_add, Nat.add_zero, Nat.reduceAdd, decide_true, decide_false, Bool.and_true, Bool.true_and, Bool.and_self, Bool.not_true, Bool.not_false, List.getElem?_cons_zero, List.getElem?_cons_succ, List.nil_append, List.cons_append, max_int, min_int, modify_concat, part1, List.take_succ_cons, List.take_left, List.take_zero, List.take_nil, app_stk, app_tk, app_lp, set_stk, set_tk, set_lp, set_set, n_load, n_load0, n_old, n_store, n_store0, n_store_old, n_leave, n_leave0, n_fin_v, n_fin_sl, n_fin_u, n_back, n_next, n_blk, n_blk0, n_set, n_set0, n_set_old, bs_size, bs_inj, mk_bs, noPan, onRet, hN, hT, hL, List.toList_toArray, aNilCheck, AM.aExtract, canon, canonA, canonC, List.map_cons, List.map_nil, List.modify_zero_cons, List.modify_succ_cons, AM.part, List.drop_zero, List.drop_succ_cons, List.drop_nil, n_fin_tup, n_fin_agg, flatA, flatA.flatD, AM.flatC, List.all_cons, List.all_nil, F39_ev ha hb]

def blkB (c : UInt8) : Bool := [32, 9, 13, 10].contains c
/-- How much of what lies between tokens stands at the beginning: a note, or a blank. -/
def blk1 : List UInt8 → Nat
  | [] => 0
  | c :: l => if ([47, 47] : List UInt8).isPrefixOf (c :: l) then spanN nlB (c :: l) else if blkB c then 1 else 0
theorem blk1_le : ∀ l : List UInt8, blk1 l ≤ l.length
  | [] => Nat.le_refl _
  | c :: l => by
    simp only [blk1]
    split
    · exact spanN_le _ _
    · split <;> simp
theorem note_pos {l : List UInt8} (h : ([47, 47] : List UInt8).isPrefixOf l = true) : 0 < spanN nlB l := by
  cases l with
  | nil => simp [List.isPrefixOf] at h
  | cons c l =>
    have : c = 47 := by
      simp only [List.isPrefixOf, Bool.and_eq_true, beq_iff_eq] at h
      exact h.1.symm
    subst this
    rw [spanN_cons, if_pos (by decide)]
    omega
/-- All that lies between tokens is over. -/
def blanks (rest : List UInt8) (p : Nat × Nat) : List UInt8 × (Nat × Nat) :=
  if h : blk1 rest = 0 then (rest, p) else blanks (rest.drop (blk1 rest)) (adv (rest.take (blk1 rest)) p)
termination_by rest.length
decreasing_by
  have := blk1_le rest
  simp only [List.length_drop]
  omega
theorem adv_take_bnd {rest : List UInt8} {n : Nat} (hn : n ≤ rest.length) {p : Nat × Nat} (hp : 1 ≤ p.2) {M : Nat} (h1 : p.1 + rest.length < M) (h2 : p.2 + rest.length < M) :
    1 ≤ (adv (rest.take n) p).2 ∧ (adv (rest.take n) p).1 + (rest.drop n).length < M ∧ (adv (rest.take n) p).2 + (rest.drop n).length < M := by
  have := adv_bnd (rest.take n) p hp
  simp only [List.length_take, List.length_drop] at this ⊢
  omega
theorem blanks_bnd (rest : List UInt8) (p : Nat × Nat) {M : Nat} (hp : 1 ≤ p.2) (h1 : p.1 + rest.length < M) (h2 : p.2 + rest.length < M) :
    1 ≤ (blanks rest p).2.2 ∧ (blanks rest p).2.1 + (blanks rest p).1.length < M ∧ (blanks rest p).2.2 + (blanks rest p).1.length < M ∧ blk1 (blanks rest p).1 = 0 ∧ (blanks rest p).1.length ≤ rest.length := by
  induction rest, p using blanks.induct with
  | case1 rest p h => rw [blanks, dif_pos h]; exact ⟨hp, h1, h2, h, Nat.le_refl _⟩
  | case2 rest p h ih =>
    rw [blanks, dif_neg h]
    have := adv_take_bnd (blk1_le rest) hp h1 h2
    have := ih this.1 this.2.1 this.2.2
    simp only [List.length_drop] at this ⊢
    exact ⟨this.1, this.2.1, this.2.2.1, this.2.2.2.1, by omega⟩


/-! ### calls upon a reader, wherever it is called from -/
theorem F28_at {g : Nat} {q : UInt8 → Bool} (ht : Tell g q) {X : St} {b : Nat} {rest : List UInt8} {x y : PV} (hb : b < X.stk.length) (hlen : rest.length < 4611686018427387904) (bl : List Blk) (tk : List (Nat × Nat)) (lp : List Aux) :
    E L (.func 28) [.ptr false b 0, .clo (.func g) []] ((X.setBlk false b [str rest, x, y]).app bl tk lp) = some (.v (.int .i64 (spanN q rest)), (X.setBlk false b [str rest, x, y]).app bl tk lp) := by
  rw [← n_set_old bl tk lp hb]
  exact F28_ev ht (by rw [app_stk]; omega) hlen
theorem F27_at {X : St} {b n : Nat} {rest : List UInt8} {p : Nat × Nat} (hb : b < X.stk.length) (hn : n ≤ rest.length) (hp : 1 ≤ p.2) (h1 : p.1 + rest.length < 4611686018427387904) (h2 : p.2 + rest.length < 4611686018427387904) (bl : List Blk) (tk : List (Nat × Nat)) (lp : List Aux) :
    E L (.func 27) [.ptr false b 0, .v (.int .i64 (n : Int))] ((X.setBlk false b (rdc rest p)).app bl tk lp) = some (str (rest.take n), (X.setBlk false b (rdc (rest.drop n) (adv (rest.take n) p))).app bl tk lp) := by
  rw [← n_set_old bl tk lp hb, ← n_set_old bl tk lp hb]
  exact F27_ev (by rw [app_stk]; omega) hn hp h1 h2

theorem blank_loop {X : St} {N T Lb b : Nat} (hN : X.stk.length = N) (hT : X.tk.length = T) (hL : X.lp.length = Lb) (hb : b < N) : ∀ (rest : List UInt8) (p : Nat × Nat), 1 ≤ p.2 → p.1 + rest.length < 4611686018427387904 → p.2 + rest.length < 4611686018427387904 →
    itE (S17.b0 (E L) itE N Lb) [.ptr false b 0] ((X.setBlk false b (rdc rest p)).app [] [] []) = some (.exit 0, [.ptr false b 0], (X.setBlk false b (rdc (blanks rest p).1 (blanks rest p).2)).app [] [] []) := by
  intro rest p
  induction rest, p using blanks.induct with
  | case1 rest p h =>
    intro hp h1 h2
    rw [blanks, dif_pos h]
    apply it_exit
    cases rest with
    | nil => simp [S17.b0, canon_v, canon_sl, canon_clo, canon_ptr, need_refl, elems_sl, sf_v, sf_sl, sf_ptr, sf_ptrh, sf_clo, sf_dead, sf_nil, sf_full, sf_fr, need_true, ibeq, beq_ba, nbeq, nble, nblt, AM.nth, List.getD_cons_succ, List.getD_cons_zero, Option.bind_some, Option.bind_none, Option.map_some, onBool, AM.onG, onFn, seqK, retK, Ex.outOf, cond_true, cond_false, bin_lss, bin_leq, bin_gtr, bin_geq, bin_eql, bin_neq, bin_add, bin_sub, bin_mul, un_not, str_eql, str_neq, app_push, load_fp, AM.ownPut, AM.cellsOf, AM.shift, aPick, beq_true, okSz, List.length_cons, List.length_nil, Nat.zero_add, Nat.add_zero, Nat.reduceAdd, decide_true, decide_false, Bool.and_true, Bool.true_and, Bool.and_self, Bool.not_true, Bool.not_false, List.getElem?_cons_zero, List.getElem?_cons_succ, List.nil_append, List.cons_append, max_int, min_int, modify_concat, part1, List.take_succ_cons, List.take_left, List.take_zero, List.take_nil, app_stk, app_tk, app_lp, set_stk, set_tk, set_lp, set_set, n_load, n_load0, n_old, n_store, n_store0, n_store_old, n_leave, n_leave0, n_fin_v, n_fin_sl, n_fin_u, n_back, n_next, n_blk, n_blk0, n_set, n_set0, n_set_old, bs_size, bs_inj, mk_bs, noPan, onRet, hN, hT, hL, List.toList_toArray, aNilCheck, AM.aExtract, canon, canonA, canonC, List.map_cons, List.map_nil, List.modify_zero_cons, List.modify_succ_cons, AM.part, List.drop_zero, List.drop_succ_cons, List.drop_nil, n_fin_tup, n_fin_agg, flatA, flatA.flatD, AM.flatC, List.all_cons, List.all_nil, rdc, hb]
    | cons c l =>
      have hpre : ([47, 47] : List UInt8).isPrefixOf (c :: l) = false := by
        cases hq : ([47, 47] : List UInt8).isPrefixOf (c :: l) with
        | false => rfl
        | true =>
          have := note_pos hq
          rw [blk1, if_pos hq] at h
          omega
      have hbl : blkB c = false := by
        cases hq : blkB c with
        | false => rfl
        | true => rw [blk1, if_neg (by rw [hpre]; simp), if_pos hq] at h; cases h
      have e26 : ∀ X, E L (.func 26) [str (c :: l), str [47, 47]] X = some (.v (.bool false), X) := fun X => by rw [F26_ev (by omega) (by simp), hpre]
      have e30 : ∀ X, E L (.func 30) [str [32, 9, 13, 10], .v (.int .u8 (c.toNat : Int))] X = _ := F30_ev [32, 9, 13, 10] c
      have hi : ¬ (0 ≤ Lib.indexByte [32, 9, 13, 10] c) := by
        rw [(indexByte_ge c _).2]
        simpa [blkB] using hbl
      simp [S17.b0, canon_v, canon_sl, canon_clo, canon_ptr, need_refl, elems_sl, sf_v, sf_sl, sf_ptr, sf_ptrh, sf_clo, sf_dead, sf_nil, sf_full, sf_fr, need_true, ibeq, beq_ba, nbeq, nble, nblt, AM.nth, List.getD_cons_succ, List.getD_cons_zero, Option.bind_some, Option.bind_none, Option.map_some, onBool, AM.onG, onFn, seqK, retK, Ex.outOf, cond_true, cond_false, bin_lss, bin_leq, bin_gtr, bin_geq, bin_eql, bin_neq, bin_add, bin_sub, bin_mul, un_not, str_eql, str_neq, app_push, load_fp, AM.ownPut, AM.cellsOf, AM.shift, aPick, beq_true, okSz, List.length_cons, List.length_nil, Nat.zero_add, Nat.add_zero, Nat.reduceAdd, decide_true, decide_false, Bool.and_true, Bool.true_and, Bool.and_self, Bool.not_true, Bool.not_false, List.getElem?_cons_zero, List.getElem?_cons_succ, List.nil_append, List.cons_append, max_int, min_int, modify_concat, part1, List.take_succ_cons, List.take_left, List.take_zero, List.take_nil, app_stk, app_tk, app_lp, set_stk, set_tk, set_lp, set_set, n_load, n_load0, n_old, n_store, n_store0, n_store_old, n_leave, n_leave0, n_fin_v, n_fin_sl, n_fin_u, n_back, n_next, n_blk, n_blk0, n_set, n_set0, n_set_old, bs_size, bs_inj, mk_bs, noPan, onRet, hN, hT, hL, List.toList_toArray, aNilCheck, AM.aExtract, canon, canonA, canonC, List.map_cons, List.map_nil, List.modify_zero_cons, List.modify_succ_cons, AM.part, List.drop_zero, List.drop_succ_cons, List.drop_nil, n_fin_tup, n_fin_agg, flatA, flatA.flatD, AM.flatC, List.all_cons, List.all_nil, rdc, hb, e26, ix0_9, e30, hi]
  | case2 rest p h ih =>
    intro hp h1 h2
    rw [blanks, dif_neg h]
    have ad := adv_take_bnd (blk1_le rest) hp h1 h2
    rw [it_step (vs' := [.ptr false b 0]) (st' := (X.setBlk false b (rdc (rest.drop (blk1 rest)) (adv (rest.take (blk1 rest)) p))).app [] [] [])]
    · exact ih ad.1 ad.2.1 ad.2.2
    cases rest with
    | nil => simp [blk1] at h
    | cons c l =>
      have e26 : ∀ X, E L (.func 26) [str (c :: l), str [47, 47]] X = some (.v (.bool (([47, 47] : List UInt8).isPrefixOf (c :: l))), X) := fun X => by rw [F26_ev (by omega) (by simp)]
      have e27 := F27_at (X := X) (hN ▸ hb) (blk1_le (c :: l)) hp h1 h2 [] [] []
      cases hpre : ([47, 47] : List UInt8).isPrefixOf (c :: l) with
      | true =>
        have hn : blk1 (c :: l) = spanN nlB (c :: l) := by rw [blk1, if_pos hpre]
        rw [hpre] at e26
        have e28 := F28_at tell29 (X := X) (b := b) (rest := c :: l) (x := .v (.int .i64 (p.1 : Int))) (y := .v (.int .i64 (p.2 : Int))) (hN ▸ hb) (by omega) [] [] []
        rw [← hn] at e28
        generalize blk1 (c :: l) = n at *
        generalize (c :: l).drop n = r at *
        generalize (c :: l).take n = t at *
        simp only [rdc] at e27
        simp [S17.b0, canon_v, canon_sl, canon_clo, canon_ptr, need_refl, elems_sl, sf_v, sf_sl, sf_ptr, sf_ptrh, sf_clo, sf_dead, sf_nil, sf_full, sf_fr, need_true, ibeq, beq_ba, nbeq, nble, nblt, AM.nth, List.getD_cons_succ, List.getD_cons_zero, Option.bind_some, Option.bind_none, Option.map_some, onBool, AM.onG, onFn, seqK, retK, Ex.outOf, cond_true, cond_false, bin_lss, bin_leq, bin_gtr, bin_geq, bin_eql, bin_neq, bin_add, bin_sub, bin_mul, un_not, str_eql, str_neq, app_push, load_fp, AM.ownPut, AM.cellsOf, AM.shift, aPick, beq_true, okSz, List.length_cons, List.length_nil, Nat.zero_add, Nat.add_zero, Nat.reduceAdd, decide_true, decide_false, Bool.and_true, Bool.true_and, Bool.and_self, Bool.not_true, Bool.not_false, List.getElem?_cons_zero, List.getElem?_cons_succ, List.nil_append, List.cons_append, max_int, min_int, modify_concat, part1, List.take_succ_cons, List.take_left, List.take_zero, List.take_nil, app_stk, app_tk, app_lp, set_stk, set_tk, set_lp, set_set, n_load, n_load0, n_old, n_store, n_store0, n_store_old, n_leave, n_leave0, n_fin_v, n_fin_sl, n_fin_u, n_back, n_next, n_blk, n_blk0, n_set, n_set0, n_set_old, bs_size, bs_inj, mk_bs, noPan, onRet, hN, hT, hL, List.toList_toArray, aNilCheck, AM.aExtract, canon, canonA, canonC, List.map_cons, List.map_nil, List.modify_zero_cons, List.modify_succ_cons, AM.part, List.drop_zero, List.drop_succ_cons, List.drop_nil, n_fin_tup, n_fin_agg, flatA, flatA.flatD, AM.flatC, List.all_cons, List.all_nil, rdc, hb, e26, e28, e27]
      | false =>
        rw [hpre] at e26
        have hbl : blkB c = true := by
          cases hq : blkB c with
          | true => rfl
          | false => rw [blk1, if_neg (by rw [hpre]; simp), if_neg (by rw [hq]; simp)] at h; exact absurd rfl h
        have hn : blk1 (c :: l) = 1 := by rw [blk1, if_neg (by rw [hpre]; simp), if_pos hbl]
        have e30 : ∀ X, E L (.func 30) [str [32, 9, 13, 10], .v (.int .u8 (c.toNat : Int))] X = _ := F30_ev [32, 9, 13, 10] c
        have hi : 0 ≤ Lib.indexByte [32, 9, 13, 10] c := by
          rw [(indexByte_ge c _).2]
          simpa [blkB] using hbl
        rw [hn] at e27 ⊢
        simp only [rdc, Int.cast_ofNat_Int] at e27
        generalize (c :: l).drop 1 = r at *
        generalize (c :: l).take 1 = t at *
        simp [S17.b0, canon_v, canon_sl, canon_clo, canon_ptr, need_refl, elems_sl, sf_v, sf_sl, sf_ptr, sf_ptrh, sf_clo, sf_dead, sf_nil, sf_full, sf_fr, need_true, ibeq, beq_ba, nbeq, nble, nblt, AM.nth, List.getD_cons_succ, List.getD_cons_zero, Option.bind_some, Option.bind_none, Option.map_some, onBool, AM.onG, onFn, seqK, retK, Ex.outOf, cond_true, cond_false, bin_lss, bin_leq, bin_gtr, bin_geq, bin_eql, bin_neq, bin_add, bin_sub, bin_mul, un_not, str_eql, str_neq, app_push, load_fp, AM.ownPut, AM.cellsOf, AM.shift, aPick, beq_true, okSz, List.length_cons, List.length_nil, Nat.zero_add, Nat.add_zero, Nat.reduceAdd, decide_true, decide_false, Bool.and_true, Bool.true_and, Bool.and_self, Bool.not_true, Bool.not_false, List.getElem?_cons_zero, List.getElem?_cons_succ, List.nil_append, List.cons_append, max_int, min_int, modify_concat, part1, List.take_succ_cons, List.take_left, List.take_zero, List.take_nil, app_stk, app_tk, app_lp, set_stk, set_tk, set_lp, set_set, n_load, n_load0, n_old, n_store, n_store0, n_store_old, n_leave, n_leave0, n_fin_v, n_fin_sl, n_fin_u, n_back, n_next, n_blk, n_blk0, n_set, n_set0, n_set_old, bs_size, bs_inj, mk_bs, noPan, onRet, hN, hT, hL, List.toList_toArray, aNilCheck, AM.aExtract, canon, canonA, canonC, List.map_cons, List.map_nil, List.modify_zero_cons, List.modify_succ_cons, AM.part, List.drop_zero, List.drop_succ_cons, List.drop_nil, n_fin_tup, n_fin_agg, flatA, flatA.flatD, AM.flatC, List.all_cons, List.all_nil, rdc, hb, e26, ix0_9, e30, hi, e27]
theorem F17_ev {s : St} {b : Nat} {rest : List UInt8} {p : Nat × Nat} (hb : b < s.stk.length) (hp : 1 ≤ p.2) (h1 : p.1 + rest.length < 4611686018427387904) (h2 : p.2 + rest.length < 4611686018427387904) :
    E L (.func 17) [.ptr false b 0] (s.setBlk false b (rdc rest p)) = some (.tup [], s.setBlk false b (rdc (blanks rest p).1 (blanks rest p).2)) := by
  rw [S17_eq]
  obtain ⟨N, hN⟩ : ∃ q, s.stk.length = q := ⟨_, rfl⟩
  obtain ⟨T, hT⟩ : ∃ q, s.tk.length = q := ⟨_, rfl⟩
  obtain ⟨Lb, hL⟩ : ∃ q, s.lp.length = q := ⟨_, rfl⟩
  rw [hN] at hb
  conv => lhs; rw [← app_nil (s.setBlk false b (rdc rest p))]
  have h := blank_loop hN hT hL hb rest p hp h1 h2
  simp only [rdc] at h
  simp [S17, canon_v, canon_sl, canon_clo, canon_ptr, need_refl, elems_sl, sf_v, sf_sl, sf_ptr, sf_ptrh, sf_clo, sf_dead, sf_nil, sf_full, sf_fr, need_true, ibeq, beq_ba, nbeq, nble, nblt, AM.nth, List.getD_cons_succ, List.getD_cons_zero, Option.bind_some, Option.bind_none, Option.map_some, onBool, AM.onG, onFn, seqK, retK, Ex.outOf, cond_true, cond_false, bin_lss, bin_leq, bin_gtr, bin_geq, bin_eql, bin_neq, bin_add, bin_sub, bin_mul, un_not, str_eql, str_neq, app_push, load_fp, AM.ownPut, AM.cellsOf, AM.shift, aPick, beq_true, okSz, List.length_cons, List.length_nil, Nat.zero_add, Nat.add_zero, Nat.reduceAdd, decide_true, decide_false, Bool.and_true, Bool.true_and, Bool.and_self, Bool.not_true, Bool.not_false, List.getElem?_cons_zero, List.getElem?_cons_succ, List.nil_append, List.cons_append, max_int, min_int, modify_concat, part1, List.take_succ_cons, List.take_left, List.take_zero, List.take_nil, app_stk, app_tk, app_lp, set_stk, set_tk, set_lp, set_set, n_load, n_load0, n_old, n_store, n_store0, n_store_old, n_leave, n_leave0, n_fin_v, n_fin_sl, n_fin_u, n_back, n_next, n_blk, n_blk0, n_set, n_set0, n_set_old, bs_size, bs_inj, mk_bs, noPan, onRet, hN, hT, hL, List.toList_toArray, aNilCheck, AM.aExtract, canon, canonA, canonC, List.map_cons, List.map_nil, List.modify_zero_cons, List.modify_succ_cons, AM.part, List.drop_zero, List.drop_succ_cons, List.drop_nil, n_fin_tup, n_fin_agg, flatA, flatA.flatD, AM.flatC, List.all_cons, List.all_nil, rdc, h]
end Go.Proofs.YtbbaalimilcppaaDoor.S

/- The lexer: one token. No condition. -/
namespace Go.Proofs.YtbbaalimilcppaaDoor.S
open Go Go.AM Go.Proofs
set_option linter.unusedVariables false
set_option linter.unusedSimpArgs false
abbrev tokC (k : Nat) (t : List UInt8) (v : Nat) (p : Nat × Nat) : List PV := [.v (.int .i64 (k : Int)), str t, .v (.int .u64 (v : Int)), .v (.int .i64 (p.1 : Int)), .v (.int .i64 (p.2 : Int))]
abbrev pn10 (t : List UInt8) : Nat × Option Nat := puR 10 1844674407370955162 9223372036854775807 t
abbrev pn16 (t : List UInt8) : Nat × Option Nat := puR 16 1152921504606846976 18446744073709551615 t
/-- What a row of letters and digits is: its kind, its number; whether it is a token. -/
def wordR (t : List UInt8) : Nat × Nat × Bool :=
  if wordB t then (2, 0, true) else if nameB t then (1, 0, true) else (3, (pn10 t).1, (pn10 t).2.isNone && decide (Lib.decDigits (pn10 t).1 = t))
theorem pu_lt {B cut mx : Nat} : ∀ (t : List UInt8) (n : Nat), n ≤ mx → (pu B cut mx t n).1 ≤ mx
  | [], n, h => h
  | c :: t, n, h => by
    simp only [pu]
    split
    · exact Nat.zero_le _
    · split
      · exact Nat.le_refl _
      · split
        · exact Nat.le_refl _
        · exact pu_lt t _ (by omega)
theorem pn10_lt (t : List UInt8) : (pn10 t).1 ≤ 9223372036854775807 := by
  unfold pn10 puR
  split
  · simp
  · exact pu_lt t 0 (Nat.zero_le _)
theorem F31_ev {s : St} {b : Nat} {rest : List UInt8} {p : Nat × Nat} (hb : b < s.stk.length) (hp : 1 ≤ p.2) (h1 : p.1 + rest.length < 2147483648) (h2 : p.2 + rest.length < 2147483648) :
    E L (.func 31) [.ptr false b 0] (s.setBlk false b (rdc rest p)) = some (.tup [.agg (tokC (wordR (rest.take (spanN alnB rest))).1 (rest.take (spanN alnB rest)) (wordR (rest.take (spanN alnB rest))).2.1 p), .v (.bool (wordR (rest.take (spanN alnB rest))).2.2)],
      s.setBlk false b (rdc (rest.drop (spanN alnB rest)) (adv (rest.take (spanN alnB rest)) p))) := by
  rw [S31_eq]
  obtain ⟨N, hN⟩ : ∃ q, s.stk.length = q := ⟨_, rfl⟩
  obtain ⟨T, hT⟩ : ∃ q, s.tk.length = q := ⟨_, rfl⟩
  obtain ⟨Lb, hL⟩ : ∃ q, s.lp.length = q := ⟨_, rfl⟩
  rw [hN] at hb
  conv => lhs; rw [← app_nil (s.setBlk false b (rdc rest p))]
  have hlt : (rest.take (spanN alnB rest)).length < 2147483648 := by simp; omega
  have e28 := fun bl => F28_at tell41 (X := s) (b := b) (rest := rest) (x := .v (.int .i64 (p.1 : Int))) (y := .v (.int .i64 (p.2 : Int))) (hN ▸ hb) (by omega) bl [] []
  have e27 := fun bl => F27_at (X := s) (hN ▸ hb) (spanN_le alnB rest) hp (by omega) (by omega) bl [] []
  generalize spanN alnB rest = n at *
  generalize rest.take n = t at *
  generalize rest.drop n = r at *
  simp only [rdc] at e27
  have e14 : ∀ X, E L (.func 14) [str t] X = some (.v (.bool (wordB t)), X) := F14_ev hlt
  have e13 : ∀ X, E L (.func 13) [str t] X = some (.v (.bool (nameB t)), X) := F13_ev hlt
  have e42 : ∀ X, E L (.func 42) [str t, .v (.int .i64 10), .v (.int .i64 63)] X = some (.tup [.v (.int .u64 ((pn10 t).1 : Int)), errPV' (pn10 t).2], X) := F42_10 hlt
  have e43 : ∀ X, E L (.func 43) [.v (.int .u64 ((pn10 t).1 : Int)), .v (.int .i64 10)] X = some (str (Lib.decDigits (pn10 t).1), X) := F43_ev (by have := pn10_lt t; omega)
  unfold wordR
  cases hw : wordB t with
  | true => simp [S31, canon_v, canon_sl, canon_clo, canon_ptr, need_refl, elems_sl, sf_v, sf_sl, sf_ptr, sf_ptrh, sf_clo, sf_dead, sf_nil, sf_full, sf_fr, need_true, ibeq, beq_ba, nbeq, nble, nblt, AM.nth, List.getD_cons_succ, List.getD_cons_zero, Option.bind_some, Option.bind_none, Option.map_some, onBool, AM.onG, onFn, seqK, retK, Ex.outOf, cond_true, cond_false, bin_lss, bin_leq, bin_gtr, bin_geq, bin_eql, bin_neq, bin_add, bin_sub, bin_mul, un_not, str_eql, str_neq, app_push, load_fp, AM.ownPut, AM.cellsOf, AM.shift, aPick, beq_true, okSz, List.length_cons, List.length_nil, Nat.zero_add, Nat.add_zero, Nat.reduceAdd, decide_true, decide_false, Bool.and_true, Bool.true_and, Bool.and_self, Bool.not_true, Bool.not_false, List.getElem?_cons_zero, List.getElem?_cons_succ, List.nil_append, List.cons_append, max_int, min_int, modify_concat, part1, List.take_succ_cons, List.take_left, List.take_zero, List.take_nil, app_stk, app_tk, app_lp, set_stk, set_tk, set_lp, set_set, n_load, n_load0, n_old, n_store, n_store0, n_store_old, n_leave, n_leave0, n_fin_v, n_fin_sl, n_fin_u, n_back, n_next, n_blk, n_blk0, n_set, n_set0, n_set_old, bs_size, bs_inj, mk_bs, noPan, onRet, hN, hT, hL, List.toList_toArray, aNilCheck, AM.aExtract, canon, canonA, canonC, List.map_cons, List.map_nil, List.modify_zero_cons, List.modify_succ_cons, AM.part, List.drop_zero, List.drop_succ_cons, List.drop_nil, n_fin_tup, n_fin_agg, flatA, flatA.flatD, AM.flatC, List.all_cons, List.all_nil, rdc, hb, e28, e27, e14, hw, rBuild, fillP, laid, okCells, tokC]
  | false =>
  cases hm : nameB t with
  | true => simp [S31, canon_v, canon_sl, canon_clo, canon_ptr, need_refl, elems_sl, sf_v, sf_sl, sf_ptr, sf_ptrh, sf_clo, sf_dead, sf_nil, sf_full, sf_fr, need_true, ibeq, beq_ba, nbeq, nble, nblt, AM.nth, List.getD_cons_succ, List.getD_cons_zero, Option.bind_some, Option.bind_none, Option.map_some, onBool, AM.onG, onFn, seqK, retK, Ex.outOf, cond_true, cond_false, bin_lss, bin_leq, bin_gtr, bin_geq, bin_eql, bin_neq, bin_add, bin_sub, bin_mul, un_not, str_eql, str_neq, app_push, load_fp, AM.ownPut, AM.cellsOf, AM.shift, aPick, beq_true, okSz, List.length_cons, List.length_nil, Nat.zero_add, Nat.add_zero, Nat.reduceAdd, decide_true, decide_false, Bool.and_true, Bool.true_and, Bool.and_self, Bool.not_true, Bool.not_false, List.getElem?_cons_zero, List.getElem?_cons_succ, List.nil_append, List.cons_append, max_int, min_int, modify_concat, part1, List.take_succ_cons, List.take_left, List.take_zero, List.take_nil, app_stk, app_tk, app_lp, set_stk, set_tk, set_lp, set_set, n_load, n_load0, n_old, n_store, n_store0, n_store_old, n_leave, n_leave0, n_fin_v, n_fin_sl, n_fin_u, n_back, n_next, n_blk, n_blk0, n_set, n_set0, n_set_old, bs_size, bs_inj, mk_bs, noPan, onRet, hN, hT, hL, List.toList_toArray, aNilCheck, AM.aExtract, canon, canonA, canonC, List.map_cons, List.map_nil, List.modify_zero_cons, List.modify_succ_cons, AM.part, List.drop_zero, List.drop_succ_cons, List.drop_nil, n_fin_tup, n_fin_agg, flatA, flatA.flatD, AM.flatC, List.all_cons, List.all_nil, rdc, hb, e28, e27, e14, hw, e13, hm, rBuild, fillP, laid, okCells, tokC]
  | false =>
    generalize pn10 t = q at *
    obtain ⟨v, k⟩ := q
    cases k with
    | none => simp [S31, canon_v, canon_sl, canon_clo, canon_ptr, need_refl, elems_sl, sf_v, sf_sl, sf_ptr, sf_ptrh, sf_clo, sf_dead, sf_nil, sf_full, sf_fr, need_true, ibeq, beq_ba, nbeq, nble, nblt, AM.nth, List.getD_cons_succ, List.getD_cons_zero, Option.bind_some, Option.bind_none, Option.map_some, onBool, AM.onG, onFn, seqK, retK, Ex.outOf, cond_true, cond_false, bin_lss, bin_leq, bin_gtr, bin_geq, bin_eql, bin_neq, bin_add, bin_sub, bin_mul, un_not, str_eql, str_neq, app_push, load_fp, AM.ownPut, AM.cellsOf, AM.shift, aPick, beq_true, okSz, List.length_cons, List.length_nil, Nat.zero_add, Nat.add_zero, Nat.reduceAdd, decide_true, decide_false, Bool.and_true, Bool.true_and, Bool.and_self, Bool.not_true, Bool.not_false, List.getElem?_cons_zero, List.getElem?_cons_succ, List.nil_append, List.cons_append, max_int, min_int, modify_concat, part1, List.take_succ_cons, List.take_left, List.take_zero, List.take_nil, app_stk, app_tk, app_lp, set_stk, set_tk, set_lp, set_set, n_load, n_load0, n_old, n_store, n_store0, n_store_old, n_leave, n_leave0, n_fin_v, n_fin_sl, n_fin_u, n_back, n_next, n_blk, n_blk0, n_set, n_set0, n_set_old, bs_size, bs_inj, mk_bs, noPan, onRet, hN, hT, hL, List.toList_toArray, aNilCheck, AM.aExtract, canon, canonA, canonC, List.map_cons, List.map_nil, List.modify_zero_cons, List.modify_succ_cons, AM.part, List.drop_zero, List.drop_succ_cons, List.drop_nil, n_fin_tup, n_fin_agg, flatA, flatA.flatD, AM.flatC, List.all_cons, List.all_nil, rdc, hb, e28, e27, e14, hw, e13, hm, e42, e43, errPV', nneql_62, rBuild, fillP, laid, okCells, tokC]
    | some k => simp [S31, canon_v, canon_sl, canon_clo, canon_ptr, need_refl, elems_sl, sf_v, sf_sl, sf_ptr, sf_ptrh, sf_clo, sf_dead, sf_nil, sf_full, sf_fr, need_true, ibeq, beq_ba, nbeq, nble, nblt, AM.nth, List.getD_cons_succ, List.getD_cons_zero, Option.bind_some, Option.bind_none, Option.map_some, onBool, AM.onG, onFn, seqK, retK, Ex.outOf, cond_true, cond_false, bin_lss, bin_leq, bin_gtr, bin_geq, bin_eql, bin_neq, bin_add, bin_sub, bin_mul, un_not, str_eql, str_neq, app_push, load_fp, AM.ownPut, AM.cellsOf, AM.shift, aPick, beq_true, okSz, List.length_cons, List.length_nil, Nat.zero_add, Nat.add_zero, Nat.reduceAdd, decide_true, decide_false, Bool.and_true, Bool.true_and, Bool.and_self, Bool.not_true, Bool.not_false, List.getElem?_cons_zero, List.getElem?_cons_succ, List.nil_append, List.cons_append, max_int, min_int, modify_concat, part1, List.take_succ_cons, List.take_left, List.take_zero, List.take_nil, app_stk, app_tk, app_lp, set_stk, set_tk, set_lp, set_set, n_load, n_load0, n_old, n_store, n_store0, n_store_old, n_leave, n_leave0, n_fin_v, n_fin_sl, n_fin_u, n_back, n_next, n_blk, n_blk0, n_set, n_set0, n_set_old, bs_size, bs_inj, mk_bs, noPan, onRet, hN, hT, hL, List.toList_toArray, aNilCheck, AM.aExtract, canon, canonA, canonC, List.map_cons, List.map_nil, List.modify_zero_cons, List.modify_succ_cons, AM.part, List.drop_zero, List.drop_succ_cons, List.drop_nil, n_fin_tup, n_fin_agg, flatA, flatA.flatD, AM.flatC, List.all_cons, List.all_nil, rdc, hb, e28, e27, e14, hw, e13, hm, e42, e43, errPV', ineql_62, rBuild, fillP, laid, okCells, tokC]

theorem alnB_lt {c : UInt8} (h : alnB c = true) : c.toNat < 128 := by
  have := c.toNat_lt
  by_cases hc : c.toNat < 128
  · exact hc
  · simp [alnB, letB, digB, let_high (show (128 : Int) ≤ (c.toNat : Int) by omega), dig_high (show (128 : Int) ≤ (c.toNat : Int) by omega)] at h
theorem span_all (q : UInt8 → Bool) (l : List UInt8) : ∀ c ∈ l.take (spanN q l), q c = true := by
  induction l with
  | nil => simp [spanN]
  | cons a l ih =>
    rw [spanN_cons]
    by_cases ha : q a = true
    · rw [if_pos ha, List.take_succ_cons]
      intro c hc
      rcases List.mem_cons.1 hc with rfl | hc
      · exact ha
      · exact ih c hc
    · rw [if_neg ha]; simp
/-- Is what stands behind a stroke the bits of a real number? -/
def realOk (t : List UInt8) : Bool := (pn16 t).2.isNone && decide (t.length = 16) && !Lib.containsAny (35 :: t) [65, 66, 67, 68, 69, 70]
theorem F32_ev {s : St} {b : Nat} {l : List UInt8} {p : Nat × Nat} (hb : b < s.stk.length) (hp : 1 ≤ p.2) (h1 : p.1 + (35 :: l).length < 2147483648) (h2 : p.2 + (35 :: l).length < 2147483648) :
    E L (.func 32) [.ptr false b 0] (s.setBlk false b (rdc (35 :: l) p)) = some (.tup [.agg (tokC 4 (35 :: l.take (spanN alnB l)) (pn16 (l.take (spanN alnB l))).1 p), .v (.bool (realOk (l.take (spanN alnB l))))],
      s.setBlk false b (rdc (l.drop (spanN alnB l)) (adv (35 :: l.take (spanN alnB l)) p))) := by
  rw [S32_eq]
  obtain ⟨N, hN⟩ : ∃ q, s.stk.length = q := ⟨_, rfl⟩
  obtain ⟨T, hT⟩ : ∃ q, s.tk.length = q := ⟨_, rfl⟩
  obtain ⟨Lb, hL⟩ : ∃ q, s.lp.length = q := ⟨_, rfl⟩
  rw [hN] at hb
  conv => lhs; rw [← app_nil (s.setBlk false b (rdc (35 :: l) p))]
  simp only [List.length_cons] at h1 h2
  have hlt : (l.take (spanN alnB l)).length < 2147483647 := by simp; omega
  have hal := span_all alnB l
  have ad := adv_take_bnd (rest := 35 :: l) (n := 1) (by simp) hp (M := 2147483648) (by simpa using h1) (by simpa using h2)
  simp only [List.take_succ_cons, List.take_zero, List.drop_succ_cons, List.drop_zero] at ad
  have e27 := fun bl => F27_at (X := s) (b := b) (n := 1) (rest := 35 :: l) (hN ▸ hb) (by simp) hp (by simp; omega) (by simp; omega) bl [] []
  simp only [List.take_succ_cons, List.take_zero, List.drop_succ_cons, List.drop_zero, rdc, Int.cast_ofNat_Int] at e27
  have e28 := fun bl => F28_at tell44 (X := s) (b := b) (rest := l) (x := .v (.int .i64 ((adv [35] p).1 : Int))) (y := .v (.int .i64 ((adv [35] p).2 : Int))) (hN ▸ hb) (by omega) bl [] []
  have e27' := fun bl => F27_at (X := s) (b := b) (rest := l) (p := adv [35] p) (hN ▸ hb) (spanN_le alnB l) ad.1 (by omega) (by omega) bl [] []
  have ea : adv (35 :: l.take (spanN alnB l)) p = adv (l.take (spanN alnB l)) (adv [35] p) := adv_append [35] _ p
  rw [ea]
  generalize adv [35] p = p1 at *
  generalize spanN alnB l = n at *
  generalize l.take n = t at *
  generalize l.drop n = r at *
  simp only [rdc] at e27'
  have es : aBin Tryd.prog true .add 9 (str [35]) (str t) = some (str (35 :: t)) := by rw [str_add _ _ _ _ _ (by simp [bs_size]; omega), bs_append]; rfl
  have esl : aSlice Tryd.prog 9 (str (35 :: t)) (some (.v (.int .i64 1))) none none = some (str t) := slcl_9 (l := 35 :: t) (lo := 1) .i64 (by simp)
  have e42 : ∀ X, E L (.func 42) [str t, .v (.int .i64 16), .v (.int .i64 64)] X = some (.tup [.v (.int .u64 ((pn16 t).1 : Int)), errPV' (pn16 t).2], X) := F42_16 (by omega)
  have e45 : ∀ X, E L (.func 45) [str (35 :: t), str [65, 66, 67, 68, 69, 70]] X = some (.v (.bool (Lib.containsAny (35 :: t) [65, 66, 67, 68, 69, 70])), X) := F45_ev (by simp; omega) (by simp) (fun c hc => by
    rcases List.mem_cons.1 hc with rfl | hc
    · decide
    · exact alnB_lt (hal c hc)) (by decide)
  unfold realOk
  generalize Lib.containsAny (35 :: t) [65, 66, 67, 68, 69, 70] = ca at *
  generalize pn16 t = q at *
  obtain ⟨v, k⟩ := q
  cases k with
  | none =>
    by_cases hlen : t.length = 16
    · have hl' : ((t.length : Int) + 1 = 17) := by omega
      simp [S32, canon_v, canon_sl, canon_clo, canon_ptr, need_refl, elems_sl, sf_v, sf_sl, sf_ptr, sf_ptrh, sf_clo, sf_dead, sf_nil, sf_full, sf_fr, need_true, ibeq, beq_ba, nbeq, nble, nblt, AM.nth, List.getD_cons_succ, List.getD_cons_zero, Option.bind_some, Option.bind_none, Option.map_some, onBool, AM.onG, onFn, seqK, retK, Ex.outOf, cond_true, cond_false, bin_lss, bin_leq, bin_gtr, bin_geq, bin_eql, bin_neq, bin_add, bin_sub, bin_mul, un_not, str_eql, str_neq, app_push, load_fp, AM.ownPut, AM.cellsOf, AM.shift, aPick, beq_true, okSz, List.length_cons, List.length_nil, Nat.zero_add, Nat.add_zero, Nat.reduceAdd, decide_true, decide_false, Bool.and_true, Bool.true_and, Bool.and_self, Bool.not_true, Bool.not_false, List.getElem?_cons_zero, List.getElem?_cons_succ, List.nil_append, List.cons_append, max_int, min_int, modify_concat, part1, List.take_succ_cons, List.take_left, List.take_zero, List.take_nil, app_stk, app_tk, app_lp, set_stk, set_tk, set_lp, set_set, n_load, n_load0, n_old, n_store, n_store0, n_store_old, n_leave, n_leave0, n_fin_v, n_fin_sl, n_fin_u, n_back, n_next, n_blk, n_blk0, n_set, n_set0, n_set_old, bs_size, bs_inj, mk_bs, noPan, onRet, hN, hT, hL, List.toList_toArray, aNilCheck, AM.aExtract, canon, canonA, canonC, List.map_cons, List.map_nil, List.modify_zero_cons, List.modify_succ_cons, AM.part, List.drop_zero, List.drop_succ_cons, List.drop_nil, n_fin_tup, n_fin_agg, flatA, flatA.flatD, AM.flatC, List.all_cons, List.all_nil, rdc, hb, e27, e28, e27', es, esl, e42, errPV', nneql_62, len_9, hlen, hl', e45, rBuild, fillP, laid, okCells, tokC]
    · have hl' : ¬ ((t.length : Int) + 1 = 17) := by omega
      simp [S32, canon_v, canon_sl, canon_clo, canon_ptr, need_refl, elems_sl, sf_v, sf_sl, sf_ptr, sf_ptrh, sf_clo, sf_dead, sf_nil, sf_full, sf_fr, need_true, ibeq, beq_ba, nbeq, nble, nblt, AM.nth, List.getD_cons_succ, List.getD_cons_zero, Option.bind_some, Option.bind_none, Option.map_some, onBool, AM.onG, onFn, seqK, retK, Ex.outOf, cond_true, cond_false, bin_lss, bin_leq, bin_gtr, bin_geq, bin_eql, bin_neq, bin_add, bin_sub, bin_mul, un_not, str_eql, str_neq, app_push, load_fp, AM.ownPut, AM.cellsOf, AM.shift, aPick, beq_true, okSz, List.length_cons, List.length_nil, Nat.zero_add, Nat.add_zero, Nat.reduceAdd, decide_true, decide_false, Bool.and_true, Bool.true_and, Bool.and_self, Bool.not_true, Bool.not_false, List.getElem?_cons_zero, List.getElem?_cons_succ, List.nil_append, List.cons_append, max_int, min_int, modify_concat, part1, List.take_succ_cons, List.take_left, List.take_zero, List.take_nil, app_stk, app_tk, app_lp, set_stk, set_tk, set_lp, set_set, n_load, n_load0, n_old, n_store, n_store0, n_store_old, n_leave, n_leave0, n_fin_v, n_fin_sl, n_fin_u, n_back, n_next, n_blk, n_blk0, n_set, n_set0, n_set_old, bs_size, bs_inj, mk_bs, noPan, onRet, hN, hT, hL, List.toList_toArray, aNilCheck, AM.aExtract, canon, canonA, canonC, List.map_cons, List.map_nil, List.modify_zero_cons, List.modify_succ_cons, AM.part, List.drop_zero, List.drop_succ_cons, List.drop_nil, n_fin_tup, n_fin_agg, flatA, flatA.flatD, AM.flatC, List.all_cons, List.all_nil, rdc, hb, e27, e28, e27', es, esl, e42, errPV', nneql_62, len_9, hlen, hl', rBuild, fillP, laid, okCells, tokC]
  | some k => simp [S32, canon_v, canon_sl, canon_clo, canon_ptr, need_refl, elems_sl, sf_v, sf_sl, sf_ptr, sf_ptrh, sf_clo, sf_dead, sf_nil, sf_full, sf_fr, need_true, ibeq, beq_ba, nbeq, nble, nblt, AM.nth, List.getD_cons_succ, List.getD_cons_zero, Option.bind_some, Option.bind_none, Option.map_some, onBool, AM.onG, onFn, seqK, retK, Ex.outOf, cond_true, cond_false, bin_lss, bin_leq, bin_gtr, bin_geq, bin_eql, bin_neq, bin_add, bin_sub, bin_mul, un_not, str_eql, str_neq, app_push, load_fp, AM.ownPut, AM.cellsOf, AM.shift, aPick, beq_true, okSz, List.length_cons, List.length_nil, Nat.zero_add, Nat.add_zero, Nat.reduceAdd, decide_true, decide_false, Bool.and_true, Bool.true_and, Bool.and_self, Bool.not_true, Bool.not_false, List.getElem?_cons_zero, List.getElem?_cons_succ, List.nil_append, List.cons_append, max_int, min_int, modify_concat, part1, List.take_succ_cons, List.take_left, List.take_zero, List.take_nil, app_stk, app_tk, app_lp, set_stk, set_tk, set_lp, set_set, n_load, n_load0, n_old, n_store, n_store0, n_store_old, n_leave, n_leave0, n_fin_v, n_fin_sl, n_fin_u, n_back, n_next, n_blk, n_blk0, n_set, n_set0, n_set_old, bs_size, bs_inj, mk_bs, noPan, onRet, hN, hT, hL, List.toList_toArray, aNilCheck, AM.aExtract, canon, canonA, canonC, List.map_cons, List.map_nil, List.modify_zero_cons, List.modify_succ_cons, AM.part, List.drop_zero, List.drop_succ_cons, List.drop_nil, n_fin_tup, n_fin_agg, flatA, flatA.flatD, AM.flatC, List.all_cons, List.all_nil, rdc, hb, e27, e28, e27', es, esl, e42, errPV', ineql_62, rBuild, fillP, laid, okCells, tokC]

/-! ### signs -/
def signs1 : List UInt8 := [123, 125, 40, 41, 91, 93, 59, 58, 44, 46, 61, 60, 43, 45, 42, 47, 37]
/-- How long the sign at the beginning is; 0: there is none. -/
def signN (l : List UInt8) : Nat :=
  if ([61, 61] : List UInt8).isPrefixOf l || ([33, 61] : List UInt8).isPrefixOf l || ([60, 61] : List UInt8).isPrefixOf l then 2 else
  match l with
  | [] => 0
  | c :: _ => if signs1.contains c then 1 else 0
theorem F33_ev {s : St} {b : Nat} {c : UInt8} {l : List UInt8} {p : Nat × Nat} (hb : b < s.stk.length) (hp : 1 ≤ p.2) (h1 : p.1 + (c :: l).length < 2147483648) (h2 : p.2 + (c :: l).length < 2147483648) :
    E L (.func 33) [.ptr false b 0] (s.setBlk false b (rdc (c :: l) p)) = some (.tup [.agg (tokC 5 ((c :: l).take (signN (c :: l))) 0 p), .v (.bool (!decide (signN (c :: l) = 0)))],
      s.setBlk false b (rdc ((c :: l).drop (signN (c :: l))) (adv ((c :: l).take (signN (c :: l))) p))) := by
  rw [S33_eq]
  obtain ⟨N, hN⟩ : ∃ q, s.stk.length = q := ⟨_, rfl⟩
  obtain ⟨T, hT⟩ : ∃ q, s.tk.length = q := ⟨_, rfl⟩
  obtain ⟨Lb, hL⟩ : ∃ q, s.lp.length = q := ⟨_, rfl⟩
  rw [hN] at hb
  conv => lhs; rw [← app_nil (s.setBlk false b (rdc (c :: l) p))]
  have hlen : (c :: l).length < 2147483648 := by omega
  have eb : aBuild Tryd.prog 66 [(0, str [61, 61]), (1, str [33, 61]), (2, str [60, 61])] = some (.agg [str [61, 61], str [33, 61], str [60, 61]]) := by kernel_rfl
  let V := fun (i : Int) => [PV.ptr false b 0, .ptr false N 0, .v (.bool false), .ptr false (N + 1) 0, .agg [str [61, 61], str [33, 61], str [60, 61]], .v (.int .i64 i)]
  have miss : ∀ (i : Int) (x : List UInt8), 0 ≤ i → i < 3 → aIndex Tryd.prog 66 (.agg [str [61, 61], str [33, 61], str [60, 61]]) (.v (.int .i64 i)) = some (str x) → x.length ≤ 2 → x.isPrefixOf (c :: l) = false → ∀ bl,
      S33.b0 (E L) itE N Lb (V i) ((s.setBlk false b (rdc (c :: l) p)).app bl [] []) = some (.normal, V (i + 1), (s.setBlk false b (rdc (c :: l) p)).app bl [] []) := by
    intro i x h0 h3 hx hxl hpre bl
    have e26 : ∀ X, E L (.func 26) [str (c :: l), str x] X = some (.v (.bool false), X) := fun X => by rw [F26_ev (by omega) (by omega), hpre]
    have wi : IntKind.i64.wrap (i + 1) = i + 1 := IntWalk.i64_in _ (by omega)
    simp [S33.b0, V, canon_v, canon_sl, canon_clo, canon_ptr, need_refl, elems_sl, sf_v, sf_sl, sf_ptr, sf_ptrh, sf_clo, sf_dead, sf_nil, sf_full, sf_fr, need_true, ibeq, beq_ba, nbeq, nble, nblt, AM.nth, List.getD_cons_succ, List.getD_cons_zero, Option.bind_some, Option.bind_none, Option.map_some, onBool, AM.onG, onFn, seqK, retK, Ex.outOf, cond_true, cond_false, bin_lss, bin_leq, bin_gtr, bin_geq, bin_eql, bin_neq, bin_add, bin_sub, bin_mul, un_not, str_eql, str_neq, app_push, load_fp, AM.ownPut, AM.cellsOf, AM.shift, aPick, beq_true, okSz, List.length_cons, List.length_nil, Nat.zero_add, Nat.add_zero, Nat.reduceAdd, decide_true, decide_false, Bool.and_true, Bool.true_and, Bool.and_self, Bool.not_true, Bool.not_false, List.getElem?_cons_zero, List.getElem?_cons_succ, List.nil_append, List.cons_append, max_int, min_int, modify_concat, part1, List.take_succ_cons, List.take_left, List.take_zero, List.take_nil, app_stk, app_tk, app_lp, set_stk, set_tk, set_lp, set_set, n_load, n_load0, n_old, n_store, n_store0, n_store_old, n_leave, n_leave0, n_fin_v, n_fin_sl, n_fin_u, n_back, n_next, n_blk, n_blk0, n_set, n_set0, n_set_old, bs_size, bs_inj, mk_bs, noPan, onRet, hN, hT, hL, List.toList_toArray, aNilCheck, AM.aExtract, canon, canonA, canonC, List.map_cons, List.map_nil, List.modify_zero_cons, List.modify_succ_cons, AM.part, List.drop_zero, List.drop_succ_cons, List.drop_nil, n_fin_tup, n_fin_agg, flatA, flatA.flatD, AM.flatC, List.all_cons, List.all_nil, rdc, hb, h3, hx, e26, wi]
  have hit : ∀ (i : Int) (x : List UInt8), 0 ≤ i → i < 3 → aIndex Tryd.prog 66 (.agg [str [61, 61], str [33, 61], str [60, 61]]) (.v (.int .i64 i)) = some (str x) → x.length = 2 → x.isPrefixOf (c :: l) = true → ∃ y,
      S33.b0 (E L) itE N Lb (V i) ((s.setBlk false b (rdc (c :: l) p)).app [⟨[.v (.int .i64 0), str [], .v (.int .u64 0), .v (.int .i64 0), .v (.int .i64 0)], []⟩, ⟨tokC 5 [] 0 p, []⟩] [] []) =
        some (.ret, [PV.ptr false b 0, .ptr false N 0, .v (.bool true), .ptr false (N + 1) 0, .agg [str [61, 61], str [33, 61], str [60, 61]], y], (s.setBlk false b (rdc ((c :: l).drop 2) (adv ((c :: l).take 2) p))).app [⟨tokC 5 ((c :: l).take 2) 0 p, []⟩, ⟨tokC 5 ((c :: l).take 2) 0 p, []⟩] [] []) := by
    intro i x h0 h3 hx hxl hpre
    have e26 : ∀ X, E L (.func 26) [str (c :: l), str x] X = some (.v (.bool true), X) := fun X => by rw [F26_ev (by omega) (by omega), hpre]
    have hn : 2 ≤ (c :: l).length := by
      have := (List.isPrefixOf_iff_prefix.1 hpre).length_le
      omega
    have e27 := fun bl => F27_at (X := s) (n := 2) (hN ▸ hb) hn hp (by omega) (by omega) bl [] []
    simp only [rdc, Int.cast_ofNat_Int] at e27
    generalize (c :: l).drop 2 = r at *
    generalize (c :: l).take 2 = t at *
    refine ⟨.v (.int .i64 i), ?_⟩
    simp [S33.b0, V, canon_v, canon_sl, canon_clo, canon_ptr, need_refl, elems_sl, sf_v, sf_sl, sf_ptr, sf_ptrh, sf_clo, sf_dead, sf_nil, sf_full, sf_fr, need_true, ibeq, beq_ba, nbeq, nble, nblt, AM.nth, List.getD_cons_succ, List.getD_cons_zero, Option.bind_some, Option.bind_none, Option.map_some, onBool, AM.onG, onFn, seqK, retK, Ex.outOf, cond_true, cond_false, bin_lss, bin_leq, bin_gtr, bin_geq, bin_eql, bin_neq, bin_add, bin_sub, bin_mul, un_not, str_eql, str_neq, app_push, load_fp, AM.ownPut, AM.cellsOf, AM.shift, aPick, beq_true, okSz, List.length_cons, List.length_nil, Nat.zero_add, Nat.add_zero, Nat.reduceAdd, decide_true, decide_false, Bool.and_true, Bool.true_and, Bool.and_self, Bool.not_true, Bool.not_false, List.getElem?_cons_zero, List.getElem?_cons_succ, List.nil_append, List.cons_append, max_int, min_int, modify_concat, part1, List.take_succ_cons, List.take_left, List.take_zero, List.take_nil, app_stk, app_tk, app_lp, set_stk, set_tk, set_lp, set_set, n_load, n_load0, n_old, n_store, n_store0, n_store_old, n_leave, n_leave0, n_fin_v, n_fin_sl, n_fin_u, n_back, n_next, n_blk, n_blk0, n_set, n_set0, n_set_old, bs_size, bs_inj, mk_bs, noPan, onRet, hN, hT, hL, List.toList_toArray, aNilCheck, AM.aExtract, canon, canonA, canonC, List.map_cons, List.map_nil, List.modify_zero_cons, List.modify_succ_cons, AM.part, List.drop_zero, List.drop_succ_cons, List.drop_nil, n_fin_tup, n_fin_agg, flatA, flatA.flatD, AM.flatC, List.all_cons, List.all_nil, rdc, hb, h3, hx, e26, e27, laid, okCells, tokC]
  have i0 : aIndex Tryd.prog 66 (.agg [str [61, 61], str [33, 61], str [60, 61]]) (.v (.int .i64 0)) = some (str [61, 61]) := ix0_66 _ _ _ _
  have i1 : aIndex Tryd.prog 66 (.agg [str [61, 61], str [33, 61], str [60, 61]]) (.v (.int .i64 1)) = some (str [33, 61]) := ix1_66 _ _ _ _
  have i2 : aIndex Tryd.prog 66 (.agg [str [61, 61], str [33, 61], str [60, 61]]) (.v (.int .i64 2)) = some (str [60, 61]) := ix2_66 _ _ _ _
  by_cases htwo : ([61, 61] : List UInt8).isPrefixOf (c :: l) || ([33, 61] : List UInt8).isPrefixOf (c :: l) || ([60, 61] : List UInt8).isPrefixOf (c :: l)
  · have hs : signN (c :: l) = 2 := by rw [signN, if_pos htwo]
    rw [hs]
    have run : ∃ y, itE (S33.b0 (E L) itE N Lb) (V 0) ((s.setBlk false b (rdc (c :: l) p)).app [⟨[.v (.int .i64 0), str [], .v (.int .u64 0), .v (.int .i64 0), .v (.int .i64 0)], []⟩, ⟨tokC 5 [] 0 p, []⟩] [] []) =
        some (.ret, [PV.ptr false b 0, .ptr false N 0, .v (.bool true), .ptr false (N + 1) 0, .agg [str [61, 61], str [33, 61], str [60, 61]], y], (s.setBlk false b (rdc ((c :: l).drop 2) (adv ((c :: l).take 2) p))).app [⟨tokC 5 ((c :: l).take 2) 0 p, []⟩, ⟨tokC 5 ((c :: l).take 2) 0 p, []⟩] [] []) := by
      cases h0 : ([61, 61] : List UInt8).isPrefixOf (c :: l) with
      | true =>
        obtain ⟨y, h⟩ := hit 0 _ (by omega) (by omega) i0 rfl h0
        exact ⟨y, it_ret h⟩
      | false =>
        rw [it_step (miss 0 _ (by omega) (by omega) i0 (by simp) h0 _)]
        cases h1 : ([33, 61] : List UInt8).isPrefixOf (c :: l) with
        | true =>
          obtain ⟨y, h⟩ := hit 1 _ (by omega) (by omega) i1 rfl h1
          exact ⟨y, it_ret h⟩
        | false =>
          rw [show (0 : Int) + 1 = 1 from rfl, it_step (miss 1 _ (by omega) (by omega) i1 (by simp) h1 _)]
          obtain ⟨y, h⟩ := hit 2 _ (by omega) (by omega) i2 rfl (by rw [h0, h1] at htwo; simpa using htwo)
          exact ⟨y, it_ret h⟩
    obtain ⟨y, run⟩ := run
    simp only [V, tokC, rdc, Int.cast_ofNat_Int, Int.natCast_zero] at run
    generalize (c :: l).drop 2 = r at *
    generalize (c :: l).take 2 = t at *
    simp [S33, canon_v, canon_sl, canon_clo, canon_ptr, need_refl, elems_sl, sf_v, sf_sl, sf_ptr, sf_ptrh, sf_clo, sf_dead, sf_nil, sf_full, sf_fr, need_true, ibeq, beq_ba, nbeq, nble, nblt, AM.nth, List.getD_cons_succ, List.getD_cons_zero, Option.bind_some, Option.bind_none, Option.map_some, onBool, AM.onG, onFn, seqK, retK, Ex.outOf, cond_true, cond_false, bin_lss, bin_leq, bin_gtr, bin_geq, bin_eql, bin_neq, bin_add, bin_sub, bin_mul, un_not, str_eql, str_neq, app_push, load_fp, AM.ownPut, AM.cellsOf, AM.shift, aPick, beq_true, okSz, List.length_cons, List.length_nil, Nat.zero_add, Nat.add_zero, Nat.reduceAdd, decide_true, decide_false, Bool.and_true, Bool.true_and, Bool.and_self, Bool.not_true, Bool.not_false, List.getElem?_cons_zero, List.getElem?_cons_succ, List.nil_append, List.cons_append, max_int, min_int, modify_concat, part1, List.take_succ_cons, List.take_left, List.take_zero, List.take_nil, app_stk, app_tk, app_lp, set_stk, set_tk, set_lp, set_set, n_load, n_load0, n_old, n_store, n_store0, n_store_old, n_leave, n_leave0, n_fin_v, n_fin_sl, n_fin_u, n_back, n_next, n_blk, n_blk0, n_set, n_set0, n_set_old, bs_size, bs_inj, mk_bs, noPan, onRet, hN, hT, hL, List.toList_toArray, aNilCheck, AM.aExtract, canon, canonA, canonC, List.map_cons, List.map_nil, List.modify_zero_cons, List.modify_succ_cons, AM.part, List.drop_zero, List.drop_succ_cons, List.drop_nil, n_fin_tup, n_fin_agg, flatA, flatA.flatD, AM.flatC, List.all_cons, List.all_nil, rdc, hb, eb, run, rBuild, fillP, laid, okCells, tokC]
  · have h012 : ([61, 61] : List UInt8).isPrefixOf (c :: l) = false ∧ ([33, 61] : List UInt8).isPrefixOf (c :: l) = false ∧ ([60, 61] : List UInt8).isPrefixOf (c :: l) = false := by
      simp only [Bool.or_eq_true, not_or, Bool.not_eq_true] at htwo
      exact ⟨htwo.1.1, htwo.1.2, htwo.2⟩
    have run : ∀ bl, itE (S33.b0 (E L) itE N Lb) (V 0) ((s.setBlk false b (rdc (c :: l) p)).app bl [] []) = some (.exit 0, V 3, (s.setBlk false b (rdc (c :: l) p)).app bl [] []) := by
      intro bl
      rw [it_step (miss 0 _ (by omega) (by omega) i0 (by simp) h012.1 _), show (0 : Int) + 1 = 1 from rfl, it_step (miss 1 _ (by omega) (by omega) i1 (by simp) h012.2.1 _), show (1 : Int) + 1 = 2 from rfl, it_step (miss 2 _ (by omega) (by omega) i2 (by simp) h012.2.2 _)]
      apply it_exit
      simp [S33.b0, V, canon_v, canon_sl, canon_clo, canon_ptr, need_refl, elems_sl, sf_v, sf_sl, sf_ptr, sf_ptrh, sf_clo, sf_dead, sf_nil, sf_full, sf_fr, need_true, ibeq, beq_ba, nbeq, nble, nblt, AM.nth, List.getD_cons_succ, List.getD_cons_zero, Option.bind_some, Option.bind_none, Option.map_some, onBool, AM.onG, onFn, seqK, retK, Ex.outOf, cond_true, cond_false, bin_lss, bin_leq, bin_gtr, bin_geq, bin_eql, bin_neq, bin_add, bin_sub, bin_mul, un_not, str_eql, str_neq, app_push, load_fp, AM.ownPut, AM.cellsOf, AM.shift, aPick, beq_true, okSz, List.length_cons, List.length_nil, Nat.zero_add, Nat.add_zero, Nat.reduceAdd, decide_true, decide_false, Bool.and_true, Bool.true_and, Bool.and_self, Bool.not_true, Bool.not_false, List.getElem?_cons_zero, List.getElem?_cons_succ, List.nil_append, List.cons_append, max_int, min_int, modify_concat, part1, List.take_succ_cons, List.take_left, List.take_zero, List.take_nil, app_stk, app_tk, app_lp, set_stk, set_tk, set_lp, set_set, n_load, n_load0, n_old, n_store, n_store0, n_store_old, n_leave, n_leave0, n_fin_v, n_fin_sl, n_fin_u, n_back, n_next, n_blk, n_blk0, n_set, n_set0, n_set_old, bs_size, bs_inj, mk_bs, noPan, onRet, hN, hT, hL, List.toList_toArray, aNilCheck, AM.aExtract, canon, canonA, canonC, List.map_cons, List.map_nil, List.modify_zero_cons, List.modify_succ_cons, AM.part, List.drop_zero, List.drop_succ_cons, List.drop_nil, n_fin_tup, n_fin_agg, flatA, flatA.flatD, AM.flatC, List.all_cons, List.all_nil]
    simp only [V, rdc] at run
    have e30 : ∀ X, E L (.func 30) [str signs1, .v (.int .u8 (c.toNat : Int))] X = _ := F30_ev signs1 c
    have hin := (indexByte_ge c signs1)
    by_cases hc : c ∈ signs1
    · have hs : signN (c :: l) = 1 := by rw [signN, if_neg htwo]; simp [hc]
      have hneg : ¬ (Lib.indexByte signs1 c < 0) := by have := hin.2.2 hc; omega
      rw [hs]
      have e27 := fun bl => F27_at (X := s) (b := b) (n := 1) (rest := c :: l) (hN ▸ hb) (by simp) hp (by omega) (by omega) bl [] []
      simp only [rdc, Int.cast_ofNat_Int] at e27
      generalize (c :: l).drop 1 = r at *
      generalize (c :: l).take 1 = t at *
      unfold signs1 at e30 hneg
      simp [S33, canon_v, canon_sl, canon_clo, canon_ptr, need_refl, elems_sl, sf_v, sf_sl, sf_ptr, sf_ptrh, sf_clo, sf_dead, sf_nil, sf_full, sf_fr, need_true, ibeq, beq_ba, nbeq, nble, nblt, AM.nth, List.getD_cons_succ, List.getD_cons_zero, Option.bind_some, Option.bind_none, Option.map_some, onBool, AM.onG, onFn, seqK, retK, Ex.outOf, cond_true, cond_false, bin_lss, bin_leq, bin_gtr, bin_geq, bin_eql, bin_neq, bin_add, bin_sub, bin_mul, un_not, str_eql, str_neq, app_push, load_fp, AM.ownPut, AM.cellsOf, AM.shift, aPick, beq_true, okSz, List.length_cons, List.length_nil, Nat.zero_add, Nat.add_zero, Nat.reduceAdd, decide_true, decide_false, Bool.and_true, Bool.true_and, Bool.and_self, Bool.not_true, Bool.not_false, List.getElem?_cons_zero, List.getElem?_cons_succ, List.nil_append, List.cons_append, max_int, min_int, modify_concat, part1, List.take_succ_cons, List.take_left, List.take_zero, List.take_nil, app_stk, app_tk, app_lp, set_stk, set_tk, set_lp, set_set, n_load, n_load0, n_old, n_store, n_store0, n_store_old, n_leave, n_leave0, n_fin_v, n_fin_sl, n_fin_u, n_back, n_next, n_blk, n_blk0, n_set, n_set0, n_set_old, bs_size, bs_inj, mk_bs, noPan, onRet, hN, hT, hL, List.toList_toArray, aNilCheck, AM.aExtract, canon, canonA, canonC, List.map_cons, List.map_nil, List.modify_zero_cons, List.modify_succ_cons, AM.part, List.drop_zero, List.drop_succ_cons, List.drop_nil, n_fin_tup, n_fin_agg, flatA, flatA.flatD, AM.flatC, List.all_cons, List.all_nil, rdc, hb, eb, run, ix0_9, e30, hneg, e27, rBuild, fillP, laid, okCells, tokC]
    · have hs : signN (c :: l) = 0 := by rw [signN, if_neg htwo]; simp [hc]
      have hneg : Lib.indexByte signs1 c < 0 := by
        have h' : ¬ (0 ≤ Lib.indexByte signs1 c) := fun h => hc (hin.2.1 h)
        omega
      rw [hs]
      unfold signs1 at e30 hneg
      simp [S33, canon_v, canon_sl, canon_clo, canon_ptr, need_refl, elems_sl, sf_v, sf_sl, sf_ptr, sf_ptrh, sf_clo, sf_dead, sf_nil, sf_full, sf_fr, need_true, ibeq, beq_ba, nbeq, nble, nblt, AM.nth, List.getD_cons_succ, List.getD_cons_zero, Option.bind_some, Option.bind_none, Option.map_some, onBool, AM.onG, onFn, seqK, retK, Ex.outOf, cond_true, cond_false, bin_lss, bin_leq, bin_gtr, bin_geq, bin_eql, bin_neq, bin_add, bin_sub, bin_mul, un_not, str_eql, str_neq, app_push, load_fp, AM.ownPut, AM.cellsOf, AM.shift, aPick, beq_true, okSz, List.length_cons, List.length_nil, Nat.zero_add, Nat.add_zero, Nat.reduceAdd, decide_true, decide_false, Bool.and_true, Bool.true_and, Bool.and_self, Bool.not_true, Bool.not_false, List.getElem?_cons_zero, List.getElem?_cons_succ, List.nil_append, List.cons_append, max_int, min_int, modify_concat, part1, List.take_succ_cons, List.take_left, List.take_zero, List.take_nil, app_stk, app_tk, app_lp, set_stk, set_tk, set_lp, set_set, n_load, n_load0, n_old, n_store, n_store0, n_store_old, n_leave, n_leave0, n_fin_v, n_fin_sl, n_fin_u, n_back, n_next, n_blk, n_blk0, n_set, n_set0, n_set_old, bs_size, bs_inj, mk_bs, noPan, onRet, hN, hT, hL, List.toList_toArray, aNilCheck, AM.aExtract, canon, canonA, canonC, List.map_cons, List.map_nil, List.modify_zero_cons, List.modify_succ_cons, AM.part, List.drop_zero, List.drop_succ_cons, List.drop_nil, n_fin_tup, n_fin_agg, flatA, flatA.flatD, AM.flatC, List.all_cons, List.all_nil, rdc, hb, eb, run, ix0_9, e30, hneg, rBuild, fillP, laid, okCells, tokC, adv]

/-! ### the next token -/
/-- What stands at the beginning: its kind, how long it is, its number; whether it is a token. -/
def tokR : List UInt8 → Nat × Nat × Nat × Bool
  | [] => (0, 0, 0, false)
  | c :: l =>
    if alnB c then ((wordR ((c :: l).take (spanN alnB (c :: l)))).1, spanN alnB (c :: l), (wordR ((c :: l).take (spanN alnB (c :: l)))).2.1, (wordR ((c :: l).take (spanN alnB (c :: l)))).2.2)
    else if c = 35 then (4, spanN alnB l + 1, (pn16 (l.take (spanN alnB l))).1, realOk (l.take (spanN alnB l)))
    else (5, signN (c :: l), 0, !decide (signN (c :: l) = 0))
theorem tokR_aln {c : UInt8} {l : List UInt8} (h : alnB c = true) : tokR (c :: l) = ((wordR ((c :: l).take (spanN alnB (c :: l)))).1, spanN alnB (c :: l), (wordR ((c :: l).take (spanN alnB (c :: l)))).2.1, (wordR ((c :: l).take (spanN alnB (c :: l)))).2.2) := by rw [tokR, if_pos h]
theorem tokR_real (l : List UInt8) : tokR (35 :: l) = (4, spanN alnB l + 1, (pn16 (l.take (spanN alnB l))).1, realOk (l.take (spanN alnB l))) := by rw [tokR, if_neg (by decide), if_pos rfl]
theorem tokR_sign {c : UInt8} {l : List UInt8} (h : alnB c = false) (hc : c ≠ 35) : tokR (c :: l) = (5, signN (c :: l), 0, !decide (signN (c :: l) = 0)) := by rw [tokR, if_neg (by rw [h]; simp), if_neg hc]
theorem F18_ev {s : St} {b : Nat} {c : UInt8} {l : List UInt8} {p : Nat × Nat} (hb : b < s.stk.length) (hp : 1 ≤ p.2) (h1 : p.1 + (c :: l).length < 2147483648) (h2 : p.2 + (c :: l).length < 2147483648) :
    E L (.func 18) [.ptr false b 0] (s.setBlk false b (rdc (c :: l) p)) = some (.tup [.agg (tokC (tokR (c :: l)).1 ((c :: l).take (tokR (c :: l)).2.1) (tokR (c :: l)).2.2.1 p), .v (.bool (tokR (c :: l)).2.2.2)],
      s.setBlk false b (rdc ((c :: l).drop (tokR (c :: l)).2.1) (adv ((c :: l).take (tokR (c :: l)).2.1) p))) := by
  rw [S18_eq]
  obtain ⟨N, hN⟩ : ∃ q, s.stk.length = q := ⟨_, rfl⟩
  obtain ⟨T, hT⟩ : ∃ q, s.tk.length = q := ⟨_, rfl⟩
  obtain ⟨Lb, hL⟩ : ∃ q, s.lp.length = q := ⟨_, rfl⟩
  rw [hN] at hb
  conv => lhs; rw [← app_nil (s.setBlk false b (rdc (c :: l) p))]
  have at_ : ∀ (f : Nat) (x : PV) (R : List PV), (∀ X : St, b < X.stk.length → E L (.func f) [.ptr false b 0] (X.setBlk false b (rdc (c :: l) p)) = some (x, X.setBlk false b R)) → ∀ bl, E L (.func f) [.ptr false b 0] ((s.setBlk false b (rdc (c :: l) p)).app bl [] []) = some (x, (s.setBlk false b R).app bl [] []) := by
    intro f x R h bl
    rw [← n_set_old bl [] [] (hN ▸ hb), ← n_set_old bl [] [] (hN ▸ hb)]
    exact h _ (by rw [app_stk, hN]; omega)
  have wc : IntKind.i32.wrap (c.toNat : Int) = (c.toNat : Int) := IntWalk.i32_in _ (by have := c.toNat_lt; omega)
  have hal : alnB c = (letR (c.toNat : Int) || digR (c.toNat : Int)) := rfl
  cases ha : alnB c with
  | true =>
    rw [tokR_aln ha]
    dsimp only
    have e31 := at_ 31 _ _ fun X hX => F31_ev hX hp h1 h2
    generalize spanN alnB (c :: l) = n at *
    generalize (c :: l).drop n = r at *
    generalize (c :: l).take n = t at *
    generalize wordR t = q at *
    obtain ⟨q1, q2, q3⟩ := q
    simp only [rdc, tokC] at e31
    rw [hal] at ha
    cases hl : letR (c.toNat : Int) with
    | true => simp [S18, canon_v, canon_sl, canon_clo, canon_ptr, need_refl, elems_sl, sf_v, sf_sl, sf_ptr, sf_ptrh, sf_clo, sf_dead, sf_nil, sf_full, sf_fr, need_true, ibeq, beq_ba, nbeq, nble, nblt, AM.nth, List.getD_cons_succ, List.getD_cons_zero, Option.bind_some, Option.bind_none, Option.map_some, onBool, AM.onG, onFn, seqK, retK, Ex.outOf, cond_true, cond_false, bin_lss, bin_leq, bin_gtr, bin_geq, bin_eql, bin_neq, bin_add, bin_sub, bin_mul, un_not, str_eql, str_neq, app_push, load_fp, AM.ownPut, AM.cellsOf, AM.shift, aPick, beq_true, okSz, List.length_cons, List.length_nil, Nat.zero_add, Nat.add_zero, Nat.reduceAdd, decide_true, decide_false, Bool.and_true, Bool.true_and, Bool.and_self, Bool.not_true, Bool.not_false, List.getElem?_cons_zero, List.getElem?_cons_succ, List.nil_append, List.cons_append, max_int, min_int, modify_concat, part1, List.take_succ_cons, List.take_left, List.take_zero, List.take_nil, app_stk, app_tk, app_lp, set_stk, set_tk, set_lp, set_set, n_load, n_load0, n_old, n_store, n_store0, n_store_old, n_leave, n_leave0, n_fin_v, n_fin_sl, n_fin_u, n_back, n_next, n_blk, n_blk0, n_set, n_set0, n_set_old, bs_size, bs_inj, mk_bs, noPan, onRet, hN, hT, hL, List.toList_toArray, aNilCheck, AM.aExtract, canon, canonA, canonC, List.map_cons, List.map_nil, List.modify_zero_cons, List.modify_succ_cons, AM.part, List.drop_zero, List.drop_succ_cons, List.drop_nil, n_fin_tup, n_fin_agg, flatA, flatA.flatD, AM.flatC, List.all_cons, List.all_nil, rdc, hb, ix0_9, conv_5_21, wc, F20_ev, F21_ev, hl, e31, laid, okCells, tokC]
    | false =>
      rw [hl, Bool.false_or] at ha
      simp [S18, canon_v, canon_sl, canon_clo, canon_ptr, need_refl, elems_sl, sf_v, sf_sl, sf_ptr, sf_ptrh, sf_clo, sf_dead, sf_nil, sf_full, sf_fr, need_true, ibeq, beq_ba, nbeq, nble, nblt, AM.nth, List.getD_cons_succ, List.getD_cons_zero, Option.bind_some, Option.bind_none, Option.map_some, onBool, AM.onG, onFn, seqK, retK, Ex.outOf, cond_true, cond_false, bin_lss, bin_leq, bin_gtr, bin_geq, bin_eql, bin_neq, bin_add, bin_sub, bin_mul, un_not, str_eql, str_neq, app_push, load_fp, AM.ownPut, AM.cellsOf, AM.shift, aPick, beq_true, okSz, List.length_cons, List.length_nil, Nat.zero_add, Nat.add_zero, Nat.reduceAdd, decide_true, decide_false, Bool.and_true, Bool.true_and, Bool.and_self, Bool.not_true, Bool.not_false, List.getElem?_cons_zero, List.getElem?_cons_succ, List.nil_append, List.cons_append, max_int, min_int, modify_concat, part1, List.take_succ_cons, List.take_left, List.take_zero, List.take_nil, app_stk, app_tk, app_lp, set_stk, set_tk, set_lp, set_set, n_load, n_load0, n_old, n_store, n_store0, n_store_old, n_leave, n_leave0, n_fin_v, n_fin_sl, n_fin_u, n_back, n_next, n_blk, n_blk0, n_set, n_set0, n_set_old, bs_size, bs_inj, mk_bs, noPan, onRet, hN, hT, hL, List.toList_toArray, aNilCheck, AM.aExtract, canon, canonA, canonC, List.map_cons, List.map_nil, List.modify_zero_cons, List.modify_succ_cons, AM.part, List.drop_zero, List.drop_succ_cons, List.drop_nil, n_fin_tup, n_fin_agg, flatA, flatA.flatD, AM.flatC, List.all_cons, List.all_nil, rdc, hb, ix0_9, conv_5_21, wc, F20_ev, F21_ev, hl, ha, e31, laid, okCells, tokC]
  | false =>
    have ha0 := ha
    rw [hal] at ha
    simp only [Bool.or_eq_false_iff] at ha
    by_cases hc : c = 35
    · subst hc
      have e32 := at_ 32 _ _ fun X hX => F32_ev hX hp h1 h2
      rw [tokR_real]
      simp only [List.take_succ_cons, List.drop_succ_cons]
      generalize spanN alnB l = n at *
      generalize l.drop n = r at *
      generalize l.take n = t at *
      generalize pn16 t = q at *
      generalize realOk t = ok at *
      obtain ⟨v, k⟩ := q
      simp only [rdc, tokC, Int.cast_ofNat_Int] at e32
      have h35 : ((35 : UInt8).toNat : Int) = 35 := rfl
      rw [h35] at ha wc
      simp [S18, canon_v, canon_sl, canon_clo, canon_ptr, need_refl, elems_sl, sf_v, sf_sl, sf_ptr, sf_ptrh, sf_clo, sf_dead, sf_nil, sf_full, sf_fr, need_true, ibeq, beq_ba, nbeq, nble, nblt, AM.nth, List.getD_cons_succ, List.getD_cons_zero, Option.bind_some, Option.bind_none, Option.map_some, onBool, AM.onG, onFn, seqK, retK, Ex.outOf, cond_true, cond_false, bin_lss, bin_leq, bin_gtr, bin_geq, bin_eql, bin_neq, bin_add, bin_sub, bin_mul, un_not, str_eql, str_neq, app_push, load_fp, AM.ownPut, AM.cellsOf, AM.shift, aPick, beq_true, okSz, List.length_cons, List.length_nil, Nat.zero_add, Nat.add_zero, Nat.reduceAdd, decide_true, decide_false, Bool.and_true, Bool.true_and, Bool.and_self, Bool.not_true, Bool.not_false, List.getElem?_cons_zero, List.getElem?_cons_succ, List.nil_append, List.cons_append, max_int, min_int, modify_concat, part1, List.take_succ_cons, List.take_left, List.take_zero, List.take_nil, app_stk, app_tk, app_lp, set_stk, set_tk, set_lp, set_set, n_load, n_load0, n_old, n_store, n_store0, n_store_old, n_leave, n_leave0, n_fin_v, n_fin_sl, n_fin_u, n_back, n_next, n_blk, n_blk0, n_set, n_set0, n_set_old, bs_size, bs_inj, mk_bs, noPan, onRet, hN, hT, hL, List.toList_toArray, aNilCheck, AM.aExtract, canon, canonA, canonC, List.map_cons, List.map_nil, List.modify_zero_cons, List.modify_succ_cons, AM.part, List.drop_zero, List.drop_succ_cons, List.drop_nil, n_fin_tup, n_fin_agg, flatA, flatA.flatD, AM.flatC, List.all_cons, List.all_nil, rdc, hb, ix0_9, conv_5_21, wc, F20_ev, F21_ev, ha.1, ha.2, e32, laid, okCells, tokC]
    · have e33 := at_ 33 _ _ fun X hX => F33_ev hX hp h1 h2
      have h35 : ¬ ((c.toNat : Int) = 35) := fun h => hc (UInt8.toNat_inj.1 (by simpa using Int.ofNat_inj.1 h))
      rw [tokR_sign ha0 hc]
      dsimp only
      generalize signN (c :: l) = n at *
      generalize (c :: l).drop n = r at *
      generalize (c :: l).take n = t at *
      simp only [rdc, tokC, Int.cast_ofNat_Int, Int.natCast_zero] at e33
      simp [S18, canon_v, canon_sl, canon_clo, canon_ptr, need_refl, elems_sl, sf_v, sf_sl, sf_ptr, sf_ptrh, sf_clo, sf_dead, sf_nil, sf_full, sf_fr, need_true, ibeq, beq_ba, nbeq, nble, nblt, AM.nth, List.getD_cons_succ, List.getD_cons_zero, Option.bind_some, Option.bind_none, Option.map_some, onBool, AM.onG, onFn, seqK, retK, Ex.outOf, cond_true, cond_false, bin_lss, bin_leq, bin_gtr, bin_geq, bin_eql, bin_neq, bin_add, bin_sub, bin_mul, un_not, str_eql, str_neq, app_push, load_fp, AM.ownPut, AM.cellsOf, AM.shift, aPick, beq_true, okSz, List.length_cons, List.length_nil, Nat.zero_add, Nat.add_zero, Nat.reduceAdd, decide_true, decide_false, Bool.and_true, Bool.true_and, Bool.and_self, Bool.not_true, Bool.not_false, List.getElem?_cons_zero, List.getElem?_cons_succ, List.nil_append, List.cons_append, max_int, min_int, modify_concat, part1, List.take_succ_cons, List.take_left, List.take_zero, List.take_nil, app_stk, app_tk, app_lp, set_stk, set_tk, set_lp, set_set, n_load, n_load0, n_old, n_store, n_store0, n_store_old, n_leave, n_leave0, n_fin_v, n_fin_sl, n_fin_u, n_back, n_next, n_blk, n_blk0, n_set, n_set0, n_set_old, bs_size, bs_inj, mk_bs, noPan, onRet, hN, hT, hL, List.toList_toArray, aNilCheck, AM.aExtract, canon, canonA, canonC, List.map_cons, List.map_nil, List.modify_zero_cons, List.modify_succ_cons, AM.part, List.drop_zero, List.drop_succ_cons, List.drop_nil, n_fin_tup, n_fin_agg, flatA, flatA.flatD, AM.flatC, List.all_cons, List.all_nil, rdc, hb, ix0_9, conv_5_21, wc, F20_ev, F21_ev, ha.1, ha.2, h35, e33, laid, okCells, tokC]
end Go.Proofs.YtbbaalimilcppaaDoor.S

/- The lexer: all tokens of a text. No condition. -/
namespace Go.Proofs.YtbbaalimilcppaaDoor.S
open Go Go.AM Go.Proofs
set_option linter.unusedVariables false
set_option linter.unusedSimpArgs false
structure Tok where
  kind : Nat
  text : List UInt8
  n : Nat
  p : Nat × Nat
abbrev Tok.c (t : Tok) : List PV := tokC t.kind t.text t.n t.p
/-- What a text comes to: its tokens, or where it is none. -/
inductive LR where
  | ok (ts : List Tok)
  | err (p : Nat × Nat)
def LR.cons (t : Tok) : LR → LR
  | .ok ts => .ok (t :: ts)
  | .err p => .err p
theorem span_pos {q : UInt8 → Bool} {c : UInt8} {l : List UInt8} (h : q c = true) : 0 < spanN q (c :: l) := by rw [spanN_cons, if_pos h]; omega
theorem signN_le (c : UInt8) (l : List UInt8) : signN (c :: l) ≤ (c :: l).length := by
  rw [signN]
  split
  · rename_i h
    have len : ∀ x y : UInt8, ([x, y] : List UInt8).isPrefixOf (c :: l) = true → 2 ≤ (c :: l).length := fun x y h => (List.isPrefixOf_iff_prefix.1 h).length_le
    simp only [Bool.or_eq_true] at h
    rcases h with (h | h) | h
    · exact len _ _ h
    · exact len _ _ h
    · exact len _ _ h
  · simp only [List.length_cons]
    split <;> omega
theorem tokR_pos {c : UInt8} {l : List UInt8} (h : (tokR (c :: l)).2.2.2 = true) : 0 < (tokR (c :: l)).2.1 := by
  cases ha : alnB c with
  | true => rw [tokR_aln ha]; exact span_pos ha
  | false =>
    by_cases hc : c = 35
    · subst hc; rw [tokR_real]; exact Nat.succ_pos _
    · rw [tokR_sign ha hc] at h ⊢
      simpa [Nat.pos_iff_ne_zero] using h
theorem tokR_le (c : UInt8) (l : List UInt8) : (tokR (c :: l)).2.1 ≤ (c :: l).length := by
  cases ha : alnB c with
  | true => rw [tokR_aln ha]; exact spanN_le _ _
  | false =>
    by_cases hc : c = 35
    · subst hc; rw [tokR_real]
      have := spanN_le alnB l
      simp only [List.length_cons]; omega
    · rw [tokR_sign ha hc]; exact signN_le c l
/-- The token that stands at the beginning. -/
def tokAt (rest : List UInt8) (p : Nat × Nat) : Tok := ⟨(tokR rest).1, rest.take (tokR rest).2.1, (tokR rest).2.2.1, p⟩
def lexL : List UInt8 → Nat × Nat → LR
  | [], p => .ok [⟨0, [], 0, p⟩]
  | c :: l, p =>
    if hb : blk1 (c :: l) = 0 then
      if ht : (tokR (c :: l)).2.2.2 = true then (lexL ((c :: l).drop (tokR (c :: l)).2.1) (adv ((c :: l).take (tokR (c :: l)).2.1) p)).cons (tokAt (c :: l) p)
      else .err p
    else lexL ((c :: l).drop (blk1 (c :: l))) (adv ((c :: l).take (blk1 (c :: l))) p)
termination_by rest => rest.length
decreasing_by
  · have := tokR_pos ht
    simp only [List.length_drop, List.length_cons]; omega
  · simp only [List.length_drop, List.length_cons]; omega
theorem lexL_nil (p : Nat × Nat) : lexL [] p = .ok [⟨0, [], 0, p⟩] := by rw [lexL]
theorem lexL_blank {rest : List UInt8} (h : blk1 rest ≠ 0) (p : Nat × Nat) : lexL rest p = lexL (rest.drop (blk1 rest)) (adv (rest.take (blk1 rest)) p) := by
  cases rest with
  | nil => exact absurd rfl h
  | cons c l => rw [lexL, dif_neg h]
theorem lexL_tok {c : UInt8} {l : List UInt8} (h : blk1 (c :: l) = 0) (ht : (tokR (c :: l)).2.2.2 = true) (p : Nat × Nat) : lexL (c :: l) p = (lexL ((c :: l).drop (tokR (c :: l)).2.1) (adv ((c :: l).take (tokR (c :: l)).2.1) p)).cons (tokAt (c :: l) p) := by
  rw [lexL, dif_pos h, dif_pos ht]
theorem lexL_err {c : UInt8} {l : List UInt8} (h : blk1 (c :: l) = 0) (ht : (tokR (c :: l)).2.2.2 = false) (p : Nat × Nat) : lexL (c :: l) p = .err p := by
  rw [lexL, dif_pos h, dif_neg (by rw [ht]; simp)]
theorem lexL_blanks (rest : List UInt8) (p : Nat × Nat) : lexL rest p = lexL (blanks rest p).1 (blanks rest p).2 := by
  induction rest, p using blanks.induct with
  | case1 rest p h => rw [blanks, dif_pos h]
  | case2 rest p h ih =>
    have e : blanks rest p = blanks (rest.drop (blk1 rest)) (adv (rest.take (blk1 rest)) p) := by
      conv => lhs; rw [blanks, dif_neg h]
    rw [lexL_blank h, ih, e]

theorem own_at {st : St} {N : Nat} (hN : st.stk.length = N) {f : Nat} {cells R : List PV} {x : PV} (h : ∀ X : St, N + 1 < X.stk.length → E L (.func f) [.ptr false (N + 1) 0] (X.setBlk false (N + 1) cells) = some (x, X.setBlk false (N + 1) R)) (b0 : Blk) (t : List (Nat × Nat)) (bl : List Blk) (tk : List (Nat × Nat)) (lp : List Aux) :
    E L (.func f) [.ptr false (N + 1) 0] (st.app (b0 :: ⟨cells, t⟩ :: bl) tk lp) = some (x, st.app (b0 :: ⟨R, t⟩ :: bl) tk lp) := by
  have hb : (st.app (b0 :: ⟨cells, t⟩ :: bl) tk lp).blk false (N + 1) = some cells := by rw [n_blk _ _ _ hN]; rfl
  have := h _ (blk_len hb)
  rw [set_self hb, n_set _ _ _ hN] at this
  exact this

def toksE (ts : List Tok) : List (List PV) := ts.map Tok.c
theorem toksE_len (ts : List Tok) : (toksE ts).length = ts.length := List.length_map ..
theorem toksE_ok (ts : List Tok) : okSz 5 (toksE ts) = true := okSz_map Tok.c (fun _ => rfl) ts
theorem toksE_app (a b : List Tok) : toksE (a ++ b) = toksE a ++ toksE b := List.map_append ..
/-- What the loop over a text comes to. -/
def LexLo (st : St) (N T Lb : Nat) (rest : List UInt8) (p : Nat × Nat) (acc : List Tok) (c : Cap) (tk : List (Nat × Nat)) : Prop :=
  ∃ r y2 F R tk', itE (S10.b0 (E L) itE N Lb) [.sl [] .nil, .ptr false N 0, .sl (toksE acc) c, .ptr false (N + 1) 0] (st.app [⟨[.v (.int .i64 0), .v (.int .i64 0), .v (.int .i64 0)], []⟩, ⟨rdc rest p, []⟩] tk []) =
      some (.ret, [r, .ptr false N 0, y2, .ptr false (N + 1) 0], st.app [⟨F, []⟩, ⟨R, []⟩] tk' []) ∧
    (match lexL rest p with
      | .ok ts => (∃ c', r = .sl (toksE (acc ++ ts)) c') ∧ F = [.v (.int .i64 0), .v (.int .i64 0), .v (.int .i64 0)]
      | .err q => r = .sl [] .nil ∧ F = [.v (.int .i64 3), .v (.int .i64 (q.1 : Int)), .v (.int .i64 (q.2 : Int))])
theorem lex_loop {st : St} {N T Lb : Nat} (hN : st.stk.length = N) (hT : st.tk.length = T) (hL : st.lp.length = Lb) : ∀ (k : Nat) (rest : List UInt8) (p : Nat × Nat) (acc : List Tok) (c : Cap) (tk : List (Nat × Nat)), rest.length = k → 1 ≤ p.2 → p.1 + rest.length < 2147483648 → p.2 + rest.length < 2147483648 → acc.length + rest.length < 1000000 → Own st tk c acc.length 5 →
    LexLo st N T Lb rest p acc c tk := by
  intro k
  induction k using Nat.strongRecOn with
  | ind k ih =>
    intro rest p acc c tk hk hp h1 h2 hac ho
    have bb := blanks_bnd rest p (M := 2147483648) hp h1 h2
    have e17 := own_at (x := .tup []) hN (fun X hX => F17_ev (rest := rest) (p := p) hX hp (by omega) (by omega)) ⟨[.v (.int .i64 0), .v (.int .i64 0), .v (.int .i64 0)], []⟩ [] [] tk []
    unfold LexLo
    rw [lexL_blanks]
    generalize blanks rest p = q at *
    obtain ⟨rest', p'⟩ := q
    obtain ⟨bp, b1, b2, bk, bl⟩ := bb
    dsimp only at bp b1 b2 bk bl e17 ⊢
    cases rest' with
    | nil =>
      rw [lexL_nil]
      have hsf : ∀ m, c.sf true m = true := fun m => ho.sfc m
      obtain ⟨c', tk', ea, ho'⟩ := app_own (ys := toksE [⟨0, [], 0, p'⟩]) (bytes := 48) (es := toksE acc) (by rw [toksE_len]; exact ho) (by simp only [toksE_len, maxLenB, List.length_cons, List.length_nil]; omega) (toksE_ok _) (toksE_ok _) (by decide) (by decide)
      have ey : toksE [⟨0, [], 0, p'⟩] = [[.v (.int .i64 0), str [], .v (.int .u64 0), .v (.int .i64 (p'.1 : Int)), .v (.int .i64 (p'.2 : Int))]] := rfl
      rw [ey] at ea
      refine ⟨.sl (toksE (acc ++ [⟨0, [], 0, p'⟩])) c', .sl (toksE acc) c, _, rdc [] p', tk', ?_, ⟨⟨_, rfl⟩, rfl⟩⟩
      apply it_ret
      simp only [rdc] at e17
      have hsf2 := ho'.sfc (s := st)
      simp [S10.b0, canon_v, canon_sl, canon_clo, canon_ptr, need_refl, elems_sl, sf_v, sf_sl, sf_ptr, sf_ptrh, sf_clo, sf_dead, sf_nil, sf_full, sf_fr, need_true, ibeq, beq_ba, nbeq, nble, nblt, AM.nth, List.getD_cons_succ, List.getD_cons_zero, Option.bind_some, Option.bind_none, Option.map_some, onBool, AM.onG, onFn, seqK, retK, Ex.outOf, cond_true, cond_false, bin_lss, bin_leq, bin_gtr, bin_geq, bin_eql, bin_neq, bin_add, bin_sub, bin_mul, un_not, str_eql, str_neq, app_push, load_fp, AM.ownPut, AM.cellsOf, AM.shift, aPick, beq_true, okSz, List.length_cons, List.length_nil, Nat.zero_add, Nat.add_zero, Nat.reduceAdd, decide_true, decide_false, Bool.and_true, Bool.true_and, Bool.and_self, Bool.not_true, Bool.not_false, List.getElem?_cons_zero, List.getElem?_cons_succ, List.nil_append, List.cons_append, max_int, min_int, modify_concat, part1, List.take_succ_cons, List.take_left, List.take_zero, List.take_nil, app_stk, app_tk, app_lp, set_stk, set_tk, set_lp, set_set, n_load, n_load0, n_old, n_store, n_store0, n_store_old, n_leave, n_leave0, n_fin_v, n_fin_sl, n_fin_u, n_back, n_next, n_blk, n_blk0, n_set, n_set0, n_set_old, bs_size, bs_inj, mk_bs, noPan, onRet, hN, hT, hL, List.toList_toArray, aNilCheck, AM.aExtract, canon, canonA, canonC, List.map_cons, List.map_nil, List.modify_zero_cons, List.modify_succ_cons, AM.part, List.drop_zero, List.drop_succ_cons, List.drop_nil, n_fin_tup, n_fin_agg, flatA, flatA.flatD, AM.flatC, List.all_cons, List.all_nil, rdc, e17, rBuild, fillP, laid, okCells, rBuildSlice, rLit, reps, AM.plainCs, AM.plainC, chunks, ea, toksE_app, ey, hsf, hsf2, sf_v, isIter]
    | cons a l =>
      have hsf : ∀ m, c.sf true m = true := fun m => ho.sfc m
      have e18 := own_at hN (fun X hX => F18_ev (c := a) (l := l) (p := p') hX bp (by omega) (by omega)) ⟨[.v (.int .i64 0), .v (.int .i64 0), .v (.int .i64 0)], []⟩ [] [] tk []
      have hta : tokAt (a :: l) p' = ⟨(tokR (a :: l)).1, (a :: l).take (tokR (a :: l)).2.1, (tokR (a :: l)).2.2.1, p'⟩ := rfl
      have ad := adv_take_bnd (tokR_le a l) bp b1 b2
      have hpos := tokR_pos (c := a) (l := l)
      have hdl : ((a :: l).drop (tokR (a :: l)).2.1).length = (a :: l).length - (tokR (a :: l)).2.1 := List.length_drop ..
      have hle := tokR_le a l
      cases hok : (tokR (a :: l)).2.2.2 with
      | false =>
        rw [lexL_err bk hok]
        rw [hok] at e18
        generalize tokR (a :: l) = q at *
        generalize (a :: l).drop q.2.1 = r at *
        generalize (a :: l).take q.2.1 = t at *
        simp only [rdc, tokC] at e17 e18
        refine ⟨.sl [] .nil, .sl (toksE acc) c, [.v (.int .i64 3), .v (.int .i64 (p'.1 : Int)), .v (.int .i64 (p'.2 : Int))], rdc r (adv t p'), tk, ?_, ⟨rfl, rfl⟩⟩
        apply it_ret
        simp [S10.b0, canon_v, canon_sl, canon_clo, canon_ptr, need_refl, elems_sl, sf_v, sf_sl, sf_ptr, sf_ptrh, sf_clo, sf_dead, sf_nil, sf_full, sf_fr, need_true, ibeq, beq_ba, nbeq, nble, nblt, AM.nth, List.getD_cons_succ, List.getD_cons_zero, Option.bind_some, Option.bind_none, Option.map_some, onBool, AM.onG, onFn, seqK, retK, Ex.outOf, cond_true, cond_false, bin_lss, bin_leq, bin_gtr, bin_geq, bin_eql, bin_neq, bin_add, bin_sub, bin_mul, un_not, str_eql, str_neq, app_push, load_fp, AM.ownPut, AM.cellsOf, AM.shift, aPick, beq_true, okSz, List.length_cons, List.length_nil, Nat.zero_add, Nat.add_zero, Nat.reduceAdd, decide_true, decide_false, Bool.and_true, Bool.true_and, Bool.and_self, Bool.not_true, Bool.not_false, List.getElem?_cons_zero, List.getElem?_cons_succ, List.nil_append, List.cons_append, max_int, min_int, modify_concat, part1, List.take_succ_cons, List.take_left, List.take_zero, List.take_nil, app_stk, app_tk, app_lp, set_stk, set_tk, set_lp, set_set, n_load, n_load0, n_old, n_store, n_store0, n_store_old, n_leave, n_leave0, n_fin_v, n_fin_sl, n_fin_u, n_back, n_next, n_blk, n_blk0, n_set, n_set0, n_set_old, bs_size, bs_inj, mk_bs, noPan, onRet, hN, hT, hL, List.toList_toArray, aNilCheck, AM.aExtract, canon, canonA, canonC, List.map_cons, List.map_nil, List.modify_zero_cons, List.modify_succ_cons, AM.part, List.drop_zero, List.drop_succ_cons, List.drop_nil, n_fin_tup, n_fin_agg, flatA, flatA.flatD, AM.flatC, List.all_cons, List.all_nil, rdc, e17, e18, rBuild, fillP, laid, okCells, hsf, sf_v, isIter]
      | true =>
        rw [lexL_tok bk hok]
        rw [hok] at e18
        have hpos := hpos hok
        generalize tokR (a :: l) = q at *
        generalize (a :: l).drop q.2.1 = r at *
        generalize (a :: l).take q.2.1 = t at *
        obtain ⟨c', tk', ea, ho'⟩ := app_own (ys := toksE [tokAt (a :: l) p']) (bytes := 48) (es := toksE acc) (by rw [toksE_len]; exact ho) (by simp only [toksE_len, maxLenB, List.length_cons, List.length_nil]; omega) (toksE_ok _) (toksE_ok _) (by decide) (by decide)
        have ey : toksE [tokAt (a :: l) p'] = [[.v (.int .i64 (q.1 : Int)), str t, .v (.int .u64 (q.2.2.1 : Int)), .v (.int .i64 (p'.1 : Int)), .v (.int .i64 (p'.2 : Int))]] := by rw [hta]; rfl
        have hsf2 := ho'.sfc (s := st)
        have ihh := ih r.length (by omega) r (adv t p') (acc ++ [tokAt (a :: l) p']) c' tk' rfl ad.1 ad.2.1 ad.2.2 (by simp only [List.length_append, List.length_singleton]; omega) (by rw [← toksE_app, toksE_len] at ho'; exact ho')
        unfold LexLo at ihh
        rw [toksE_app] at ihh
        rw [ey] at ihh ea
        obtain ⟨r0, y2, F, R, tk2, hit, hres⟩ := ihh
        refine ⟨r0, y2, F, R, tk2, ?_, ?_⟩
        · simp only [rdc, tokC] at e17 e18
          rw [it_step (vs' := [.sl [] .nil, .ptr false N 0, .sl (toksE acc ++ [[.v (.int .i64 (q.1 : Int)), str t, .v (.int .u64 (q.2.2.1 : Int)), .v (.int .i64 (p'.1 : Int)), .v (.int .i64 (p'.2 : Int))]]) c', .ptr false (N + 1) 0]) (st' := st.app [⟨[.v (.int .i64 0), .v (.int .i64 0), .v (.int .i64 0)], []⟩, ⟨rdc r (adv t p'), []⟩] tk' [])]
          · exact hit
          · simp [S10.b0, canon_v, canon_sl, canon_clo, canon_ptr, need_refl, elems_sl, sf_v, sf_sl, sf_ptr, sf_ptrh, sf_clo, sf_dead, sf_nil, sf_full, sf_fr, need_true, ibeq, beq_ba, nbeq, nble, nblt, AM.nth, List.getD_cons_succ, List.getD_cons_zero, Option.bind_some, Option.bind_none, Option.map_some, onBool, AM.onG, onFn, seqK, retK, Ex.outOf, cond_true, cond_false, bin_lss, bin_leq, bin_gtr, bin_geq, bin_eql, bin_neq, bin_add, bin_sub, bin_mul, un_not, str_eql, str_neq, app_push, load_fp, AM.ownPut, AM.cellsOf, AM.shift, aPick, beq_true, okSz, List.length_cons, List.length_nil, Nat.zero_add, Nat.add_zero, Nat.reduceAdd, decide_true, decide_false, Bool.and_true, Bool.true_and, Bool.and_self, Bool.not_true, Bool.not_false, List.getElem?_cons_zero, List.getElem?_cons_succ, List.nil_append, List.cons_append, max_int, min_int, modify_concat, part1, List.take_succ_cons, List.take_left, List.take_zero, List.take_nil, app_stk, app_tk, app_lp, set_stk, set_tk, set_lp, set_set, n_load, n_load0, n_old, n_store, n_store0, n_store_old, n_leave, n_leave0, n_fin_v, n_fin_sl, n_fin_u, n_back, n_next, n_blk, n_blk0, n_set, n_set0, n_set_old, bs_size, bs_inj, mk_bs, noPan, onRet, hN, hT, hL, List.toList_toArray, aNilCheck, AM.aExtract, canon, canonA, canonC, List.map_cons, List.map_nil, List.modify_zero_cons, List.modify_succ_cons, AM.part, List.drop_zero, List.drop_succ_cons, List.drop_nil, n_fin_tup, n_fin_agg, flatA, flatA.flatD, AM.flatC, List.all_cons, List.all_nil, rdc, e17, e18, rBuild, fillP, laid, okCells, rBuildSlice, rLit, reps, AM.plainCs, AM.plainC, chunks, ea, hsf, hsf2, sf_v, isIter]
        · cases hl : lexL r (adv t p') with
          | ok ts =>
            rw [hl] at hres
            simp only [LR.cons]
            refine ⟨?_, hres.2⟩
            obtain ⟨c2, h2⟩ := hres.1
            exact ⟨c2, by rw [h2]; simp⟩
          | err q =>
            rw [hl] at hres
            simp only [LR.cons]
            exact hres

/-- What Lex answers, as two parts. -/
def lexT (l : List UInt8) : List Tok := if 8192 < l.length then [] else match lexL l (1, 1) with | .ok ts => ts | .err _ => []
def lexF (l : List UInt8) : Nat × Nat × Nat := if 8192 < l.length then (10, 1, 1) else match lexL l (1, 1) with | .ok _ => (0, 0, 0) | .err q => (3, q.1, q.2)
abbrev fltC (f : Nat × Nat × Nat) : List PV := [.v (.int .i64 (f.1 : Int)), .v (.int .i64 (f.2.1 : Int)), .v (.int .i64 (f.2.2 : Int))]
theorem F10_ev {l : List UInt8} (h : l.length < 1000000) (st : St) : E L (.func 10) [str l] st = some (.tup [.sl (toksE (lexT l)) .dead, .agg (fltC (lexF l))], st) := by
  rw [S10_eq]
  obtain ⟨N, hN⟩ : ∃ q, st.stk.length = q := ⟨_, rfl⟩
  obtain ⟨T, hT⟩ : ∃ q, st.tk.length = q := ⟨_, rfl⟩
  obtain ⟨Lb, hL⟩ : ∃ q, st.lp.length = q := ⟨_, rfl⟩
  conv => lhs; rw [← app_nil (st)]
  by_cases hl : 8192 < l.length
  · have hl' : (8192 : Int) < (l.length : Int) := by omega
    simp [S10, canon_v, canon_sl, canon_clo, canon_ptr, need_refl, elems_sl, sf_v, sf_sl, sf_ptr, sf_ptrh, sf_clo, sf_dead, sf_nil, sf_full, sf_fr, need_true, ibeq, beq_ba, nbeq, nble, nblt, AM.nth, List.getD_cons_succ, List.getD_cons_zero, Option.bind_some, Option.bind_none, Option.map_some, onBool, AM.onG, onFn, seqK, retK, Ex.outOf, cond_true, cond_false, bin_lss, bin_leq, bin_gtr, bin_geq, bin_eql, bin_neq, bin_add, bin_sub, bin_mul, un_not, str_eql, str_neq, app_push, load_fp, AM.ownPut, AM.cellsOf, AM.shift, aPick, beq_true, okSz, List.length_cons, List.length_nil, Nat.zero_add, Nat.add_zero, Nat.reduceAdd, decide_true, decide_false, Bool.and_true, Bool.true_and, Bool.and_self, Bool.not_true, Bool.not_false, List.getElem?_cons_zero, List.getElem?_cons_succ, List.nil_append, List.cons_append, max_int, min_int, modify_concat, part1, List.take_succ_cons, List.take_left, List.take_zero, List.take_nil, app_stk, app_tk, app_lp, set_stk, set_tk, set_lp, set_set, n_load, n_load0, n_old, n_store, n_store0, n_store_old, n_leave, n_leave0, n_fin_v, n_fin_sl, n_fin_u, n_back, n_next, n_blk, n_blk0, n_set, n_set0, n_set_old, bs_size, bs_inj, mk_bs, noPan, onRet, hN, hT, hL, List.toList_toArray, aNilCheck, AM.aExtract, canon, canonA, canonC, List.map_cons, List.map_nil, List.modify_zero_cons, List.modify_succ_cons, AM.part, List.drop_zero, List.drop_succ_cons, List.drop_nil, n_fin_tup, n_fin_agg, flatA, flatA.flatD, AM.flatC, List.all_cons, List.all_nil, len_9, hl', lexT, lexF, hl, rBuild, fillP, laid, okCells, toksE]
  · have hl' : ¬ ((8192 : Int) < (l.length : Int)) := by omega
    obtain ⟨r, y2, F, R, tk', hit, hres⟩ := lex_loop hN hT hL l.length l (1, 1) [] .nil [] rfl (by simp) (by simp; omega) (by simp; omega) (by simp; omega) (Own.nil _ _ _ _)
    simp only [toksE, List.map_nil, rdc, Int.cast_ofNat_Int] at hit
    unfold lexT lexF
    rw [if_neg hl, if_neg hl]
    cases hx : lexL l (1, 1) with
    | ok ts =>
      rw [hx] at hres
      obtain ⟨⟨c', rfl⟩, rfl⟩ := hres
      simp [S10, canon_v, canon_sl, canon_clo, canon_ptr, need_refl, elems_sl, sf_v, sf_sl, sf_ptr, sf_ptrh, sf_clo, sf_dead, sf_nil, sf_full, sf_fr, need_true, ibeq, beq_ba, nbeq, nble, nblt, AM.nth, List.getD_cons_succ, List.getD_cons_zero, Option.bind_some, Option.bind_none, Option.map_some, onBool, AM.onG, onFn, seqK, retK, Ex.outOf, cond_true, cond_false, bin_lss, bin_leq, bin_gtr, bin_geq, bin_eql, bin_neq, bin_add, bin_sub, bin_mul, un_not, str_eql, str_neq, app_push, load_fp, AM.ownPut, AM.cellsOf, AM.shift, aPick, beq_true, okSz, List.length_cons, List.length_nil, Nat.zero_add, Nat.add_zero, Nat.reduceAdd, decide_true, decide_false, Bool.and_true, Bool.true_and, Bool.and_self, Bool.not_true, Bool.not_false, List.getElem?_cons_zero, List.getElem?_cons_succ, List.nil_append, List.cons_append, max_int, min_int, modify_concat, part1, List.take_succ_cons, List.take_left, List.take_zero, List.take_nil, app_stk, app_tk, app_lp, set_stk, set_tk, set_lp, set_set, n_load, n_load0, n_old, n_store, n_store0, n_store_old, n_leave, n_leave0, n_fin_v, n_fin_sl, n_fin_u, n_back, n_next, n_blk, n_blk0, n_set, n_set0, n_set_old, bs_size, bs_inj, mk_bs, noPan, onRet, hN, hT, hL, List.toList_toArray, aNilCheck, AM.aExtract, canon, canonA, canonC, List.map_cons, List.map_nil, List.modify_zero_cons, List.modify_succ_cons, AM.part, List.drop_zero, List.drop_succ_cons, List.drop_nil, n_fin_tup, n_fin_agg, flatA, flatA.flatD, AM.flatC, List.all_cons, List.all_nil, len_9, hl', hit, rBuild, fillP, laid, okCells, fltC]
    | err q =>
      rw [hx] at hres
      obtain ⟨rfl, rfl⟩ := hres
      simp [S10, canon_v, canon_sl, canon_clo, canon_ptr, need_refl, elems_sl, sf_v, sf_sl, sf_ptr, sf_ptrh, sf_clo, sf_dead, sf_nil, sf_full, sf_fr, need_true, ibeq, beq_ba, nbeq, nble, nblt, AM.nth, List.getD_cons_succ, List.getD_cons_zero, Option.bind_some, Option.bind_none, Option.map_some, onBool, AM.onG, onFn, seqK, retK, Ex.outOf, cond_true, cond_false, bin_lss, bin_leq, bin_gtr, bin_geq, bin_eql, bin_neq, bin_add, bin_sub, bin_mul, un_not, str_eql, str_neq, app_push, load_fp, AM.ownPut, AM.cellsOf, AM.shift, aPick, beq_true, okSz, List.length_cons, List.length_nil, Nat.zero_add, Nat.add_zero, Nat.reduceAdd, decide_true, decide_false, Bool.and_true, Bool.true_and, Bool.and_self, Bool.not_true, Bool.not_false, List.getElem?_cons_zero, List.getElem?_cons_succ, List.nil_append, List.cons_append, max_int, min_int, modify_concat, part1, List.take_succ_cons, List.take_left, List.take_zero, List.take_nil, app_stk, app_tk, app_lp, set_stk, set_tk, set_lp, set_set, n_load, n_load0, n_old, n_store, n_store0, n_store_old, n_leave, n_leave0, n_fin_v, n_fin_sl, n_fin_u, n_back, n_next, n_blk, n_blk0, n_set, n_set0, n_set_old, bs_size, bs_inj, mk_bs, noPan, onRet, hN, hT, hL, List.toList_toArray, aNilCheck, AM.aExtract, canon, canonA, canonC, List.map_cons, List.map_nil, List.modify_zero_cons, List.modify_succ_cons, AM.part, List.drop_zero, List.drop_succ_cons, List.drop_nil, n_fin_tup, n_fin_agg, flatA, flatA.flatD, AM.flatC, List.all_cons, List.all_nil, len_9, hl', hit, rBuild, fillP, laid, okCells, fltC, toksE]
end Go.Proofs.YtbbaalimilcppaaDoor.S

/- The lexer: the reference's small functions. No condition. -/
namespace Go.Proofs.YtbbaalimilcppaaDoor.S
open Go Go.AM Go.Proofs
set_option linter.unusedVariables false
set_option linter.unusedSimpArgs false
theorem F23_b (c : UInt8) (st : St) : E L (.func 23) [.v (.int .u8 (c.toNat : Int))] st = some (.v (.bool (letB c)), st) := F23_ev _ st
theorem F24_b (c : UInt8) (st : St) : E L (.func 24) [.v (.int .u8 (c.toNat : Int))] st = some (.v (.bool (digB c)), st) := F24_ev _ st
theorem drop_cons {l : List UInt8} {i : Nat} (h : i < l.length) : l.drop i = l[i] :: l.drop (i + 1) := List.drop_eq_getElem_cons h
theorem row_loop {l : List UInt8} (hlen : l.length < 4611686018427387904) {X : St} {N T Lb : Nat} (hN : X.stk.length = N) (hT : X.tk.length = T) (hL : X.lp.length = Lb) : ∀ (k i : Nat), l.length - i = k → i ≤ l.length →
    itE (S34.b0 (E L) itE N Lb) [str l, .v (.int .i64 (i : Int))] (X.app [] [] []) = some (.exit 0, [str l, .v (.int .i64 ((i + spanN alnB (l.drop i) : Nat) : Int))], X.app [] [] []) := by
  intro k
  induction k with
  | zero =>
    intro i hk hi
    obtain rfl : i = l.length := by omega
    apply it_exit
    simp [S34.b0, canon_v, canon_sl, canon_clo, canon_ptr, need_refl, elems_sl, sf_v, sf_sl, sf_ptr, sf_ptrh, sf_clo, sf_dead, sf_nil, sf_full, sf_fr, need_true, ibeq, beq_ba, nbeq, nble, nblt, AM.nth, List.getD_cons_succ, List.getD_cons_zero, Option.bind_some, Option.bind_none, Option.map_some, onBool, AM.onG, onFn, seqK, retK, Ex.outOf, cond_true, cond_false, bin_lss, bin_leq, bin_gtr, bin_geq, bin_eql, bin_neq, bin_add, bin_sub, bin_mul, un_not, str_eql, str_neq, app_push, load_fp, AM.ownPut, AM.cellsOf, AM.shift, aPick, beq_true, okSz, List.length_cons, List.length_nil, Nat.zero_add, Nat.add_zero, Nat.reduceAdd, decide_true, decide_false, Bool.and_true, Bool.true_and, Bool.and_self, Bool.not_true, Bool.not_false, List.getElem?_cons_zero, List.getElem?_cons_succ, List.nil_append, List.cons_append, max_int, min_int, modify_concat, part1, List.take_succ_cons, List.take_left, List.take_zero, List.take_nil, app_stk, app_tk, app_lp, set_stk, set_tk, set_lp, set_set, n_load, n_load0, n_old, n_store, n_store0, n_store_old, n_leave, n_leave0, n_fin_v, n_fin_sl, n_fin_u, n_back, n_next, n_blk, n_blk0, n_set, n_set0, n_set_old, bs_size, bs_inj, mk_bs, noPan, onRet, hN, hT, hL, List.toList_toArray, aNilCheck, AM.aExtract, canon, canonA, canonC, List.map_cons, List.map_nil, List.modify_zero_cons, List.modify_succ_cons, AM.part, List.drop_zero, List.drop_succ_cons, List.drop_nil, n_fin_tup, n_fin_agg, flatA, flatA.flatD, AM.flatC, List.all_cons, List.all_nil, len_9, spanN]
  | succ k ih =>
    intro i hk hi
    have hlt : i < l.length := by omega
    have hlt' : (i : Int) < (l.length : Int) := by omega
    have hx := ix_9 (l := l) .i64 hlt
    have w1 : IntKind.i64.wrap ((i : Int) + 1) = (i : Int) + 1 := IntWalk.i64_in _ (by omega)
    rw [drop_cons hlt, spanN_cons]
    generalize l[i] = c at *
    have ih := ih (i + 1) (by omega) (by omega)
    cases ha : letB c with
    | true =>
      rw [if_pos (by simp [alnB, ha]), it_step (vs' := [str l, .v (.int .i64 ((i + 1 : Nat) : Int))]) (st' := X.app [] [] [])]
      · rw [ih, show i + 1 + spanN alnB (l.drop (i + 1)) = i + (spanN alnB (l.drop (i + 1)) + 1) from by omega]
      · simp [S34.b0, canon_v, canon_sl, canon_clo, canon_ptr, need_refl, elems_sl, sf_v, sf_sl, sf_ptr, sf_ptrh, sf_clo, sf_dead, sf_nil, sf_full, sf_fr, need_true, ibeq, beq_ba, nbeq, nble, nblt, AM.nth, List.getD_cons_succ, List.getD_cons_zero, Option.bind_some, Option.bind_none, Option.map_some, onBool, AM.onG, onFn, seqK, retK, Ex.outOf, cond_true, cond_false, bin_lss, bin_leq, bin_gtr, bin_geq, bin_eql, bin_neq, bin_add, bin_sub, bin_mul, un_not, str_eql, str_neq, app_push, load_fp, AM.ownPut, AM.cellsOf, AM.shift, aPick, beq_true, okSz, List.length_cons, List.length_nil, Nat.zero_add, Nat.add_zero, Nat.reduceAdd, decide_true, decide_false, Bool.and_true, Bool.true_and, Bool.and_self, Bool.not_true, Bool.not_false, List.getElem?_cons_zero, List.getElem?_cons_succ, List.nil_append, List.cons_append, max_int, min_int, modify_concat, part1, List.take_succ_cons, List.take_left, List.take_zero, List.take_nil, app_stk, app_tk, app_lp, set_stk, set_tk, set_lp, set_set, n_load, n_load0, n_old, n_store, n_store0, n_store_old, n_leave, n_leave0, n_fin_v, n_fin_sl, n_fin_u, n_back, n_next, n_blk, n_blk0, n_set, n_set0, n_set_old, bs_size, bs_inj, mk_bs, noPan, onRet, hN, hT, hL, List.toList_toArray, aNilCheck, AM.aExtract, canon, canonA, canonC, List.map_cons, List.map_nil, List.modify_zero_cons, List.modify_succ_cons, AM.part, List.drop_zero, List.drop_succ_cons, List.drop_nil, n_fin_tup, n_fin_agg, flatA, flatA.flatD, AM.flatC, List.all_cons, List.all_nil, len_9, hlt', hx, F23_b, F24_b, ha, w1]
    | false =>
      cases hd : digB c with
      | true =>
        rw [if_pos (by simp [alnB, ha, hd]), it_step (vs' := [str l, .v (.int .i64 ((i + 1 : Nat) : Int))]) (st' := X.app [] [] [])]
        · rw [ih, show i + 1 + spanN alnB (l.drop (i + 1)) = i + (spanN alnB (l.drop (i + 1)) + 1) from by omega]
        · simp [S34.b0, canon_v, canon_sl, canon_clo, canon_ptr, need_refl, elems_sl, sf_v, sf_sl, sf_ptr, sf_ptrh, sf_clo, sf_dead, sf_nil, sf_full, sf_fr, need_true, ibeq, beq_ba, nbeq, nble, nblt, AM.nth, List.getD_cons_succ, List.getD_cons_zero, Option.bind_some, Option.bind_none, Option.map_some, onBool, AM.onG, onFn, seqK, retK, Ex.outOf, cond_true, cond_false, bin_lss, bin_leq, bin_gtr, bin_geq, bin_eql, bin_neq, bin_add, bin_sub, bin_mul, un_not, str_eql, str_neq, app_push, load_fp, AM.ownPut, AM.cellsOf, AM.shift, aPick, beq_true, okSz, List.length_cons, List.length_nil, Nat.zero_add, Nat.add_zero, Nat.reduceAdd, decide_true, decide_false, Bool.and_true, Bool.true_and, Bool.and_self, Bool.not_true, Bool.not_false, List.getElem?_cons_zero, List.getElem?_cons_succ, List.nil_append, List.cons_append, max_int, min_int, modify_concat, part1, List.take_succ_cons, List.take_left, List.take_zero, List.take_nil, app_stk, app_tk, app_lp, set_stk, set_tk, set_lp, set_set, n_load, n_load0, n_old, n_store, n_store0, n_store_old, n_leave, n_leave0, n_fin_v, n_fin_sl, n_fin_u, n_back, n_next, n_blk, n_blk0, n_set, n_set0, n_set_old, bs_size, bs_inj, mk_bs, noPan, onRet, hN, hT, hL, List.toList_toArray, aNilCheck, AM.aExtract, canon, canonA, canonC, List.map_cons, List.map_nil, List.modify_zero_cons, List.modify_succ_cons, AM.part, List.drop_zero, List.drop_succ_cons, List.drop_nil, n_fin_tup, n_fin_agg, flatA, flatA.flatD, AM.flatC, List.all_cons, List.all_nil, len_9, hlt', hx, F23_b, F24_b, ha, hd, w1]
      | false =>
        rw [if_neg (by simp [alnB, ha, hd])]
        apply it_exit
        simp [S34.b0, canon_v, canon_sl, canon_clo, canon_ptr, need_refl, elems_sl, sf_v, sf_sl, sf_ptr, sf_ptrh, sf_clo, sf_dead, sf_nil, sf_full, sf_fr, need_true, ibeq, beq_ba, nbeq, nble, nblt, AM.nth, List.getD_cons_succ, List.getD_cons_zero, Option.bind_some, Option.bind_none, Option.map_some, onBool, AM.onG, onFn, seqK, retK, Ex.outOf, cond_true, cond_false, bin_lss, bin_leq, bin_gtr, bin_geq, bin_eql, bin_neq, bin_add, bin_sub, bin_mul, un_not, str_eql, str_neq, app_push, load_fp, AM.ownPut, AM.cellsOf, AM.shift, aPick, beq_true, okSz, List.length_cons, List.length_nil, Nat.zero_add, Nat.add_zero, Nat.reduceAdd, decide_true, decide_false, Bool.and_true, Bool.true_and, Bool.and_self, Bool.not_true, Bool.not_false, List.getElem?_cons_zero, List.getElem?_cons_succ, List.nil_append, List.cons_append, max_int, min_int, modify_concat, part1, List.take_succ_cons, List.take_left, List.take_zero, List.take_nil, app_stk, app_tk, app_lp, set_stk, set_tk, set_lp, set_set, n_load, n_load0, n_old, n_store, n_store0, n_store_old, n_leave, n_leave0, n_fin_v, n_fin_sl, n_fin_u, n_back, n_next, n_blk, n_blk0, n_set, n_set0, n_set_old, bs_size, bs_inj, mk_bs, noPan, onRet, hN, hT, hL, List.toList_toArray, aNilCheck, AM.aExtract, canon, canonA, canonC, List.map_cons, List.map_nil, List.modify_zero_cons, List.modify_succ_cons, AM.part, List.drop_zero, List.drop_succ_cons, List.drop_nil, n_fin_tup, n_fin_agg, flatA, flatA.flatD, AM.flatC, List.all_cons, List.all_nil, len_9, hlt', hx, F23_b, F24_b, ha, hd, w1]
theorem F34_ev {l : List UInt8} {i : Nat} (hlen : l.length < 4611686018427387904) (hi : i ≤ l.length) (st : St) : E L (.func 34) [str l, .v (.int .i64 (i : Int))] st = some (.v (.int .i64 ((i + spanN alnB (l.drop i) : Nat) : Int)), st) := by
  rw [S34_eq]
  obtain ⟨N, hN⟩ : ∃ q, st.stk.length = q := ⟨_, rfl⟩
  obtain ⟨T, hT⟩ : ∃ q, st.tk.length = q := ⟨_, rfl⟩
  obtain ⟨Lb, hL⟩ : ∃ q, st.lp.length = q := ⟨_, rfl⟩
  conv => lhs; rw [← app_nil (st)]
  have h := row_loop hlen hN hT hL (l.length - i) i rfl hi
  simp [S34, canon_v, canon_sl, canon_clo, canon_ptr, need_refl, elems_sl, sf_v, sf_sl, sf_ptr, sf_ptrh, sf_clo, sf_dead, sf_nil, sf_full, sf_fr, need_true, ibeq, beq_ba, nbeq, nble, nblt, AM.nth, List.getD_cons_succ, List.getD_cons_zero, Option.bind_some, Option.bind_none, Option.map_some, onBool, AM.onG, onFn, seqK, retK, Ex.outOf, cond_true, cond_false, bin_lss, bin_leq, bin_gtr, bin_geq, bin_eql, bin_neq, bin_add, bin_sub, bin_mul, un_not, str_eql, str_neq, app_push, load_fp, AM.ownPut, AM.cellsOf, AM.shift, aPick, beq_true, okSz, List.length_cons, List.length_nil, Nat.zero_add, Nat.add_zero, Nat.reduceAdd, decide_true, decide_false, Bool.and_true, Bool.true_and, Bool.and_self, Bool.not_true, Bool.not_false, List.getElem?_cons_zero, List.getElem?_cons_succ, List.nil_append, List.cons_append, max_int, min_int, modify_concat, part1, List.take_succ_cons, List.take_left, List.take_zero, List.take_nil, app_stk, app_tk, app_lp, set_stk, set_tk, set_lp, set_set, n_load, n_load0, n_old, n_store, n_store0, n_store_old, n_leave, n_leave0, n_fin_v, n_fin_sl, n_fin_u, n_back, n_next, n_blk, n_blk0, n_set, n_set0, n_set_old, bs_size, bs_inj, mk_bs, noPan, onRet, hN, hT, hL, List.toList_toArray, aNilCheck, AM.aExtract, canon, canonA, canonC, List.map_cons, List.map_nil, List.modify_zero_cons, List.modify_succ_cons, AM.part, List.drop_zero, List.drop_succ_cons, List.drop_nil, n_fin_tup, n_fin_agg, flatA, flatA.flatD, AM.flatC, List.all_cons, List.all_nil, h]

/-! ### words -/
def strC (w : List UInt8) : List PV := [str w]
theorem F25_ev (st : St) : E L (.func 25) [] st = some (.sl (wordsL.map strC) .dead, st) := by
  rw [S25_eq]
  have e : S25 (E L) itE st = (some (PV.sl (wordsL.map strC) .full)).bind fun p1 => fin st.stk.length st.tk.length st.lp.length [p1] st := by kernel_rfl
  rw [e, Option.bind_some, fin_sl0]
theorem ia50 {ws : List (List UInt8)} {i : Nat} {c : Cap} (k : IntKind) (h : i < ws.length) : aIndexAddr Tryd.prog 50 (.sl (ws.map strC) c) (.v (.int k (i : Int))) = some (.fp (strC ws[i]) 0) := by
  rw [ia_50]
  have h1 : inRange (i : Int) (ws.map strC).length = true := by simp [inRange, h]
  rw [h1, cond_true, Int.toNat_natCast, List.getElem?_map, List.getElem?_eq_getElem h]
  rfl
theorem isword_loop {l : List UInt8} {ws : List (List UInt8)} (hlen : ws.length < 1000) {X : St} {N T Lb : Nat} (hN : X.stk.length = N) (hT : X.tk.length = T) (hL : X.lp.length = Lb) : ∀ (suf pre : List (List UInt8)), ws = pre ++ suf →
    ∃ e y z, itE (S16.b0 (E L) itE N Lb) [str l, .v (.bool false), .sl (ws.map strC) .dead, .v (.int .i64 (ws.length : Int)), .v (.int .i64 (pre.length : Int))] (X.app [] [] []) = some (e, [str l, y, .sl (ws.map strC) .dead, .v (.int .i64 (ws.length : Int)), z], X.app [] [] []) ∧
      (if suf.contains l then e = .ret ∧ y = .v (.bool true) else e = .exit 0) := by
  intro suf
  induction suf with
  | nil =>
    intro pre h
    have h : ws = pre := by simpa using h
    subst h
    refine ⟨.exit 0, .v (.bool false), .v (.int .i64 (ws.length : Int)), ?_, rfl⟩
    apply it_exit
    simp [S16.b0, canon_v, canon_sl, canon_clo, canon_ptr, need_refl, elems_sl, sf_v, sf_sl, sf_ptr, sf_ptrh, sf_clo, sf_dead, sf_nil, sf_full, sf_fr, need_true, ibeq, beq_ba, nbeq, nble, nblt, AM.nth, List.getD_cons_succ, List.getD_cons_zero, Option.bind_some, Option.bind_none, Option.map_some, onBool, AM.onG, onFn, seqK, retK, Ex.outOf, cond_true, cond_false, bin_lss, bin_leq, bin_gtr, bin_geq, bin_eql, bin_neq, bin_add, bin_sub, bin_mul, un_not, str_eql, str_neq, app_push, load_fp, AM.ownPut, AM.cellsOf, AM.shift, aPick, beq_true, okSz, List.length_cons, List.length_nil, Nat.zero_add, Nat.add_zero, Nat.reduceAdd, decide_true, decide_false, Bool.and_true, Bool.true_and, Bool.and_self, Bool.not_true, Bool.not_false, List.getElem?_cons_zero, List.getElem?_cons_succ, List.nil_append, List.cons_append, max_int, min_int, modify_concat, part1, List.take_succ_cons, List.take_left, List.take_zero, List.take_nil, app_stk, app_tk, app_lp, set_stk, set_tk, set_lp, set_set, n_load, n_load0, n_old, n_store, n_store0, n_store_old, n_leave, n_leave0, n_fin_v, n_fin_sl, n_fin_u, n_back, n_next, n_blk, n_blk0, n_set, n_set0, n_set_old, bs_size, bs_inj, mk_bs, noPan, onRet, hN, hT, hL, List.toList_toArray, aNilCheck, AM.aExtract, canon, canonA, canonC, List.map_cons, List.map_nil, List.modify_zero_cons, List.modify_succ_cons, AM.part, List.drop_zero, List.drop_succ_cons, List.drop_nil, n_fin_tup, n_fin_agg, flatA, flatA.flatD, AM.flatC, List.all_cons, List.all_nil]
  | cons w suf ih =>
    intro pre h
    have h' : ws = (pre ++ [w]) ++ suf := by simp [h]
    have hlt : pre.length < ws.length := by rw [h]; simp
    have hg : ws[pre.length] = w := by simp [h]
    have hx := ia50 (ws := ws) (c := .dead) .i64 hlt
    rw [hg] at hx
    have hlt' : (pre.length : Int) < (ws.length : Int) := by omega
    have w1 : IntKind.i64.wrap ((pre.length : Int) + 1) = (pre.length : Int) + 1 := IntWalk.i64_in _ (by omega)
    by_cases hw : w = l
    · subst hw
      refine ⟨.ret, .v (.bool true), .v (.int .i64 (pre.length : Int)), ?_, by simp⟩
      apply it_ret
      simp [S16.b0, canon_v, canon_sl, canon_clo, canon_ptr, need_refl, elems_sl, sf_v, sf_sl, sf_ptr, sf_ptrh, sf_clo, sf_dead, sf_nil, sf_full, sf_fr, need_true, ibeq, beq_ba, nbeq, nble, nblt, AM.nth, List.getD_cons_succ, List.getD_cons_zero, Option.bind_some, Option.bind_none, Option.map_some, onBool, AM.onG, onFn, seqK, retK, Ex.outOf, cond_true, cond_false, bin_lss, bin_leq, bin_gtr, bin_geq, bin_eql, bin_neq, bin_add, bin_sub, bin_mul, un_not, str_eql, str_neq, app_push, load_fp, AM.ownPut, AM.cellsOf, AM.shift, aPick, beq_true, okSz, List.length_cons, List.length_nil, Nat.zero_add, Nat.add_zero, Nat.reduceAdd, decide_true, decide_false, Bool.and_true, Bool.true_and, Bool.and_self, Bool.not_true, Bool.not_false, List.getElem?_cons_zero, List.getElem?_cons_succ, List.nil_append, List.cons_append, max_int, min_int, modify_concat, part1, List.take_succ_cons, List.take_left, List.take_zero, List.take_nil, app_stk, app_tk, app_lp, set_stk, set_tk, set_lp, set_set, n_load, n_load0, n_old, n_store, n_store0, n_store_old, n_leave, n_leave0, n_fin_v, n_fin_sl, n_fin_u, n_back, n_next, n_blk, n_blk0, n_set, n_set0, n_set_old, bs_size, bs_inj, mk_bs, noPan, onRet, hN, hT, hL, List.toList_toArray, aNilCheck, AM.aExtract, canon, canonA, canonC, List.map_cons, List.map_nil, List.modify_zero_cons, List.modify_succ_cons, AM.part, List.drop_zero, List.drop_succ_cons, List.drop_nil, n_fin_tup, n_fin_agg, flatA, flatA.flatD, AM.flatC, List.all_cons, List.all_nil, hlt', hx, strC]
    · obtain ⟨e, y, z, h1, h2⟩ := ih (pre ++ [w]) h'
      refine ⟨e, y, z, ?_, ?_⟩
      · rw [it_step (vs' := [str l, .v (.bool false), .sl (ws.map strC) .dead, .v (.int .i64 (ws.length : Int)), .v (.int .i64 ((pre ++ [w]).length : Int))]) (st' := X.app [] [] [])]
        · exact h1
        · simp [S16.b0, canon_v, canon_sl, canon_clo, canon_ptr, need_refl, elems_sl, sf_v, sf_sl, sf_ptr, sf_ptrh, sf_clo, sf_dead, sf_nil, sf_full, sf_fr, need_true, ibeq, beq_ba, nbeq, nble, nblt, AM.nth, List.getD_cons_succ, List.getD_cons_zero, Option.bind_some, Option.bind_none, Option.map_some, onBool, AM.onG, onFn, seqK, retK, Ex.outOf, cond_true, cond_false, bin_lss, bin_leq, bin_gtr, bin_geq, bin_eql, bin_neq, bin_add, bin_sub, bin_mul, un_not, str_eql, str_neq, app_push, load_fp, AM.ownPut, AM.cellsOf, AM.shift, aPick, beq_true, okSz, List.length_cons, List.length_nil, Nat.zero_add, Nat.add_zero, Nat.reduceAdd, decide_true, decide_false, Bool.and_true, Bool.true_and, Bool.and_self, Bool.not_true, Bool.not_false, List.getElem?_cons_zero, List.getElem?_cons_succ, List.nil_append, List.cons_append, max_int, min_int, modify_concat, part1, List.take_succ_cons, List.take_left, List.take_zero, List.take_nil, app_stk, app_tk, app_lp, set_stk, set_tk, set_lp, set_set, n_load, n_load0, n_old, n_store, n_store0, n_store_old, n_leave, n_leave0, n_fin_v, n_fin_sl, n_fin_u, n_back, n_next, n_blk, n_blk0, n_set, n_set0, n_set_old, bs_size, bs_inj, mk_bs, noPan, onRet, hN, hT, hL, List.toList_toArray, aNilCheck, AM.aExtract, canon, canonA, canonC, List.map_cons, List.map_nil, List.modify_zero_cons, List.modify_succ_cons, AM.part, List.drop_zero, List.drop_succ_cons, List.drop_nil, n_fin_tup, n_fin_agg, flatA, flatA.flatD, AM.flatC, List.all_cons, List.all_nil, hlt', hx, strC, hw, w1]
      · have : ((w :: suf).contains l) = suf.contains l := by
          rw [List.contains_cons]
          have : (l == w) = false := by simpa using fun h => hw h.symm
          rw [this, Bool.false_or]
        rw [this]; exact h2
theorem F16_ev (l : List UInt8) (st : St) : E L (.func 16) [str l] st = some (.v (.bool (wordB l)), st) := by
  rw [S16_eq]
  obtain ⟨N, hN⟩ : ∃ q, st.stk.length = q := ⟨_, rfl⟩
  obtain ⟨T, hT⟩ : ∃ q, st.tk.length = q := ⟨_, rfl⟩
  obtain ⟨Lb, hL⟩ : ∃ q, st.lp.length = q := ⟨_, rfl⟩
  conv => lhs; rw [← app_nil (st)]
  obtain ⟨e, y, z, h1, h2⟩ := isword_loop (l := l) (ws := wordsL) (by decide) hN hT hL wordsL [] rfl
  have hw : wordsL.contains l = wordB l := rfl
  rw [hw] at h2
  have hln : ((wordsL.map strC).length : Int) = (wordsL.length : Int) := by rw [List.length_map]
  simp only [List.length_nil, Int.natCast_zero] at h1
  cases hb : wordB l with
  | true =>
    rw [hb, if_pos rfl] at h2
    obtain ⟨rfl, rfl⟩ := h2
    simp [S16, canon_v, canon_sl, canon_clo, canon_ptr, need_refl, elems_sl, sf_v, sf_sl, sf_ptr, sf_ptrh, sf_clo, sf_dead, sf_nil, sf_full, sf_fr, need_true, ibeq, beq_ba, nbeq, nble, nblt, AM.nth, List.getD_cons_succ, List.getD_cons_zero, Option.bind_some, Option.bind_none, Option.map_some, onBool, AM.onG, onFn, seqK, retK, Ex.outOf, cond_true, cond_false, bin_lss, bin_leq, bin_gtr, bin_geq, bin_eql, bin_neq, bin_add, bin_sub, bin_mul, un_not, str_eql, str_neq, app_push, load_fp, AM.ownPut, AM.cellsOf, AM.shift, aPick, beq_true, okSz, List.length_cons, List.length_nil, Nat.zero_add, Nat.add_zero, Nat.reduceAdd, decide_true, decide_false, Bool.and_true, Bool.true_and, Bool.and_self, Bool.not_true, Bool.not_false, List.getElem?_cons_zero, List.getElem?_cons_succ, List.nil_append, List.cons_append, max_int, min_int, modify_concat, part1, List.take_succ_cons, List.take_left, List.take_zero, List.take_nil, app_stk, app_tk, app_lp, set_stk, set_tk, set_lp, set_set, n_load, n_load0, n_old, n_store, n_store0, n_store_old, n_leave, n_leave0, n_fin_v, n_fin_sl, n_fin_u, n_back, n_next, n_blk, n_blk0, n_set, n_set0, n_set_old, bs_size, bs_inj, mk_bs, noPan, onRet, hN, hT, hL, List.toList_toArray, aNilCheck, AM.aExtract, canon, canonA, canonC, List.map_cons, List.map_nil, List.modify_zero_cons, List.modify_succ_cons, AM.part, List.drop_zero, List.drop_succ_cons, List.drop_nil, n_fin_tup, n_fin_agg, flatA, flatA.flatD, AM.flatC, List.all_cons, List.all_nil, F25_ev, len_50, h1]
  | false =>
    rw [hb] at h2
    simp only [Bool.false_eq_true, if_false] at h2
    subst h2
    simp [S16, canon_v, canon_sl, canon_clo, canon_ptr, need_refl, elems_sl, sf_v, sf_sl, sf_ptr, sf_ptrh, sf_clo, sf_dead, sf_nil, sf_full, sf_fr, need_true, ibeq, beq_ba, nbeq, nble, nblt, AM.nth, List.getD_cons_succ, List.getD_cons_zero, Option.bind_some, Option.bind_none, Option.map_some, onBool, AM.onG, onFn, seqK, retK, Ex.outOf, cond_true, cond_false, bin_lss, bin_leq, bin_gtr, bin_geq, bin_eql, bin_neq, bin_add, bin_sub, bin_mul, un_not, str_eql, str_neq, app_push, load_fp, AM.ownPut, AM.cellsOf, AM.shift, aPick, beq_true, okSz, List.length_cons, List.length_nil, Nat.zero_add, Nat.add_zero, Nat.reduceAdd, decide_true, decide_false, Bool.and_true, Bool.true_and, Bool.and_self, Bool.not_true, Bool.not_false, List.getElem?_cons_zero, List.getElem?_cons_succ, List.nil_append, List.cons_append, max_int, min_int, modify_concat, part1, List.take_succ_cons, List.take_left, List.take_zero, List.take_nil, app_stk, app_tk, app_lp, set_stk, set_tk, set_lp, set_set, n_load, n_load0, n_old, n_store, n_store0, n_store_old, n_leave, n_leave0, n_fin_v, n_fin_sl, n_fin_u, n_back, n_next, n_blk, n_blk0, n_set, n_set0, n_set_old, bs_size, bs_inj, mk_bs, noPan, onRet, hN, hT, hL, List.toList_toArray, aNilCheck, AM.aExtract, canon, canonA, canonC, List.map_cons, List.map_nil, List.modify_zero_cons, List.modify_succ_cons, AM.part, List.drop_zero, List.drop_succ_cons, List.drop_nil, n_fin_tup, n_fin_agg, flatA, flatA.flatD, AM.flatC, List.all_cons, List.all_nil, F25_ev, len_50, h1]

/-! ### names -/
theorem isname_loop {l : List UInt8} (hlen : l.length < 4611686018427387904) {X : St} {N T Lb : Nat} (hN : X.stk.length = N) (hT : X.tk.length = T) (hL : X.lp.length = Lb) : ∀ (k i : Nat), l.length - i = k → i ≤ l.length →
    ∃ z, itE (S15.b0 (E L) itE N Lb) [str l, .v (.bool false), .v (.int .i64 (i : Int))] (X.app [] [] []) = some (bif (l.drop i).all alnB then .exit 0 else .ret, [str l, .v (.bool false), z], X.app [] [] []) := by
  intro k
  induction k with
  | zero =>
    intro i hk hi
    obtain rfl : i = l.length := by omega
    refine ⟨.v (.int .i64 (l.length : Int)), ?_⟩
    rw [List.drop_length, List.all_nil, cond_true]
    apply it_exit
    simp [S15.b0, canon_v, canon_sl, canon_clo, canon_ptr, need_refl, elems_sl, sf_v, sf_sl, sf_ptr, sf_ptrh, sf_clo, sf_dead, sf_nil, sf_full, sf_fr, need_true, ibeq, beq_ba, nbeq, nble, nblt, AM.nth, List.getD_cons_succ, List.getD_cons_zero, Option.bind_some, Option.bind_none, Option.map_some, onBool, AM.onG, onFn, seqK, retK, Ex.outOf, cond_true, cond_false, bin_lss, bin_leq, bin_gtr, bin_geq, bin_eql, bin_neq, bin_add, bin_sub, bin_mul, un_not, str_eql, str_neq, app_push, load_fp, AM.ownPut, AM.cellsOf, AM.shift, aPick, beq_true, okSz, List.length_cons, List.length_nil, Nat.zero_add, Nat.add_zero, Nat.reduceAdd, decide_true, decide_false, Bool.and_true, Bool.true_and, Bool.and_self, Bool.not_true, Bool.not_false, List.getElem?_cons_zero, List.getElem?_cons_succ, List.nil_append, List.cons_append, max_int, min_int, modify_concat, part1, List.take_succ_cons, List.take_left, List.take_zero, List.take_nil, app_stk, app_tk, app_lp, set_stk, set_tk, set_lp, set_set, n_load, n_load0, n_old, n_store, n_store0, n_store_old, n_leave, n_leave0, n_fin_v, n_fin_sl, n_fin_u, n_back, n_next, n_blk, n_blk0, n_set, n_set0, n_set_old, bs_size, bs_inj, mk_bs, noPan, onRet, hN, hT, hL, List.toList_toArray, aNilCheck, AM.aExtract, canon, canonA, canonC, List.map_cons, List.map_nil, List.modify_zero_cons, List.modify_succ_cons, AM.part, List.drop_zero, List.drop_succ_cons, List.drop_nil, n_fin_tup, n_fin_agg, flatA, flatA.flatD, AM.flatC, List.all_cons, List.all_nil, len_9]
  | succ k ih =>
    intro i hk hi
    have hlt : i < l.length := by omega
    have hlt' : (i : Int) < (l.length : Int) := by omega
    have hx := ix_9 (l := l) .i64 hlt
    have w1 : IntKind.i64.wrap ((i : Int) + 1) = (i : Int) + 1 := IntWalk.i64_in _ (by omega)
    rw [drop_cons hlt, List.all_cons]
    generalize l[i] = c at *
    obtain ⟨z, ih⟩ := ih (i + 1) (by omega) (by omega)
    cases ha : letB c with
    | true =>
      refine ⟨z, ?_⟩
      rw [show alnB c = true by simp [alnB, ha], Bool.true_and, it_step (vs' := [str l, .v (.bool false), .v (.int .i64 ((i + 1 : Nat) : Int))]) (st' := X.app [] [] [])]
      · exact ih
      · simp [S15.b0, canon_v, canon_sl, canon_clo, canon_ptr, need_refl, elems_sl, sf_v, sf_sl, sf_ptr, sf_ptrh, sf_clo, sf_dead, sf_nil, sf_full, sf_fr, need_true, ibeq, beq_ba, nbeq, nble, nblt, AM.nth, List.getD_cons_succ, List.getD_cons_zero, Option.bind_some, Option.bind_none, Option.map_some, onBool, AM.onG, onFn, seqK, retK, Ex.outOf, cond_true, cond_false, bin_lss, bin_leq, bin_gtr, bin_geq, bin_eql, bin_neq, bin_add, bin_sub, bin_mul, un_not, str_eql, str_neq, app_push, load_fp, AM.ownPut, AM.cellsOf, AM.shift, aPick, beq_true, okSz, List.length_cons, List.length_nil, Nat.zero_add, Nat.add_zero, Nat.reduceAdd, decide_true, decide_false, Bool.and_true, Bool.true_and, Bool.and_self, Bool.not_true, Bool.not_false, List.getElem?_cons_zero, List.getElem?_cons_succ, List.nil_append, List.cons_append, max_int, min_int, modify_concat, part1, List.take_succ_cons, List.take_left, List.take_zero, List.take_nil, app_stk, app_tk, app_lp, set_stk, set_tk, set_lp, set_set, n_load, n_load0, n_old, n_store, n_store0, n_store_old, n_leave, n_leave0, n_fin_v, n_fin_sl, n_fin_u, n_back, n_next, n_blk, n_blk0, n_set, n_set0, n_set_old, bs_size, bs_inj, mk_bs, noPan, onRet, hN, hT, hL, List.toList_toArray, aNilCheck, AM.aExtract, canon, canonA, canonC, List.map_cons, List.map_nil, List.modify_zero_cons, List.modify_succ_cons, AM.part, List.drop_zero, List.drop_succ_cons, List.drop_nil, n_fin_tup, n_fin_agg, flatA, flatA.flatD, AM.flatC, List.all_cons, List.all_nil, len_9, hlt', hx, F23_b, F24_b, ha, w1]
    | false =>
      cases hd : digB c with
      | true =>
        refine ⟨z, ?_⟩
        rw [show alnB c = true by simp [alnB, hd], Bool.true_and, it_step (vs' := [str l, .v (.bool false), .v (.int .i64 ((i + 1 : Nat) : Int))]) (st' := X.app [] [] [])]
        · exact ih
        · simp [S15.b0, canon_v, canon_sl, canon_clo, canon_ptr, need_refl, elems_sl, sf_v, sf_sl, sf_ptr, sf_ptrh, sf_clo, sf_dead, sf_nil, sf_full, sf_fr, need_true, ibeq, beq_ba, nbeq, nble, nblt, AM.nth, List.getD_cons_succ, List.getD_cons_zero, Option.bind_some, Option.bind_none, Option.map_some, onBool, AM.onG, onFn, seqK, retK, Ex.outOf, cond_true, cond_false, bin_lss, bin_leq, bin_gtr, bin_geq, bin_eql, bin_neq, bin_add, bin_sub, bin_mul, un_not, str_eql, str_neq, app_push, load_fp, AM.ownPut, AM.cellsOf, AM.shift, aPick, beq_true, okSz, List.length_cons, List.length_nil, Nat.zero_add, Nat.add_zero, Nat.reduceAdd, decide_true, decide_false, Bool.and_true, Bool.true_and, Bool.and_self, Bool.not_true, Bool.not_false, List.getElem?_cons_zero, List.getElem?_cons_succ, List.nil_append, List.cons_append, max_int, min_int, modify_concat, part1, List.take_succ_cons, List.take_left, List.take_zero, List.take_nil, app_stk, app_tk, app_lp, set_stk, set_tk, set_lp, set_set, n_load, n_load0, n_old, n_store, n_store0, n_store_old, n_leave, n_leave0, n_fin_v, n_fin_sl, n_fin_u, n_back, n_next, n_blk, n_blk0, n_set, n_set0, n_set_old, bs_size, bs_inj, mk_bs, noPan, onRet, hN, hT, hL, List.toList_toArray, aNilCheck, AM.aExtract, canon, canonA, canonC, List.map_cons, List.map_nil, List.modify_zero_cons, List.modify_succ_cons, AM.part, List.drop_zero, List.drop_succ_cons, List.drop_nil, n_fin_tup, n_fin_agg, flatA, flatA.flatD, AM.flatC, List.all_cons, List.all_nil, len_9, hlt', hx, F23_b, F24_b, ha, hd, w1]
      | false =>
        refine ⟨.v (.int .i64 (i : Int)), ?_⟩
        rw [show alnB c = false by simp [alnB, ha, hd], Bool.false_and, cond_false]
        apply it_ret
        simp [S15.b0, canon_v, canon_sl, canon_clo, canon_ptr, need_refl, elems_sl, sf_v, sf_sl, sf_ptr, sf_ptrh, sf_clo, sf_dead, sf_nil, sf_full, sf_fr, need_true, ibeq, beq_ba, nbeq, nble, nblt, AM.nth, List.getD_cons_succ, List.getD_cons_zero, Option.bind_some, Option.bind_none, Option.map_some, onBool, AM.onG, onFn, seqK, retK, Ex.outOf, cond_true, cond_false, bin_lss, bin_leq, bin_gtr, bin_geq, bin_eql, bin_neq, bin_add, bin_sub, bin_mul, un_not, str_eql, str_neq, app_push, load_fp, AM.ownPut, AM.cellsOf, AM.shift, aPick, beq_true, okSz, List.length_cons, List.length_nil, Nat.zero_add, Nat.add_zero, Nat.reduceAdd, decide_true, decide_false, Bool.and_true, Bool.true_and, Bool.and_self, Bool.not_true, Bool.not_false, List.getElem?_cons_zero, List.getElem?_cons_succ, List.nil_append, List.cons_append, max_int, min_int, modify_concat, part1, List.take_succ_cons, List.take_left, List.take_zero, List.take_nil, app_stk, app_tk, app_lp, set_stk, set_tk, set_lp, set_set, n_load, n_load0, n_old, n_store, n_store0, n_store_old, n_leave, n_leave0, n_fin_v, n_fin_sl, n_fin_u, n_back, n_next, n_blk, n_blk0, n_set, n_set0, n_set_old, bs_size, bs_inj, mk_bs, noPan, onRet, hN, hT, hL, List.toList_toArray, aNilCheck, AM.aExtract, canon, canonA, canonC, List.map_cons, List.map_nil, List.modify_zero_cons, List.modify_succ_cons, AM.part, List.drop_zero, List.drop_succ_cons, List.drop_nil, n_fin_tup, n_fin_agg, flatA, flatA.flatD, AM.flatC, List.all_cons, List.all_nil, len_9, hlt', hx, F23_b, F24_b, ha, hd, w1]
theorem F15_ev {l : List UInt8} (hlen : l.length < 4611686018427387904) (st : St) : E L (.func 15) [str l] st = some (.v (.bool (nameB l)), st) := by
  rw [S15_eq]
  obtain ⟨N, hN⟩ : ∃ q, st.stk.length = q := ⟨_, rfl⟩
  obtain ⟨T, hT⟩ : ∃ q, st.tk.length = q := ⟨_, rfl⟩
  obtain ⟨Lb, hL⟩ : ∃ q, st.lp.length = q := ⟨_, rfl⟩
  conv => lhs; rw [← app_nil (st)]
  cases l with
  | nil => simp [S15, canon_v, canon_sl, canon_clo, canon_ptr, need_refl, elems_sl, sf_v, sf_sl, sf_ptr, sf_ptrh, sf_clo, sf_dead, sf_nil, sf_full, sf_fr, need_true, ibeq, beq_ba, nbeq, nble, nblt, AM.nth, List.getD_cons_succ, List.getD_cons_zero, Option.bind_some, Option.bind_none, Option.map_some, onBool, AM.onG, onFn, seqK, retK, Ex.outOf, cond_true, cond_false, bin_lss, bin_leq, bin_gtr, bin_geq, bin_eql, bin_neq, bin_add, bin_sub, bin_mul, un_not, str_eql, str_neq, app_push, load_fp, AM.ownPut, AM.cellsOf, AM.shift, aPick, beq_true, okSz, List.length_cons, List.length_nil, Nat.zero_add, Nat.add_zero, Nat.reduceAdd, decide_true, decide_false, Bool.and_true, Bool.true_and, Bool.and_self, Bool.not_true, Bool.not_false, List.getElem?_cons_zero, List.getElem?_cons_succ, List.nil_append, List.cons_append, max_int, min_int, modify_concat, part1, List.take_succ_cons, List.take_left, List.take_zero, List.take_nil, app_stk, app_tk, app_lp, set_stk, set_tk, set_lp, set_set, n_load, n_load0, n_old, n_store, n_store0, n_store_old, n_leave, n_leave0, n_fin_v, n_fin_sl, n_fin_u, n_back, n_next, n_blk, n_blk0, n_set, n_set0, n_set_old, bs_size, bs_inj, mk_bs, noPan, onRet, hN, hT, hL, List.toList_toArray, aNilCheck, AM.aExtract, canon, canonA, canonC, List.map_cons, List.map_nil, List.modify_zero_cons, List.modify_succ_cons, AM.part, List.drop_zero, List.drop_succ_cons, List.drop_nil, n_fin_tup, n_fin_agg, flatA, flatA.flatD, AM.flatC, List.all_cons, List.all_nil, nameB]
  | cons c r =>
    obtain ⟨z, h⟩ := isname_loop hlen hN hT hL (c :: r).length 0 rfl (Nat.zero_le _)
    simp only [List.drop_zero, Int.natCast_zero] at h
    have hw : ∀ X, E L (.func 16) [str (c :: r)] X = some (.v (.bool (wordB (c :: r))), X) := F16_ev _
    simp only [nameB, nameP]
    cases hwb : wordB (c :: r) with
    | true => simp [S15, canon_v, canon_sl, canon_clo, canon_ptr, need_refl, elems_sl, sf_v, sf_sl, sf_ptr, sf_ptrh, sf_clo, sf_dead, sf_nil, sf_full, sf_fr, need_true, ibeq, beq_ba, nbeq, nble, nblt, AM.nth, List.getD_cons_succ, List.getD_cons_zero, Option.bind_some, Option.bind_none, Option.map_some, onBool, AM.onG, onFn, seqK, retK, Ex.outOf, cond_true, cond_false, bin_lss, bin_leq, bin_gtr, bin_geq, bin_eql, bin_neq, bin_add, bin_sub, bin_mul, un_not, str_eql, str_neq, app_push, load_fp, AM.ownPut, AM.cellsOf, AM.shift, aPick, beq_true, okSz, List.length_cons, List.length_nil, Nat.zero_add, Nat.add_zero, Nat.reduceAdd, decide_true, decide_false, Bool.and_true, Bool.true_and, Bool.and_self, Bool.not_true, Bool.not_false, List.getElem?_cons_zero, List.getElem?_cons_succ, List.nil_append, List.cons_append, max_int, min_int, modify_concat, part1, List.take_succ_cons, List.take_left, List.take_zero, List.take_nil, app_stk, app_tk, app_lp, set_stk, set_tk, set_lp, set_set, n_load, n_load0, n_old, n_store, n_store0, n_store_old, n_leave, n_leave0, n_fin_v, n_fin_sl, n_fin_u, n_back, n_next, n_blk, n_blk0, n_set, n_set0, n_set_old, bs_size, bs_inj, mk_bs, noPan, onRet, hN, hT, hL, List.toList_toArray, aNilCheck, AM.aExtract, canon, canonA, canonC, List.map_cons, List.map_nil, List.modify_zero_cons, List.modify_succ_cons, AM.part, List.drop_zero, List.drop_succ_cons, List.drop_nil, n_fin_tup, n_fin_agg, flatA, flatA.flatD, AM.flatC, List.all_cons, List.all_nil, hw, hwb]
    | false =>
      cases hc : letB c with
      | false => simp [S15, canon_v, canon_sl, canon_clo, canon_ptr, need_refl, elems_sl, sf_v, sf_sl, sf_ptr, sf_ptrh, sf_clo, sf_dead, sf_nil, sf_full, sf_fr, need_true, ibeq, beq_ba, nbeq, nble, nblt, AM.nth, List.getD_cons_succ, List.getD_cons_zero, Option.bind_some, Option.bind_none, Option.map_some, onBool, AM.onG, onFn, seqK, retK, Ex.outOf, cond_true, cond_false, bin_lss, bin_leq, bin_gtr, bin_geq, bin_eql, bin_neq, bin_add, bin_sub, bin_mul, un_not, str_eql, str_neq, app_push, load_fp, AM.ownPut, AM.cellsOf, AM.shift, aPick, beq_true, okSz, List.length_cons, List.length_nil, Nat.zero_add, Nat.add_zero, Nat.reduceAdd, decide_true, decide_false, Bool.and_true, Bool.true_and, Bool.and_self, Bool.not_true, Bool.not_false, List.getElem?_cons_zero, List.getElem?_cons_succ, List.nil_append, List.cons_append, max_int, min_int, modify_concat, part1, List.take_succ_cons, List.take_left, List.take_zero, List.take_nil, app_stk, app_tk, app_lp, set_stk, set_tk, set_lp, set_set, n_load, n_load0, n_old, n_store, n_store0, n_store_old, n_leave, n_leave0, n_fin_v, n_fin_sl, n_fin_u, n_back, n_next, n_blk, n_blk0, n_set, n_set0, n_set_old, bs_size, bs_inj, mk_bs, noPan, onRet, hN, hT, hL, List.toList_toArray, aNilCheck, AM.aExtract, canon, canonA, canonC, List.map_cons, List.map_nil, List.modify_zero_cons, List.modify_succ_cons, AM.part, List.drop_zero, List.drop_succ_cons, List.drop_nil, n_fin_tup, n_fin_agg, flatA, flatA.flatD, AM.flatC, List.all_cons, List.all_nil, hw, hwb, ix0_9, F23_b, hc]
      | true =>
        have ha : alnB c = true := by simp [alnB, hc]
        rw [List.all_cons, ha, Bool.true_and] at h
        generalize r.all alnB = q at h ⊢
        cases q with
        | true =>
          rw [cond_true] at h
          simp [S15, canon_v, canon_sl, canon_clo, canon_ptr, need_refl, elems_sl, sf_v, sf_sl, sf_ptr, sf_ptrh, sf_clo, sf_dead, sf_nil, sf_full, sf_fr, need_true, ibeq, beq_ba, nbeq, nble, nblt, AM.nth, List.getD_cons_succ, List.getD_cons_zero, Option.bind_some, Option.bind_none, Option.map_some, onBool, AM.onG, onFn, seqK, retK, Ex.outOf, cond_true, cond_false, bin_lss, bin_leq, bin_gtr, bin_geq, bin_eql, bin_neq, bin_add, bin_sub, bin_mul, un_not, str_eql, str_neq, app_push, load_fp, AM.ownPut, AM.cellsOf, AM.shift, aPick, beq_true, okSz, List.length_cons, List.length_nil, Nat.zero_add, Nat.add_zero, Nat.reduceAdd, decide_true, decide_false, Bool.and_true, Bool.true_and, Bool.and_self, Bool.not_true, Bool.not_false, List.getElem?_cons_zero, List.getElem?_cons_succ, List.nil_append, List.cons_append, max_int, min_int, modify_concat, part1, List.take_succ_cons, List.take_left, List.take_zero, List.take_nil, app_stk, app_tk, app_lp, set_stk, set_tk, set_lp, set_set, n_load, n_load0, n_old, n_store, n_store0, n_store_old, n_leave, n_leave0, n_fin_v, n_fin_sl, n_fin_u, n_back, n_next, n_blk, n_blk0, n_set, n_set0, n_set_old, bs_size, bs_inj, mk_bs, noPan, onRet, hN, hT, hL, List.toList_toArray, aNilCheck, AM.aExtract, canon, canonA, canonC, List.map_cons, List.map_nil, List.modify_zero_cons, List.modify_succ_cons, AM.part, List.drop_zero, List.drop_succ_cons, List.drop_nil, n_fin_tup, n_fin_agg, flatA, flatA.flatD, AM.flatC, List.all_cons, List.all_nil, hw, hwb, ix0_9, F23_b, hc, h]
        | false =>
          rw [cond_false] at h
          simp [S15, canon_v, canon_sl, canon_clo, canon_ptr, need_refl, elems_sl, sf_v, sf_sl, sf_ptr, sf_ptrh, sf_clo, sf_dead, sf_nil, sf_full, sf_fr, need_true, ibeq, beq_ba, nbeq, nble, nblt, AM.nth, List.getD_cons_succ, List.getD_cons_zero, Option.bind_some, Option.bind_none, Option.map_some, onBool, AM.onG, onFn, seqK, retK, Ex.outOf, cond_true, cond_false, bin_lss, bin_leq, bin_gtr, bin_geq, bin_eql, bin_neq, bin_add, bin_sub, bin_mul, un_not, str_eql, str_neq, app_push, load_fp, AM.ownPut, AM.cellsOf, AM.shift, aPick, beq_true, okSz, List.length_cons, List.length_nil, Nat.zero_add, Nat.add_zero, Nat.reduceAdd, decide_true, decide_false, Bool.and_true, Bool.true_and, Bool.and_self, Bool.not_true, Bool.not_false, List.getElem?_cons_zero, List.getElem?_cons_succ, List.nil_append, List.cons_append, max_int, min_int, modify_concat, part1, List.take_succ_cons, List.take_left, List.take_zero, List.take_nil, app_stk, app_tk, app_lp, set_stk, set_tk, set_lp, set_set, n_load, n_load0, n_old, n_store, n_store0, n_store_old, n_leave, n_leave0, n_fin_v, n_fin_sl, n_fin_u, n_back, n_next, n_blk, n_blk0, n_set, n_set0, n_set_old, bs_size, bs_inj, mk_bs, noPan, onRet, hN, hT, hL, List.toList_toArray, aNilCheck, AM.aExtract, canon, canonA, canonC, List.map_cons, List.map_nil, List.modify_zero_cons, List.modify_succ_cons, AM.part, List.drop_zero, List.drop_succ_cons, List.drop_nil, n_fin_tup, n_fin_agg, flatA, flatA.flatD, AM.flatC, List.all_cons, List.all_nil, hw, hwb, ix0_9, F23_b, hc, h]

/-! ### numbers -/
def wh : List UInt8 → Nat → Option Nat
  | [], n => some n
  | c :: t, n => if digB c then wh t (10 * n + (c.toNat - 48)) else none
/-- The number of digits; false: it is none that can be. -/
def whole (t : List UInt8) : Nat × Bool :=
  if 19 < t.length ∨ 1 < t.length ∧ t.head? = some 48 then (0, false) else match wh t 0 with
    | some n => (n, decide (n < 9223372036854775808))
    | none => (0, false)
theorem digB_iff (c : UInt8) : digB c = true ↔ 48 ≤ c.toNat ∧ c.toNat ≤ 57 := by
  simp only [digB, digR, Bool.and_eq_true, decide_eq_true_eq]; omega
theorem whole_loop {l : List UInt8} (hlen : l.length ≤ 19) {X : St} {N T Lb : Nat} (hN : X.stk.length = N) (hT : X.tk.length = T) (hL : X.lp.length = Lb) : ∀ (k i n : Nat), l.length - i = k → i ≤ l.length → n < 10 ^ i →
    ∃ m z, itE (S37.b0 (E L) itE N Lb) [str l, .v (.int .u64 0), .v (.bool false), .v (.int .u64 (n : Int)), .v (.int .i64 (i : Int))] (X.app [] [] []) = some (match wh (l.drop i) n with | some _ => .exit 0 | none => .ret, [str l, .v (.int .u64 0), .v (.bool false), .v (.int .u64 (m : Int)), z], X.app [] [] []) ∧
      (∀ v, wh (l.drop i) n = some v → m = v ∧ v < 10000000000000000000) := by
  intro k
  induction k with
  | zero =>
    intro i n hk hi hn
    obtain rfl : i = l.length := by omega
    have h19 : 10 ^ l.length ≤ 10 ^ 19 := Nat.pow_le_pow_right (by omega) hlen
    refine ⟨n, .v (.int .i64 (l.length : Int)), ?_, ?_⟩
    · rw [List.drop_length]
      apply it_exit
      simp [S37.b0, canon_v, canon_sl, canon_clo, canon_ptr, need_refl, elems_sl, sf_v, sf_sl, sf_ptr, sf_ptrh, sf_clo, sf_dead, sf_nil, sf_full, sf_fr, need_true, ibeq, beq_ba, nbeq, nble, nblt, AM.nth, List.getD_cons_succ, List.getD_cons_zero, Option.bind_some, Option.bind_none, Option.map_some, onBool, AM.onG, onFn, seqK, retK, Ex.outOf, cond_true, cond_false, bin_lss, bin_leq, bin_gtr, bin_geq, bin_eql, bin_neq, bin_add, bin_sub, bin_mul, un_not, str_eql, str_neq, app_push, load_fp, AM.ownPut, AM.cellsOf, AM.shift, aPick, beq_true, okSz, List.length_cons, List.length_nil, Nat.zero_add, Nat.add_zero, Nat.reduceAdd, decide_true, decide_false, Bool.and_true, Bool.true_and, Bool.and_self, Bool.not_true, Bool.not_false, List.getElem?_cons_zero, List.getElem?_cons_succ, List.nil_append, List.cons_append, max_int, min_int, modify_concat, part1, List.take_succ_cons, List.take_left, List.take_zero, List.take_nil, app_stk, app_tk, app_lp, set_stk, set_tk, set_lp, set_set, n_load, n_load0, n_old, n_store, n_store0, n_store_old, n_leave, n_leave0, n_fin_v, n_fin_sl, n_fin_u, n_back, n_next, n_blk, n_blk0, n_set, n_set0, n_set_old, bs_size, bs_inj, mk_bs, noPan, onRet, hN, hT, hL, List.toList_toArray, aNilCheck, AM.aExtract, canon, canonA, canonC, List.map_cons, List.map_nil, List.modify_zero_cons, List.modify_succ_cons, AM.part, List.drop_zero, List.drop_succ_cons, List.drop_nil, n_fin_tup, n_fin_agg, flatA, flatA.flatD, AM.flatC, List.all_cons, List.all_nil, len_9]
    · rw [List.drop_length]
      intro v hv
      obtain rfl := Option.some.inj hv
      exact ⟨rfl, by omega⟩
  | succ k ih =>
    intro i n hk hi hn
    have hlt : i < l.length := by omega
    have hlt' : (i : Int) < (l.length : Int) := by omega
    have hx := ix_9 (l := l) .i64 hlt
    have w1 : IntKind.i64.wrap ((i : Int) + 1) = (i : Int) + 1 := IntWalk.i64_in _ (by omega)
    have h19 : 10 ^ (i + 1) ≤ 10 ^ 19 := Nat.pow_le_pow_right (by omega) (by omega)
    have hp : 10 ^ (i + 1) = 10 * 10 ^ i := by rw [Nat.pow_succ, Nat.mul_comm]
    rw [drop_cons hlt]
    generalize l[i] = c at *
    have clt := c.toNat_lt
    unfold wh
    cases hd : digB c with
    | true =>
      have hd' := (digB_iff c).1 hd
      rw [if_pos rfl]
      have hn' : 10 * n + (c.toNat - 48) < 10 ^ (i + 1) := by omega
      obtain ⟨m, z, h1, h2⟩ := ih (i + 1) (10 * n + (c.toNat - 48)) (by omega) (by omega) hn'
      refine ⟨m, z, ?_, h2⟩
      have wa : IntKind.u64.wrap (10 * (n : Int)) = 10 * (n : Int) := IntWalk.u64_in _ (by omega)
      have wb : IntKind.u8.wrap ((c.toNat : Int) - 48) = (c.toNat : Int) - 48 := IntWalk.u8_in _ (by omega)
      have wc : IntKind.u64.wrap ((c.toNat : Int) - 48) = (c.toNat : Int) - 48 := IntWalk.u64_in _ (by omega)
      have wd : IntKind.u64.wrap (10 * (n : Int) + ((c.toNat : Int) - 48)) = ((10 * n + (c.toNat - 48) : Nat) : Int) := by rw [IntWalk.u64_in _ (by omega)]; omega
      rw [it_step (vs' := [str l, .v (.int .u64 0), .v (.bool false), .v (.int .u64 ((10 * n + (c.toNat - 48) : Nat) : Int)), .v (.int .i64 ((i + 1 : Nat) : Int))]) (st' := X.app [] [] [])]
      · exact h1
      · generalize 10 * n + (c.toNat - 48) = nn at wd ⊢
        simp [S37.b0, canon_v, canon_sl, canon_clo, canon_ptr, need_refl, elems_sl, sf_v, sf_sl, sf_ptr, sf_ptrh, sf_clo, sf_dead, sf_nil, sf_full, sf_fr, need_true, ibeq, beq_ba, nbeq, nble, nblt, AM.nth, List.getD_cons_succ, List.getD_cons_zero, Option.bind_some, Option.bind_none, Option.map_some, onBool, AM.onG, onFn, seqK, retK, Ex.outOf, cond_true, cond_false, bin_lss, bin_leq, bin_gtr, bin_geq, bin_eql, bin_neq, bin_add, bin_sub, bin_mul, un_not, str_eql, str_neq, app_push, load_fp, AM.ownPut, AM.cellsOf, AM.shift, aPick, beq_true, okSz, List.length_cons, List.length_nil, Nat.zero_add, Nat.add_zero, Nat.reduceAdd, decide_true, decide_false, Bool.and_true, Bool.true_and, Bool.and_self, Bool.not_true, Bool.not_false, List.getElem?_cons_zero, List.getElem?_cons_succ, List.nil_append, List.cons_append, max_int, min_int, modify_concat, part1, List.take_succ_cons, List.take_left, List.take_zero, List.take_nil, app_stk, app_tk, app_lp, set_stk, set_tk, set_lp, set_set, n_load, n_load0, n_old, n_store, n_store0, n_store_old, n_leave, n_leave0, n_fin_v, n_fin_sl, n_fin_u, n_back, n_next, n_blk, n_blk0, n_set, n_set0, n_set_old, bs_size, bs_inj, mk_bs, noPan, onRet, hN, hT, hL, List.toList_toArray, aNilCheck, AM.aExtract, canon, canonA, canonC, List.map_cons, List.map_nil, List.modify_zero_cons, List.modify_succ_cons, AM.part, List.drop_zero, List.drop_succ_cons, List.drop_nil, n_fin_tup, n_fin_agg, flatA, flatA.flatD, AM.flatC, List.all_cons, List.all_nil, len_9, hlt', hx, F24_b, hd, w1, wa, wb, wc, wd, conv_5_33]
    | false =>
      rw [if_neg (by simp)]
      refine ⟨n, .v (.int .i64 (i : Int)), ?_, by intro v hv; cases hv⟩
      apply it_ret
      simp [S37.b0, canon_v, canon_sl, canon_clo, canon_ptr, need_refl, elems_sl, sf_v, sf_sl, sf_ptr, sf_ptrh, sf_clo, sf_dead, sf_nil, sf_full, sf_fr, need_true, ibeq, beq_ba, nbeq, nble, nblt, AM.nth, List.getD_cons_succ, List.getD_cons_zero, Option.bind_some, Option.bind_none, Option.map_some, onBool, AM.onG, onFn, seqK, retK, Ex.outOf, cond_true, cond_false, bin_lss, bin_leq, bin_gtr, bin_geq, bin_eql, bin_neq, bin_add, bin_sub, bin_mul, un_not, str_eql, str_neq, app_push, load_fp, AM.ownPut, AM.cellsOf, AM.shift, aPick, beq_true, okSz, List.length_cons, List.length_nil, Nat.zero_add, Nat.add_zero, Nat.reduceAdd, decide_true, decide_false, Bool.and_true, Bool.true_and, Bool.and_self, Bool.not_true, Bool.not_false, List.getElem?_cons_zero, List.getElem?_cons_succ, List.nil_append, List.cons_append, max_int, min_int, modify_concat, part1, List.take_succ_cons, List.take_left, List.take_zero, List.take_nil, app_stk, app_tk, app_lp, set_stk, set_tk, set_lp, set_set, n_load, n_load0, n_old, n_store, n_store0, n_store_old, n_leave, n_leave0, n_fin_v, n_fin_sl, n_fin_u, n_back, n_next, n_blk, n_blk0, n_set, n_set0, n_set_old, bs_size, bs_inj, mk_bs, noPan, onRet, hN, hT, hL, List.toList_toArray, aNilCheck, AM.aExtract, canon, canonA, canonC, List.map_cons, List.map_nil, List.modify_zero_cons, List.modify_succ_cons, AM.part, List.drop_zero, List.drop_succ_cons, List.drop_nil, n_fin_tup, n_fin_agg, flatA, flatA.flatD, AM.flatC, List.all_cons, List.all_nil, len_9, hlt', hx, F24_b, hd]
theorem F37_ev {t : List UInt8} (ht : t.length < 4611686018427387904) (st : St) : E L (.func 37) [str t] st = some (.tup [.v (.int .u64 ((whole t).1 : Int)), .v (.bool (whole t).2)], st) := by
  rw [S37_eq]
  obtain ⟨N, hN⟩ : ∃ q, st.stk.length = q := ⟨_, rfl⟩
  obtain ⟨T, hT⟩ : ∃ q, st.tk.length = q := ⟨_, rfl⟩
  obtain ⟨Lb, hL⟩ : ∃ q, st.lp.length = q := ⟨_, rfl⟩
  conv => lhs; rw [← app_nil (st)]
  unfold whole
  by_cases h19 : 19 < t.length
  · have h19' : (19 : Int) < (t.length : Int) := by omega
    simp [S37, canon_v, canon_sl, canon_clo, canon_ptr, need_refl, elems_sl, sf_v, sf_sl, sf_ptr, sf_ptrh, sf_clo, sf_dead, sf_nil, sf_full, sf_fr, need_true, ibeq, beq_ba, nbeq, nble, nblt, AM.nth, List.getD_cons_succ, List.getD_cons_zero, Option.bind_some, Option.bind_none, Option.map_some, onBool, AM.onG, onFn, seqK, retK, Ex.outOf, cond_true, cond_false, bin_lss, bin_leq, bin_gtr, bin_geq, bin_eql, bin_neq, bin_add, bin_sub, bin_mul, un_not, str_eql, str_neq, app_push, load_fp, AM.ownPut, AM.cellsOf, AM.shift, aPick, beq_true, okSz, List.length_cons, List.length_nil, Nat.zero_add, Nat.add_zero, Nat.reduceAdd, decide_true, decide_false, Bool.and_true, Bool.true_and, Bool.and_self, Bool.not_true, Bool.not_false, List.getElem?_cons_zero, List.getElem?_cons_succ, List.nil_append, List.cons_append, max_int, min_int, modify_concat, part1, List.take_succ_cons, List.take_left, List.take_zero, List.take_nil, app_stk, app_tk, app_lp, set_stk, set_tk, set_lp, set_set, n_load, n_load0, n_old, n_store, n_store0, n_store_old, n_leave, n_leave0, n_fin_v, n_fin_sl, n_fin_u, n_back, n_next, n_blk, n_blk0, n_set, n_set0, n_set_old, bs_size, bs_inj, mk_bs, noPan, onRet, hN, hT, hL, List.toList_toArray, aNilCheck, AM.aExtract, canon, canonA, canonC, List.map_cons, List.map_nil, List.modify_zero_cons, List.modify_succ_cons, AM.part, List.drop_zero, List.drop_succ_cons, List.drop_nil, n_fin_tup, n_fin_agg, flatA, flatA.flatD, AM.flatC, List.all_cons, List.all_nil, len_9, h19', h19]
  · have h19' : ¬ ((19 : Int) < (t.length : Int)) := by omega
    obtain ⟨m, z, h1, h2⟩ := whole_loop (l := t) (by omega) hN hT hL t.length 0 0 rfl (by omega) (by omega)
    simp only [Int.natCast_zero, List.drop_zero] at h1 h2
    by_cases h1' : 1 < t.length ∧ t.head? = some 48
    · rw [if_pos (.inr h1')]
      cases t with
      | nil => simp at h1'
      | cons c r =>
        have hc : c = 48 := by simpa using h1'.2
        subst hc
        have hl1 : (1 : Int) < (((48 : UInt8) :: r).length : Int) := by omega
        have hix := ix0_9 48 r .i64
        simp only [show ((48 : UInt8).toNat : Int) = 48 from rfl] at hix
        generalize (48 : UInt8) :: r = t at *
        simp [S37, canon_v, canon_sl, canon_clo, canon_ptr, need_refl, elems_sl, sf_v, sf_sl, sf_ptr, sf_ptrh, sf_clo, sf_dead, sf_nil, sf_full, sf_fr, need_true, ibeq, beq_ba, nbeq, nble, nblt, AM.nth, List.getD_cons_succ, List.getD_cons_zero, Option.bind_some, Option.bind_none, Option.map_some, onBool, AM.onG, onFn, seqK, retK, Ex.outOf, cond_true, cond_false, bin_lss, bin_leq, bin_gtr, bin_geq, bin_eql, bin_neq, bin_add, bin_sub, bin_mul, un_not, str_eql, str_neq, app_push, load_fp, AM.ownPut, AM.cellsOf, AM.shift, aPick, beq_true, okSz, List.length_cons, List.length_nil, Nat.zero_add, Nat.add_zero, Nat.reduceAdd, decide_true, decide_false, Bool.and_true, Bool.true_and, Bool.and_self, Bool.not_true, Bool.not_false, List.getElem?_cons_zero, List.getElem?_cons_succ, List.nil_append, List.cons_append, max_int, min_int, modify_concat, part1, List.take_succ_cons, List.take_left, List.take_zero, List.take_nil, app_stk, app_tk, app_lp, set_stk, set_tk, set_lp, set_set, n_load, n_load0, n_old, n_store, n_store0, n_store_old, n_leave, n_leave0, n_fin_v, n_fin_sl, n_fin_u, n_back, n_next, n_blk, n_blk0, n_set, n_set0, n_set_old, bs_size, bs_inj, mk_bs, noPan, onRet, hN, hT, hL, List.toList_toArray, aNilCheck, AM.aExtract, canon, canonA, canonC, List.map_cons, List.map_nil, List.modify_zero_cons, List.modify_succ_cons, AM.part, List.drop_zero, List.drop_succ_cons, List.drop_nil, n_fin_tup, n_fin_agg, flatA, flatA.flatD, AM.flatC, List.all_cons, List.all_nil, len_9, h19', hl1, hix]
    · rw [if_neg (by rw [not_or]; exact ⟨h19, h1'⟩)]
      have key : S37 (E L) itE (str t) (st.app [] [] []) = ((itE (S37.b0 (E L) itE N Lb) [str t, .v (.int .u64 0), .v (.bool false), .v (.int .u64 0), .v (.int .i64 0)] (st.app [] [] [])).bind fun r28 =>
          seqK (Ex.outOf 0 r28.1) ((aBin Tryd.prog true .lss 33 (AM.nth r28.2.1 3) (.v (.int .u64 9223372036854775808))).bind fun p51 => fin N T Lb [AM.nth r28.2.1 3, p51] r28.2.2) fun x50 => retK x50 (fin N T Lb [AM.nth r28.2.1 1, AM.nth r28.2.1 2] r28.2.2)) := by
        by_cases hl1 : (1 : Int) < (t.length : Int)
        · cases t with
          | nil => simp at hl1
          | cons c r =>
            have hc : ¬ ((c.toNat : Int) = 48) := fun e => h1' ⟨by omega, by rw [List.head?_cons, show c = 48 from UInt8.toNat_inj.1 (by simpa using Int.ofNat_inj.1 e)]⟩
            have hix := ix0_9 c r .i64
            generalize c :: r = t at *
            simp [S37, canon_v, canon_sl, canon_clo, canon_ptr, need_refl, elems_sl, sf_v, sf_sl, sf_ptr, sf_ptrh, sf_clo, sf_dead, sf_nil, sf_full, sf_fr, need_true, ibeq, beq_ba, nbeq, nble, nblt, AM.nth, List.getD_cons_succ, List.getD_cons_zero, Option.bind_some, Option.bind_none, Option.map_some, onBool, AM.onG, onFn, seqK, retK, Ex.outOf, cond_true, cond_false, bin_lss, bin_leq, bin_gtr, bin_geq, bin_eql, bin_neq, bin_add, bin_sub, bin_mul, un_not, str_eql, str_neq, app_push, load_fp, AM.ownPut, AM.cellsOf, AM.shift, aPick, beq_true, okSz, List.length_cons, List.length_nil, Nat.zero_add, Nat.add_zero, Nat.reduceAdd, decide_true, decide_false, Bool.and_true, Bool.true_and, Bool.and_self, Bool.not_true, Bool.not_false, List.getElem?_cons_zero, List.getElem?_cons_succ, List.nil_append, List.cons_append, max_int, min_int, modify_concat, part1, List.take_succ_cons, List.take_left, List.take_zero, List.take_nil, app_stk, app_tk, app_lp, set_stk, set_tk, set_lp, set_set, n_load, n_load0, n_old, n_store, n_store0, n_store_old, n_leave, n_leave0, n_fin_v, n_fin_sl, n_fin_u, n_back, n_next, n_blk, n_blk0, n_set, n_set0, n_set_old, bs_size, bs_inj, mk_bs, noPan, onRet, hN, hT, hL, List.toList_toArray, aNilCheck, AM.aExtract, canon, canonA, canonC, List.map_cons, List.map_nil, List.modify_zero_cons, List.modify_succ_cons, AM.part, List.drop_zero, List.drop_succ_cons, List.drop_nil, n_fin_tup, n_fin_agg, flatA, flatA.flatD, AM.flatC, List.all_cons, List.all_nil, len_9, h19', hl1, hix, hc]
        · simp [S37, canon_v, canon_sl, canon_clo, canon_ptr, need_refl, elems_sl, sf_v, sf_sl, sf_ptr, sf_ptrh, sf_clo, sf_dead, sf_nil, sf_full, sf_fr, need_true, ibeq, beq_ba, nbeq, nble, nblt, AM.nth, List.getD_cons_succ, List.getD_cons_zero, Option.bind_some, Option.bind_none, Option.map_some, onBool, AM.onG, onFn, seqK, retK, Ex.outOf, cond_true, cond_false, bin_lss, bin_leq, bin_gtr, bin_geq, bin_eql, bin_neq, bin_add, bin_sub, bin_mul, un_not, str_eql, str_neq, app_push, load_fp, AM.ownPut, AM.cellsOf, AM.shift, aPick, beq_true, okSz, List.length_cons, List.length_nil, Nat.zero_add, Nat.add_zero, Nat.reduceAdd, decide_true, decide_false, Bool.and_true, Bool.true_and, Bool.and_self, Bool.not_true, Bool.not_false, List.getElem?_cons_zero, List.getElem?_cons_succ, List.nil_append, List.cons_append, max_int, min_int, modify_concat, part1, List.take_succ_cons, List.take_left, List.take_zero, List.take_nil, app_stk, app_tk, app_lp, set_stk, set_tk, set_lp, set_set, n_load, n_load0, n_old, n_store, n_store0, n_store_old, n_leave, n_leave0, n_fin_v, n_fin_sl, n_fin_u, n_back, n_next, n_blk, n_blk0, n_set, n_set0, n_set_old, bs_size, bs_inj, mk_bs, noPan, onRet, hN, hT, hL, List.toList_toArray, aNilCheck, AM.aExtract, canon, canonA, canonC, List.map_cons, List.map_nil, List.modify_zero_cons, List.modify_succ_cons, AM.part, List.drop_zero, List.drop_succ_cons, List.drop_nil, n_fin_tup, n_fin_agg, flatA, flatA.flatD, AM.flatC, List.all_cons, List.all_nil, len_9, h19', hl1]
      rw [key]
      cases hw : wh t 0 with
      | none =>
        rw [hw] at h1
        simp [canon_v, canon_sl, canon_clo, canon_ptr, need_refl, elems_sl, sf_v, sf_sl, sf_ptr, sf_ptrh, sf_clo, sf_dead, sf_nil, sf_full, sf_fr, need_true, ibeq, beq_ba, nbeq, nble, nblt, AM.nth, List.getD_cons_succ, List.getD_cons_zero, Option.bind_some, Option.bind_none, Option.map_some, onBool, AM.onG, onFn, seqK, retK, Ex.outOf, cond_true, cond_false, bin_lss, bin_leq, bin_gtr, bin_geq, bin_eql, bin_neq, bin_add, bin_sub, bin_mul, un_not, str_eql, str_neq, app_push, load_fp, AM.ownPut, AM.cellsOf, AM.shift, aPick, beq_true, okSz, List.length_cons, List.length_nil, Nat.zero_add, Nat.add_zero, Nat.reduceAdd, decide_true, decide_false, Bool.and_true, Bool.true_and, Bool.and_self, Bool.not_true, Bool.not_false, List.getElem?_cons_zero, List.getElem?_cons_succ, List.nil_append, List.cons_append, max_int, min_int, modify_concat, part1, List.take_succ_cons, List.take_left, List.take_zero, List.take_nil, app_stk, app_tk, app_lp, set_stk, set_tk, set_lp, set_set, n_load, n_load0, n_old, n_store, n_store0, n_store_old, n_leave, n_leave0, n_fin_v, n_fin_sl, n_fin_u, n_back, n_next, n_blk, n_blk0, n_set, n_set0, n_set_old, bs_size, bs_inj, mk_bs, noPan, onRet, hN, hT, hL, List.toList_toArray, aNilCheck, AM.aExtract, canon, canonA, canonC, List.map_cons, List.map_nil, List.modify_zero_cons, List.modify_succ_cons, AM.part, List.drop_zero, List.drop_succ_cons, List.drop_nil, n_fin_tup, n_fin_agg, flatA, flatA.flatD, AM.flatC, List.all_cons, List.all_nil, h1]
      | some v =>
        obtain ⟨rfl, hv⟩ := h2 v hw
        rw [hw] at h1
        have hd : decide ((v : Int) < 9223372036854775808) = decide (v < 9223372036854775808) := by rw [decide_eq_decide]; omega
        simp [canon_v, canon_sl, canon_clo, canon_ptr, need_refl, elems_sl, sf_v, sf_sl, sf_ptr, sf_ptrh, sf_clo, sf_dead, sf_nil, sf_full, sf_fr, need_true, ibeq, beq_ba, nbeq, nble, nblt, AM.nth, List.getD_cons_succ, List.getD_cons_zero, Option.bind_some, Option.bind_none, Option.map_some, onBool, AM.onG, onFn, seqK, retK, Ex.outOf, cond_true, cond_false, bin_lss, bin_leq, bin_gtr, bin_geq, bin_eql, bin_neq, bin_add, bin_sub, bin_mul, un_not, str_eql, str_neq, app_push, load_fp, AM.ownPut, AM.cellsOf, AM.shift, aPick, beq_true, okSz, List.length_cons, List.length_nil, Nat.zero_add, Nat.add_zero, Nat.reduceAdd, decide_true, decide_false, Bool.and_true, Bool.true_and, Bool.and_self, Bool.not_true, Bool.not_false, List.getElem?_cons_zero, List.getElem?_cons_succ, List.nil_append, List.cons_append, max_int, min_int, modify_concat, part1, List.take_succ_cons, List.take_left, List.take_zero, List.take_nil, app_stk, app_tk, app_lp, set_stk, set_tk, set_lp, set_set, n_load, n_load0, n_old, n_store, n_store0, n_store_old, n_leave, n_leave0, n_fin_v, n_fin_sl, n_fin_u, n_back, n_next, n_blk, n_blk0, n_set, n_set0, n_set_old, bs_size, bs_inj, mk_bs, noPan, onRet, hN, hT, hL, List.toList_toArray, aNilCheck, AM.aExtract, canon, canonA, canonC, List.map_cons, List.map_nil, List.modify_zero_cons, List.modify_succ_cons, AM.part, List.drop_zero, List.drop_succ_cons, List.drop_nil, n_fin_tup, n_fin_agg, flatA, flatA.flatD, AM.flatC, List.all_cons, List.all_nil, h1, hd]

def bt : List UInt8 → Nat → Option Nat
  | [], n => some n
  | c :: t, n => if digB c then bt t ((16 * n + (c.toNat - 48)) % 18446744073709551616) else if 97 ≤ c.toNat ∧ c.toNat ≤ 102 then bt t ((16 * n + (c.toNat - 87)) % 18446744073709551616) else none
/-- The number of sixteen hexadecimal digits; false: they are none. -/
def bitsR (t : List UInt8) : Nat × Bool := match bt t 0 with
  | some n => (n, decide (t.length = 16))
  | none => (0, false)
theorem bits_loop {l : List UInt8} (hlen : l.length < 4611686018427387904) {X : St} {N T Lb : Nat} (hN : X.stk.length = N) (hT : X.tk.length = T) (hL : X.lp.length = Lb) : ∀ (k i n : Nat), l.length - i = k → i ≤ l.length → n < 18446744073709551616 →
    ∃ (m : Nat) (z : PV), itE (S35.b0 (E L) itE N Lb) [str l, .v (.int .u64 0), .v (.bool false), .v (.int .u64 (n : Int)), .v (.int .i64 (i : Int))] (X.app [] [] []) = some (match bt (l.drop i) n with | some _ => .exit 0 | none => .ret, [str l, .v (.int .u64 0), .v (.bool false), .v (.int .u64 (m : Int)), z], X.app [] [] []) ∧
      (∀ v, bt (l.drop i) n = some v → m = v) := by
  intro k
  induction k with
  | zero =>
    intro i n hk hi hn
    obtain rfl : i = l.length := by omega
    refine ⟨n, .v (.int .i64 (l.length : Int)), ?_, ?_⟩
    · rw [List.drop_length]
      apply it_exit
      simp [S35.b0, canon_v, canon_sl, canon_clo, canon_ptr, need_refl, elems_sl, sf_v, sf_sl, sf_ptr, sf_ptrh, sf_clo, sf_dead, sf_nil, sf_full, sf_fr, need_true, ibeq, beq_ba, nbeq, nble, nblt, AM.nth, List.getD_cons_succ, List.getD_cons_zero, Option.bind_some, Option.bind_none, Option.map_some, onBool, AM.onG, onFn, seqK, retK, Ex.outOf, cond_true, cond_false, bin_lss, bin_leq, bin_gtr, bin_geq, bin_eql, bin_neq, bin_add, bin_sub, bin_mul, un_not, str_eql, str_neq, app_push, load_fp, AM.ownPut, AM.cellsOf, AM.shift, aPick, beq_true, okSz, List.length_cons, List.length_nil, Nat.zero_add, Nat.add_zero, Nat.reduceAdd, decide_true, decide_false, Bool.and_true, Bool.true_and, Bool.and_self, Bool.not_true, Bool.not_false, List.getElem?_cons_zero, List.getElem?_cons_succ, List.nil_append, List.cons_append, max_int, min_int, modify_concat, part1, List.take_succ_cons, List.take_left, List.take_zero, List.take_nil, app_stk, app_tk, app_lp, set_stk, set_tk, set_lp, set_set, n_load, n_load0, n_old, n_store, n_store0, n_store_old, n_leave, n_leave0, n_fin_v, n_fin_sl, n_fin_u, n_back, n_next, n_blk, n_blk0, n_set, n_set0, n_set_old, bs_size, bs_inj, mk_bs, noPan, onRet, hN, hT, hL, List.toList_toArray, aNilCheck, AM.aExtract, canon, canonA, canonC, List.map_cons, List.map_nil, List.modify_zero_cons, List.modify_succ_cons, AM.part, List.drop_zero, List.drop_succ_cons, List.drop_nil, n_fin_tup, n_fin_agg, flatA, flatA.flatD, AM.flatC, List.all_cons, List.all_nil, len_9]
    · rw [List.drop_length]
      intro v hv
      exact Option.some.inj hv
  | succ k ih =>
    intro i n hk hi hn
    have hlt : i < l.length := by omega
    have hlt' : (i : Int) < (l.length : Int) := by omega
    have hx := ix_9 (l := l) .i64 hlt
    have w1 : IntKind.i64.wrap ((i : Int) + 1) = (i : Int) + 1 := IntWalk.i64_in _ (by omega)
    rw [drop_cons hlt]
    generalize l[i] = c at *
    have clt := c.toNat_lt
    unfold bt
    cases hd : digB c with
    | true =>
      have hd' := (digB_iff c).1 hd
      rw [if_pos rfl]
      obtain ⟨m, z, h1, h2⟩ := ih (i + 1) ((16 * n + (c.toNat - 48)) % 18446744073709551616) (by omega) (by omega) (Nat.mod_lt _ (by omega))
      refine ⟨m, z, ?_, h2⟩
      have wb : IntKind.u8.wrap ((c.toNat : Int) - 48) = (c.toNat : Int) - 48 := IntWalk.u8_in _ (by omega)
      have wc : IntKind.u64.wrap ((c.toNat : Int) - 48) = (c.toNat : Int) - 48 := IntWalk.u64_in _ (by omega)
      have wd : IntKind.u64.wrap (IntKind.u64.wrap (16 * (n : Int)) + ((c.toNat : Int) - 48)) = (((16 * n + (c.toNat - 48)) % 18446744073709551616 : Nat) : Int) := by rw [wrapU64, wrapU64]; omega
      rw [it_step (vs' := [str l, .v (.int .u64 0), .v (.bool false), .v (.int .u64 (((16 * n + (c.toNat - 48)) % 18446744073709551616 : Nat) : Int)), .v (.int .i64 ((i + 1 : Nat) : Int))]) (st' := X.app [] [] [])]
      · exact h1
      · generalize (16 * n + (c.toNat - 48)) % 18446744073709551616 = nn at wd ⊢
        simp [S35.b0, canon_v, canon_sl, canon_clo, canon_ptr, need_refl, elems_sl, sf_v, sf_sl, sf_ptr, sf_ptrh, sf_clo, sf_dead, sf_nil, sf_full, sf_fr, need_true, ibeq, beq_ba, nbeq, nble, nblt, AM.nth, List.getD_cons_succ, List.getD_cons_zero, Option.bind_some, Option.bind_none, Option.map_some, onBool, AM.onG, onFn, seqK, retK, Ex.outOf, cond_true, cond_false, bin_lss, bin_leq, bin_gtr, bin_geq, bin_eql, bin_neq, bin_add, bin_sub, bin_mul, un_not, str_eql, str_neq, app_push, load_fp, AM.ownPut, AM.cellsOf, AM.shift, aPick, beq_true, okSz, List.length_cons, List.length_nil, Nat.zero_add, Nat.add_zero, Nat.reduceAdd, decide_true, decide_false, Bool.and_true, Bool.true_and, Bool.and_self, Bool.not_true, Bool.not_false, List.getElem?_cons_zero, List.getElem?_cons_succ, List.nil_append, List.cons_append, max_int, min_int, modify_concat, part1, List.take_succ_cons, List.take_left, List.take_zero, List.take_nil, app_stk, app_tk, app_lp, set_stk, set_tk, set_lp, set_set, n_load, n_load0, n_old, n_store, n_store0, n_store_old, n_leave, n_leave0, n_fin_v, n_fin_sl, n_fin_u, n_back, n_next, n_blk, n_blk0, n_set, n_set0, n_set_old, bs_size, bs_inj, mk_bs, noPan, onRet, hN, hT, hL, List.toList_toArray, aNilCheck, AM.aExtract, canon, canonA, canonC, List.map_cons, List.map_nil, List.modify_zero_cons, List.modify_succ_cons, AM.part, List.drop_zero, List.drop_succ_cons, List.drop_nil, n_fin_tup, n_fin_agg, flatA, flatA.flatD, AM.flatC, List.all_cons, List.all_nil, len_9, hlt', hx, F24_b, hd, w1, wb, wc, wd, conv_5_33]
    | false =>
      rw [if_neg (by simp)]
      by_cases hh : 97 ≤ c.toNat ∧ c.toNat ≤ 102
      · have j1 : (97 : Int) ≤ (c.toNat : Int) := by omega
        have j2 : (c.toNat : Int) ≤ 102 := by omega
        rw [if_pos hh]
        obtain ⟨m, z, h1, h2⟩ := ih (i + 1) ((16 * n + (c.toNat - 87)) % 18446744073709551616) (by omega) (by omega) (Nat.mod_lt _ (by omega))
        refine ⟨m, z, ?_, h2⟩
        have wb : IntKind.u8.wrap ((c.toNat : Int) - 97) = (c.toNat : Int) - 97 := IntWalk.u8_in _ (by omega)
        have wc : IntKind.u64.wrap ((c.toNat : Int) - 97) = (c.toNat : Int) - 97 := IntWalk.u64_in _ (by omega)
        have wd : IntKind.u64.wrap (IntKind.u64.wrap (IntKind.u64.wrap (16 * (n : Int)) + ((c.toNat : Int) - 97)) + 10) = (((16 * n + (c.toNat - 87)) % 18446744073709551616 : Nat) : Int) := by rw [wrapU64, wrapU64, wrapU64]; omega
        rw [it_step (vs' := [str l, .v (.int .u64 0), .v (.bool false), .v (.int .u64 (((16 * n + (c.toNat - 87)) % 18446744073709551616 : Nat) : Int)), .v (.int .i64 ((i + 1 : Nat) : Int))]) (st' := X.app [] [] [])]
        · exact h1
        · generalize (16 * n + (c.toNat - 87)) % 18446744073709551616 = nn at wd ⊢
          simp [S35.b0, canon_v, canon_sl, canon_clo, canon_ptr, need_refl, elems_sl, sf_v, sf_sl, sf_ptr, sf_ptrh, sf_clo, sf_dead, sf_nil, sf_full, sf_fr, need_true, ibeq, beq_ba, nbeq, nble, nblt, AM.nth, List.getD_cons_succ, List.getD_cons_zero, Option.bind_some, Option.bind_none, Option.map_some, onBool, AM.onG, onFn, seqK, retK, Ex.outOf, cond_true, cond_false, bin_lss, bin_leq, bin_gtr, bin_geq, bin_eql, bin_neq, bin_add, bin_sub, bin_mul, un_not, str_eql, str_neq, app_push, load_fp, AM.ownPut, AM.cellsOf, AM.shift, aPick, beq_true, okSz, List.length_cons, List.length_nil, Nat.zero_add, Nat.add_zero, Nat.reduceAdd, decide_true, decide_false, Bool.and_true, Bool.true_and, Bool.and_self, Bool.not_true, Bool.not_false, List.getElem?_cons_zero, List.getElem?_cons_succ, List.nil_append, List.cons_append, max_int, min_int, modify_concat, part1, List.take_succ_cons, List.take_left, List.take_zero, List.take_nil, app_stk, app_tk, app_lp, set_stk, set_tk, set_lp, set_set, n_load, n_load0, n_old, n_store, n_store0, n_store_old, n_leave, n_leave0, n_fin_v, n_fin_sl, n_fin_u, n_back, n_next, n_blk, n_blk0, n_set, n_set0, n_set_old, bs_size, bs_inj, mk_bs, noPan, onRet, hN, hT, hL, List.toList_toArray, aNilCheck, AM.aExtract, canon, canonA, canonC, List.map_cons, List.map_nil, List.modify_zero_cons, List.modify_succ_cons, AM.part, List.drop_zero, List.drop_succ_cons, List.drop_nil, n_fin_tup, n_fin_agg, flatA, flatA.flatD, AM.flatC, List.all_cons, List.all_nil, len_9, hlt', hx, F24_b, hd, w1, j1, j2, wb, wc, wd, conv_5_33]
      · rw [if_neg hh]
        refine ⟨n, .v (.int .i64 (i : Int)), ?_, by intro v hv; cases hv⟩
        apply it_ret
        by_cases j1 : (97 : Int) ≤ (c.toNat : Int)
        · have j2 : ¬ ((c.toNat : Int) ≤ 102) := by omega
          simp [S35.b0, canon_v, canon_sl, canon_clo, canon_ptr, need_refl, elems_sl, sf_v, sf_sl, sf_ptr, sf_ptrh, sf_clo, sf_dead, sf_nil, sf_full, sf_fr, need_true, ibeq, beq_ba, nbeq, nble, nblt, AM.nth, List.getD_cons_succ, List.getD_cons_zero, Option.bind_some, Option.bind_none, Option.map_some, onBool, AM.onG, onFn, seqK, retK, Ex.outOf, cond_true, cond_false, bin_lss, bin_leq, bin_gtr, bin_geq, bin_eql, bin_neq, bin_add, bin_sub, bin_mul, un_not, str_eql, str_neq, app_push, load_fp, AM.ownPut, AM.cellsOf, AM.shift, aPick, beq_true, okSz, List.length_cons, List.length_nil, Nat.zero_add, Nat.add_zero, Nat.reduceAdd, decide_true, decide_false, Bool.and_true, Bool.true_and, Bool.and_self, Bool.not_true, Bool.not_false, List.getElem?_cons_zero, List.getElem?_cons_succ, List.nil_append, List.cons_append, max_int, min_int, modify_concat, part1, List.take_succ_cons, List.take_left, List.take_zero, List.take_nil, app_stk, app_tk, app_lp, set_stk, set_tk, set_lp, set_set, n_load, n_load0, n_old, n_store, n_store0, n_store_old, n_leave, n_leave0, n_fin_v, n_fin_sl, n_fin_u, n_back, n_next, n_blk, n_blk0, n_set, n_set0, n_set_old, bs_size, bs_inj, mk_bs, noPan, onRet, hN, hT, hL, List.toList_toArray, aNilCheck, AM.aExtract, canon, canonA, canonC, List.map_cons, List.map_nil, List.modify_zero_cons, List.modify_succ_cons, AM.part, List.drop_zero, List.drop_succ_cons, List.drop_nil, n_fin_tup, n_fin_agg, flatA, flatA.flatD, AM.flatC, List.all_cons, List.all_nil, len_9, hlt', hx, F24_b, hd, j1, j2]
        · simp [S35.b0, canon_v, canon_sl, canon_clo, canon_ptr, need_refl, elems_sl, sf_v, sf_sl, sf_ptr, sf_ptrh, sf_clo, sf_dead, sf_nil, sf_full, sf_fr, need_true, ibeq, beq_ba, nbeq, nble, nblt, AM.nth, List.getD_cons_succ, List.getD_cons_zero, Option.bind_some, Option.bind_none, Option.map_some, onBool, AM.onG, onFn, seqK, retK, Ex.outOf, cond_true, cond_false, bin_lss, bin_leq, bin_gtr, bin_geq, bin_eql, bin_neq, bin_add, bin_sub, bin_mul, un_not, str_eql, str_neq, app_push, load_fp, AM.ownPut, AM.cellsOf, AM.shift, aPick, beq_true, okSz, List.length_cons, List.length_nil, Nat.zero_add, Nat.add_zero, Nat.reduceAdd, decide_true, decide_false, Bool.and_true, Bool.true_and, Bool.and_self, Bool.not_true, Bool.not_false, List.getElem?_cons_zero, List.getElem?_cons_succ, List.nil_append, List.cons_append, max_int, min_int, modify_concat, part1, List.take_succ_cons, List.take_left, List.take_zero, List.take_nil, app_stk, app_tk, app_lp, set_stk, set_tk, set_lp, set_set, n_load, n_load0, n_old, n_store, n_store0, n_store_old, n_leave, n_leave0, n_fin_v, n_fin_sl, n_fin_u, n_back, n_next, n_blk, n_blk0, n_set, n_set0, n_set_old, bs_size, bs_inj, mk_bs, noPan, onRet, hN, hT, hL, List.toList_toArray, aNilCheck, AM.aExtract, canon, canonA, canonC, List.map_cons, List.map_nil, List.modify_zero_cons, List.modify_succ_cons, AM.part, List.drop_zero, List.drop_succ_cons, List.drop_nil, n_fin_tup, n_fin_agg, flatA, flatA.flatD, AM.flatC, List.all_cons, List.all_nil, len_9, hlt', hx, F24_b, hd, j1]
theorem F35_ev {t : List UInt8} (ht : t.length < 4611686018427387904) (st : St) : E L (.func 35) [str t] st = some (.tup [.v (.int .u64 ((bitsR t).1 : Int)), .v (.bool (bitsR t).2)], st) := by
  rw [S35_eq]
  obtain ⟨N, hN⟩ : ∃ q, st.stk.length = q := ⟨_, rfl⟩
  obtain ⟨T, hT⟩ : ∃ q, st.tk.length = q := ⟨_, rfl⟩
  obtain ⟨Lb, hL⟩ : ∃ q, st.lp.length = q := ⟨_, rfl⟩
  conv => lhs; rw [← app_nil (st)]
  unfold bitsR
  obtain ⟨m, z, h1, h2⟩ := bits_loop (l := t) (by omega) hN hT hL t.length 0 0 rfl (by omega) (by omega)
  simp only [Int.natCast_zero, List.drop_zero] at h1 h2
  cases hw : bt t 0 with
  | none =>
    rw [hw] at h1
    simp [S35, canon_v, canon_sl, canon_clo, canon_ptr, need_refl, elems_sl, sf_v, sf_sl, sf_ptr, sf_ptrh, sf_clo, sf_dead, sf_nil, sf_full, sf_fr, need_true, ibeq, beq_ba, nbeq, nble, nblt, AM.nth, List.getD_cons_succ, List.getD_cons_zero, Option.bind_some, Option.bind_none, Option.map_some, onBool, AM.onG, onFn, seqK, retK, Ex.outOf, cond_true, cond_false, bin_lss, bin_leq, bin_gtr, bin_geq, bin_eql, bin_neq, bin_add, bin_sub, bin_mul, un_not, str_eql, str_neq, app_push, load_fp, AM.ownPut, AM.cellsOf, AM.shift, aPick, beq_true, okSz, List.length_cons, List.length_nil, Nat.zero_add, Nat.add_zero, Nat.reduceAdd, decide_true, decide_false, Bool.and_true, Bool.true_and, Bool.and_self, Bool.not_true, Bool.not_false, List.getElem?_cons_zero, List.getElem?_cons_succ, List.nil_append, List.cons_append, max_int, min_int, modify_concat, part1, List.take_succ_cons, List.take_left, List.take_zero, List.take_nil, app_stk, app_tk, app_lp, set_stk, set_tk, set_lp, set_set, n_load, n_load0, n_old, n_store, n_store0, n_store_old, n_leave, n_leave0, n_fin_v, n_fin_sl, n_fin_u, n_back, n_next, n_blk, n_blk0, n_set, n_set0, n_set_old, bs_size, bs_inj, mk_bs, noPan, onRet, hN, hT, hL, List.toList_toArray, aNilCheck, AM.aExtract, canon, canonA, canonC, List.map_cons, List.map_nil, List.modify_zero_cons, List.modify_succ_cons, AM.part, List.drop_zero, List.drop_succ_cons, List.drop_nil, n_fin_tup, n_fin_agg, flatA, flatA.flatD, AM.flatC, List.all_cons, List.all_nil, h1]
  | some v =>
    obtain rfl := h2 v hw
    rw [hw] at h1
    have hd : decide ((t.length : Int) = 16) = decide (t.length = 16) := by rw [decide_eq_decide]; omega
    simp [S35, canon_v, canon_sl, canon_clo, canon_ptr, need_refl, elems_sl, sf_v, sf_sl, sf_ptr, sf_ptrh, sf_clo, sf_dead, sf_nil, sf_full, sf_fr, need_true, ibeq, beq_ba, nbeq, nble, nblt, AM.nth, List.getD_cons_succ, List.getD_cons_zero, Option.bind_some, Option.bind_none, Option.map_some, onBool, AM.onG, onFn, seqK, retK, Ex.outOf, cond_true, cond_false, bin_lss, bin_leq, bin_gtr, bin_geq, bin_eql, bin_neq, bin_add, bin_sub, bin_mul, un_not, str_eql, str_neq, app_push, load_fp, AM.ownPut, AM.cellsOf, AM.shift, aPick, beq_true, okSz, List.length_cons, List.length_nil, Nat.zero_add, Nat.add_zero, Nat.reduceAdd, decide_true, decide_false, Bool.and_true, Bool.true_and, Bool.and_self, Bool.not_true, Bool.not_false, List.getElem?_cons_zero, List.getElem?_cons_succ, List.nil_append, List.cons_append, max_int, min_int, modify_concat, part1, List.take_succ_cons, List.take_left, List.take_zero, List.take_nil, app_stk, app_tk, app_lp, set_stk, set_tk, set_lp, set_set, n_load, n_load0, n_old, n_store, n_store0, n_store_old, n_leave, n_leave0, n_fin_v, n_fin_sl, n_fin_u, n_back, n_next, n_blk, n_blk0, n_set, n_set0, n_set_old, bs_size, bs_inj, mk_bs, noPan, onRet, hN, hT, hL, List.toList_toArray, aNilCheck, AM.aExtract, canon, canonA, canonC, List.map_cons, List.map_nil, List.modify_zero_cons, List.modify_succ_cons, AM.part, List.drop_zero, List.drop_succ_cons, List.drop_nil, n_fin_tup, n_fin_agg, flatA, flatA.flatD, AM.flatC, List.all_cons, List.all_nil, h1, len_9, hd]
end Go.Proofs.YtbbaalimilcppaaDoor.S
