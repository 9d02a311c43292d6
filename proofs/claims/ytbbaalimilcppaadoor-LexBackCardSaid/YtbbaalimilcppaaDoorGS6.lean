/- The lexer: the reference's signs and tokens. No condition. -/
import Derived.Test.YtbbaalimilcppaaDoorGS5
import Derived.Test.YtbbaalimilcppaaDoorRows
import Derived.WalkKit
import Derived.ProofKit
import Derived.LaidMore
import Derived.LaidLaws
import Derived.MakeChecks
import Derived.Stop.Joined
import Derived.Stop.LaidErr
import Derived.Lib.LaidTab
import Derived.OpenShut
import Derived.ShutString
import Derived.ChangeOld
import Derived.Below
import Derived.SizedLaws
import Derived.DataOpen
import Derived.ChangeSlices
set_option linter.all false
namespace Go.Proofs.YtbbaalimilcppaaDoor.S
open Go Go.AM Go.Proofs
set_option linter.unusedVariables false
set_option linter.unusedSimpArgs false
def signsL : List (List UInt8) := [[61, 61], [33, 61], [60, 61], [123], [125], [40], [41], [91], [93], [59], [58], [44], [46], [61], [60], [43], [45], [42], [47], [37]]
def signT (rest : List UInt8) : List UInt8 := (signsL.find? fun x => x.isPrefixOf rest).getD []
theorem sign_loop {l : List UInt8} {at_ : Nat} (hat : at_ ≤ l.length) (hlen : l.length < 4611686018427387904) {ws : List (List UInt8)} (hw : ws.length < 1000) (hws : ∀ w ∈ ws, w.length ≤ 2) {X : St} {N T Lb : Nat} (hN : X.stk.length = N) (hT : X.tk.length = T) (hL : X.lp.length = Lb) : ∀ (suf pre : List (List UInt8)), ws = pre ++ suf →
    ∃ e y z, itE (S36.b0 (E L) itE N Lb) [str l, .v (.int .i64 (at_ : Int)), str [], .sl (ws.map strC) .full, .v (.int .i64 (ws.length : Int)), .v (.int .i64 (pre.length : Int))] (X.app [] [] []) = some (e, [str l, .v (.int .i64 (at_ : Int)), y, .sl (ws.map strC) .full, .v (.int .i64 (ws.length : Int)), z], X.app [] [] []) ∧
      (match suf.find? (fun x => x.isPrefixOf (l.drop at_)) with | some x => e = .ret ∧ y = str x | none => e = .exit 0) := by
  intro suf
  induction suf with
  | nil =>
    intro pre h
    have h : ws = pre := by simpa using h
    subst h
    refine ⟨.exit 0, str [], .v (.int .i64 (ws.length : Int)), ?_, rfl⟩
    apply it_exit
    simp [S36.b0, canon_v, canon_sl, canon_clo, canon_ptr, need_refl, elems_sl, sf_v, sf_sl, sf_ptr, sf_ptrh, sf_clo, sf_dead, sf_nil, sf_full, sf_fr, need_true, ibeq, beq_ba, nbeq, nble, nblt, AM.nth, List.getD_cons_succ, List.getD_cons_zero, Option.bind_some, Option.bind_none, Option.map_some, onBool, AM.onG, onFn, seqK, retK, Ex.outOf, cond_true, cond_false, bin_lss, bin_leq, bin_gtr, bin_geq, bin_eql, bin_neq, bin_add, bin_sub, bin_mul, un_not, str_eql, str_neq, app_push, load_fp, AM.ownPut, AM.cellsOf, AM.shift, aPick, beq_true, okSz, List.length_cons, List.length_nil, Nat.zero_add, Nat.add_zero, Nat.reduceAdd, decide_true, decide_false, Bool.and_true, Bool.true_and, Bool.and_self, Bool.not_true, Bool.not_false, List.getElem?_cons_zero, List.getElem?_cons_succ, List.nil_append, List.cons_append, max_int, min_int, modify_concat, part1, List.take_succ_cons, List.take_left, List.take_zero, List.take_nil, app_stk, app_tk, app_lp, set_stk, set_tk, set_lp, set_set, n_load, n_load0, n_old, n_store, n_store0, n_store_old, n_leave, n_leave0, n_fin_v, n_fin_sl, n_fin_u, n_back, n_next, n_blk, n_blk0, n_set, n_set0, n_set_old, bs_size, bs_inj, mk_bs, noPan, onRet, hN, hT, hL, List.toList_toArray, aNilCheck, AM.aExtract, canon, canonA, canonC, List.map_cons, List.map_nil, List.modify_zero_cons, List.modify_succ_cons, AM.part, List.drop_zero, List.drop_succ_cons, List.drop_nil, n_fin_tup, n_fin_agg, flatA, flatA.flatD, AM.flatC, List.all_cons, List.all_nil]
  | cons w suf ih =>
    intro pre h
    have h' : ws = (pre ++ [w]) ++ suf := by simp [h]
    have hlt : pre.length < ws.length := by rw [h]; simp
    have hg : ws[pre.length] = w := by simp [h]
    have hx := ia50 (ws := ws) (c := .full) .i64 hlt
    rw [hg] at hx
    have hwl := hws w (by rw [h]; simp)
    have hlt' : (pre.length : Int) < (ws.length : Int) := by omega
    have w1 : IntKind.i64.wrap ((pre.length : Int) + 1) = (pre.length : Int) + 1 := IntWalk.i64_in _ (by omega)
    have w2 : IntKind.i64.wrap ((at_ : Int) + (w.length : Int)) = ((at_ + w.length : Nat) : Int) := by rw [IntWalk.i64_in _ (by omega)]; omega
    have step : w.isPrefixOf (l.drop at_) = false → ∃ e y z, itE (S36.b0 (E L) itE N Lb) [str l, .v (.int .i64 (at_ : Int)), str [], .sl (ws.map strC) .full, .v (.int .i64 (ws.length : Int)), .v (.int .i64 ((pre ++ [w]).length : Int))] (X.app [] [] []) = some (e, [str l, .v (.int .i64 (at_ : Int)), y, .sl (ws.map strC) .full, .v (.int .i64 (ws.length : Int)), z], X.app [] [] []) ∧
        (match (w :: suf).find? (fun x => x.isPrefixOf (l.drop at_)) with | some x => e = .ret ∧ y = str x | none => e = .exit 0) := by
      intro hp
      obtain ⟨e, y, z, h1, h2⟩ := ih (pre ++ [w]) h'
      exact ⟨e, y, z, h1, by rw [List.find?_cons, hp]; exact h2⟩
    by_cases hle : at_ + w.length ≤ l.length
    · have hle' : ((at_ + w.length : Nat) : Int) ≤ (l.length : Int) := by omega
      have hsl := slc_9 (l := l) .i64 .i64 (show at_ ≤ at_ + w.length by omega) hle
      have hpe : w.isPrefixOf (l.drop at_) = decide ((l.take (at_ + w.length)).drop at_ = w) := by
        rw [Bool.eq_iff_iff, List.isPrefixOf_iff_prefix, decide_eq_true_eq, List.prefix_iff_eq_take, List.drop_take, show at_ + w.length - at_ = w.length by omega]
        exact eq_comm
      generalize (l.take (at_ + w.length)).drop at_ = pc at *
      generalize at_ + w.length = hi at *
      by_cases hp : pc = w
      · subst hp
        refine ⟨.ret, str pc, .v (.int .i64 (pre.length : Int)), ?_, ?_⟩
        · apply it_ret
          simp [S36.b0, canon_v, canon_sl, canon_clo, canon_ptr, need_refl, elems_sl, sf_v, sf_sl, sf_ptr, sf_ptrh, sf_clo, sf_dead, sf_nil, sf_full, sf_fr, need_true, ibeq, beq_ba, nbeq, nble, nblt, AM.nth, List.getD_cons_succ, List.getD_cons_zero, Option.bind_some, Option.bind_none, Option.map_some, onBool, AM.onG, onFn, seqK, retK, Ex.outOf, cond_true, cond_false, bin_lss, bin_leq, bin_gtr, bin_geq, bin_eql, bin_neq, bin_add, bin_sub, bin_mul, un_not, str_eql, str_neq, app_push, load_fp, AM.ownPut, AM.cellsOf, AM.shift, aPick, beq_true, okSz, List.length_cons, List.length_nil, Nat.zero_add, Nat.add_zero, Nat.reduceAdd, decide_true, decide_false, Bool.and_true, Bool.true_and, Bool.and_self, Bool.not_true, Bool.not_false, List.getElem?_cons_zero, List.getElem?_cons_succ, List.nil_append, List.cons_append, max_int, min_int, modify_concat, part1, List.take_succ_cons, List.take_left, List.take_zero, List.take_nil, app_stk, app_tk, app_lp, set_stk, set_tk, set_lp, set_set, n_load, n_load0, n_old, n_store, n_store0, n_store_old, n_leave, n_leave0, n_fin_v, n_fin_sl, n_fin_u, n_back, n_next, n_blk, n_blk0, n_set, n_set0, n_set_old, bs_size, bs_inj, mk_bs, noPan, onRet, hN, hT, hL, List.toList_toArray, aNilCheck, AM.aExtract, canon, canonA, canonC, List.map_cons, List.map_nil, List.modify_zero_cons, List.modify_succ_cons, AM.part, List.drop_zero, List.drop_succ_cons, List.drop_nil, n_fin_tup, n_fin_agg, flatA, flatA.flatD, AM.flatC, List.all_cons, List.all_nil, hlt', hx, strC, len_9, w1, w2, hle', hsl]
        · rw [List.find?_cons, hpe, decide_eq_true rfl]; exact ⟨rfl, rfl⟩
      · obtain ⟨e, y, z, h1, h2⟩ := step (by rw [hpe]; exact decide_eq_false hp)
        refine ⟨e, y, z, ?_, h2⟩
        rw [it_step (vs' := [str l, .v (.int .i64 (at_ : Int)), str [], .sl (ws.map strC) .full, .v (.int .i64 (ws.length : Int)), .v (.int .i64 ((pre ++ [w]).length : Int))]) (st' := X.app [] [] [])]
        · exact h1
        · simp [S36.b0, canon_v, canon_sl, canon_clo, canon_ptr, need_refl, elems_sl, sf_v, sf_sl, sf_ptr, sf_ptrh, sf_clo, sf_dead, sf_nil, sf_full, sf_fr, need_true, ibeq, beq_ba, nbeq, nble, nblt, AM.nth, List.getD_cons_succ, List.getD_cons_zero, Option.bind_some, Option.bind_none, Option.map_some, onBool, AM.onG, onFn, seqK, retK, Ex.outOf, cond_true, cond_false, bin_lss, bin_leq, bin_gtr, bin_geq, bin_eql, bin_neq, bin_add, bin_sub, bin_mul, un_not, str_eql, str_neq, app_push, load_fp, AM.ownPut, AM.cellsOf, AM.shift, aPick, beq_true, okSz, List.length_cons, List.length_nil, Nat.zero_add, Nat.add_zero, Nat.reduceAdd, decide_true, decide_false, Bool.and_true, Bool.true_and, Bool.and_self, Bool.not_true, Bool.not_false, List.getElem?_cons_zero, List.getElem?_cons_succ, List.nil_append, List.cons_append, max_int, min_int, modify_concat, part1, List.take_succ_cons, List.take_left, List.take_zero, List.take_nil, app_stk, app_tk, app_lp, set_stk, set_tk, set_lp, set_set, n_load, n_load0, n_old, n_store, n_store0, n_store_old, n_leave, n_leave0, n_fin_v, n_fin_sl, n_fin_u, n_back, n_next, n_blk, n_blk0, n_set, n_set0, n_set_old, bs_size, bs_inj, mk_bs, noPan, onRet, hN, hT, hL, List.toList_toArray, aNilCheck, AM.aExtract, canon, canonA, canonC, List.map_cons, List.map_nil, List.modify_zero_cons, List.modify_succ_cons, AM.part, List.drop_zero, List.drop_succ_cons, List.drop_nil, n_fin_tup, n_fin_agg, flatA, flatA.flatD, AM.flatC, List.all_cons, List.all_nil, hlt', hx, strC, len_9, w1, w2, hle', hsl, hp]
    · have hle' : ¬ (((at_ + w.length : Nat) : Int) ≤ (l.length : Int)) := by omega
      have hp : w.isPrefixOf (l.drop at_) = false := by
        rw [Bool.eq_false_iff]
        intro hp
        have := (List.isPrefixOf_iff_prefix.1 hp).length_le
        rw [List.length_drop] at this
        omega
      obtain ⟨e, y, z, h1, h2⟩ := step hp
      refine ⟨e, y, z, ?_, h2⟩
      generalize at_ + w.length = hi at *
      rw [it_step (vs' := [str l, .v (.int .i64 (at_ : Int)), str [], .sl (ws.map strC) .full, .v (.int .i64 (ws.length : Int)), .v (.int .i64 ((pre ++ [w]).length : Int))]) (st' := X.app [] [] [])]
      · exact h1
      · simp [S36.b0, canon_v, canon_sl, canon_clo, canon_ptr, need_refl, elems_sl, sf_v, sf_sl, sf_ptr, sf_ptrh, sf_clo, sf_dead, sf_nil, sf_full, sf_fr, need_true, ibeq, beq_ba, nbeq, nble, nblt, AM.nth, List.getD_cons_succ, List.getD_cons_zero, Option.bind_some, Option.bind_none, Option.map_some, onBool, AM.onG, onFn, seqK, retK, Ex.outOf, cond_true, cond_false, bin_lss, bin_leq, bin_gtr, bin_geq, bin_eql, bin_neq, bin_add, bin_sub, bin_mul, un_not, str_eql, str_neq, app_push, load_fp, AM.ownPut, AM.cellsOf, AM.shift, aPick, beq_true, okSz, List.length_cons, List.length_nil, Nat.zero_add, Nat.add_zero, Nat.reduceAdd, decide_true, decide_false, Bool.and_true, Bool.true_and, Bool.and_self, Bool.not_true, Bool.not_false, List.getElem?_cons_zero, List.getElem?_cons_succ, List.nil_append, List.cons_append, max_int, min_int, modify_concat, part1, List.take_succ_cons, List.take_left, List.take_zero, List.take_nil, app_stk, app_tk, app_lp, set_stk, set_tk, set_lp, set_set, n_load, n_load0, n_old, n_store, n_store0, n_store_old, n_leave, n_leave0, n_fin_v, n_fin_sl, n_fin_u, n_back, n_next, n_blk, n_blk0, n_set, n_set0, n_set_old, bs_size, bs_inj, mk_bs, noPan, onRet, hN, hT, hL, List.toList_toArray, aNilCheck, AM.aExtract, canon, canonA, canonC, List.map_cons, List.map_nil, List.modify_zero_cons, List.modify_succ_cons, AM.part, List.drop_zero, List.drop_succ_cons, List.drop_nil, n_fin_tup, n_fin_agg, flatA, flatA.flatD, AM.flatC, List.all_cons, List.all_nil, hlt', hx, strC, len_9, w1, w2, hle']
theorem F36_ev {l : List UInt8} {i : Nat} (hi : i ≤ l.length) (hlen : l.length < 4611686018427387904) (st : St) : E L (.func 36) [str l, .v (.int .i64 (i : Int))] st = some (str (signT (l.drop i)), st) := by
  rw [S36_eq]
  obtain ⟨N, hN⟩ : ∃ q, st.stk.length = q := ⟨_, rfl⟩
  obtain ⟨T, hT⟩ : ∃ q, st.tk.length = q := ⟨_, rfl⟩
  obtain ⟨Lb, hL⟩ : ∃ q, st.lp.length = q := ⟨_, rfl⟩
  conv => lhs; rw [← app_nil (st)]
  obtain ⟨e, y, z, h1, h2⟩ := sign_loop hi hlen (ws := signsL) (by decide) (by decide) hN hT hL signsL [] rfl
  have key : S36 (E L) itE (str l) (.v (.int .i64 (i : Int))) (st.app [] [] []) = (some (PV.sl (signsL.map strC) .full)).bind fun p1 => (aLen Tryd.prog 50 p1).bind fun p2 => (itE (S36.b0 (E L) itE (st.app [] [] []).stk.length (st.app [] [] []).lp.length) [str l, .v (.int .i64 (i : Int)), str [], p1, p2, .v (.int .i64 0)] (st.app [] [] [])).bind fun r3 =>
      seqK (Ex.outOf 0 r3.1) (fin (st.app [] [] []).stk.length (st.app [] [] []).tk.length (st.app [] [] []).lp.length [str []] r3.2.2) fun x43 => retK x43 (fin (st.app [] [] []).stk.length (st.app [] [] []).tk.length (st.app [] [] []).lp.length [AM.nth r3.2.1 2] r3.2.2) := by kernel_rfl
  rw [key]
  have hln : ((signsL.map strC).length : Int) = (signsL.length : Int) := by rw [List.length_map]
  simp only [List.length_nil, Int.natCast_zero] at h1
  unfold signT
  generalize signsL.find? (fun x => x.isPrefixOf (l.drop i)) = q at h2 ⊢
  cases q with
  | none =>
    subst h2
    simp [canon_v, canon_sl, canon_clo, canon_ptr, need_refl, elems_sl, sf_v, sf_sl, sf_ptr, sf_ptrh, sf_clo, sf_dead, sf_nil, sf_full, sf_fr, need_true, ibeq, beq_ba, nbeq, nble, nblt, AM.nth, List.getD_cons_succ, List.getD_cons_zero, Option.bind_some, Option.bind_none, Option.map_some, onBool, AM.onG, onFn, seqK, retK, Ex.outOf, cond_true, cond_false, bin_lss, bin_leq, bin_gtr, bin_geq, bin_eql, bin_neq, bin_add, bin_sub, bin_mul, un_not, str_eql, str_neq, app_push, load_fp, AM.ownPut, AM.cellsOf, AM.shift, aPick, beq_true, okSz, List.length_cons, List.length_nil, Nat.zero_add, Nat.add_zero, Nat.reduceAdd, decide_true, decide_false, Bool.and_true, Bool.true_and, Bool.and_self, Bool.not_true, Bool.not_false, List.getElem?_cons_zero, List.getElem?_cons_succ, List.nil_append, List.cons_append, max_int, min_int, modify_concat, part1, List.take_succ_cons, List.take_left, List.take_zero, List.take_nil, app_stk, app_tk, app_lp, set_stk, set_tk, set_lp, set_set, n_load, n_load0, n_old, n_store, n_store0, n_store_old, n_leave, n_leave0, n_fin_v, n_fin_sl, n_fin_u, n_back, n_next, n_blk, n_blk0, n_set, n_set0, n_set_old, bs_size, bs_inj, mk_bs, noPan, onRet, hN, hT, hL, List.toList_toArray, aNilCheck, AM.aExtract, canon, canonA, canonC, List.map_cons, List.map_nil, List.modify_zero_cons, List.modify_succ_cons, AM.part, List.drop_zero, List.drop_succ_cons, List.drop_nil, n_fin_tup, n_fin_agg, flatA, flatA.flatD, AM.flatC, List.all_cons, List.all_nil, len_50, h1]
  | some x =>
    obtain ⟨rfl, rfl⟩ := h2
    simp [canon_v, canon_sl, canon_clo, canon_ptr, need_refl, elems_sl, sf_v, sf_sl, sf_ptr, sf_ptrh, sf_clo, sf_dead, sf_nil, sf_full, sf_fr, need_true, ibeq, beq_ba, nbeq, nble, nblt, AM.nth, List.getD_cons_succ, List.getD_cons_zero, Option.bind_some, Option.bind_none, Option.map_some, onBool, AM.onG, onFn, seqK, retK, Ex.outOf, cond_true, cond_false, bin_lss, bin_leq, bin_gtr, bin_geq, bin_eql, bin_neq, bin_add, bin_sub, bin_mul, un_not, str_eql, str_neq, app_push, load_fp, AM.ownPut, AM.cellsOf, AM.shift, aPick, beq_true, okSz, List.length_cons, List.length_nil, Nat.zero_add, Nat.add_zero, Nat.reduceAdd, decide_true, decide_false, Bool.and_true, Bool.true_and, Bool.and_self, Bool.not_true, Bool.not_false, List.getElem?_cons_zero, List.getElem?_cons_succ, List.nil_append, List.cons_append, max_int, min_int, modify_concat, part1, List.take_succ_cons, List.take_left, List.take_zero, List.take_nil, app_stk, app_tk, app_lp, set_stk, set_tk, set_lp, set_set, n_load, n_load0, n_old, n_store, n_store0, n_store_old, n_leave, n_leave0, n_fin_v, n_fin_sl, n_fin_u, n_back, n_next, n_blk, n_blk0, n_set, n_set0, n_set_old, bs_size, bs_inj, mk_bs, noPan, onRet, hN, hT, hL, List.toList_toArray, aNilCheck, AM.aExtract, canon, canonA, canonC, List.map_cons, List.map_nil, List.modify_zero_cons, List.modify_succ_cons, AM.part, List.drop_zero, List.drop_succ_cons, List.drop_nil, n_fin_tup, n_fin_agg, flatA, flatA.flatD, AM.flatC, List.all_cons, List.all_nil, len_50, h1]

theorem signT_pre (rest : List UInt8) : signT rest = rest.take (signT rest).length := by
  unfold signT
  cases h : signsL.find? (fun x => x.isPrefixOf rest) with
  | none => simp
  | some x =>
    have := List.find?_some h
    have := List.prefix_iff_eq_take.1 (List.isPrefixOf_iff_prefix.1 this)
    exact this
/-- The reference's token at the beginning: its kind, how long it is, its number. -/
def oneR : List UInt8 → Option (Nat × Nat × Nat)
  | [] => none
  | c :: r =>
    if c = 35 then (if (bitsR (r.take (spanN alnB r))).2 then some (4, spanN alnB r + 1, (bitsR (r.take (spanN alnB r))).1) else none)
    else if spanN alnB (c :: r) = 0 then (if signT (c :: r) = [] then none else some (5, (signT (c :: r)).length, 0))
    else if wordB ((c :: r).take (spanN alnB (c :: r))) then some (2, spanN alnB (c :: r), 0)
    else if nameB ((c :: r).take (spanN alnB (c :: r))) then some (1, spanN alnB (c :: r), 0)
    else if (whole ((c :: r).take (spanN alnB (c :: r)))).2 then some (3, spanN alnB (c :: r), (whole ((c :: r).take (spanN alnB (c :: r)))).1)
    else none
def onePV (rest : List UInt8) (i : Nat) : PV := match oneR rest with
  | some (k, n, v) => .tup [.agg (tokC k (rest.take n) v (0, 0)), .v (.int .i64 ((i + n : Nat) : Int))]
  | none => .tup [.agg (tokC 0 [] 0 (0, 0)), .v (.int .i64 (i : Int))]
theorem F19_ev {l : List UInt8} {i : Nat} (hi : i < l.length) (hlen : l.length < 2147483648) (st : St) : E L (.func 19) [str l, .v (.int .i64 (i : Int))] st = some (onePV (l.drop i) i, st) := by
  rw [S19_eq]
  obtain ⟨N, hN⟩ : ∃ q, st.stk.length = q := ⟨_, rfl⟩
  obtain ⟨T, hT⟩ : ∃ q, st.tk.length = q := ⟨_, rfl⟩
  obtain ⟨Lb, hL⟩ : ∃ q, st.lp.length = q := ⟨_, rfl⟩
  conv => lhs; rw [← app_nil (st)]
  have hix := ix_9 (l := l) .i64 hi
  have w1 : IntKind.i64.wrap ((i : Int) + 1) = ((i + 1 : Nat) : Int) := by rw [IntWalk.i64_in _ (by omega)]; omega
  have e34 : ∀ X, E L (.func 34) [str l, .v (.int .i64 (i : Int))] X = some (.v (.int .i64 ((i + spanN alnB (l.drop i) : Nat) : Int)), X) := F34_ev (by omega) (by omega)
  have e34' : ∀ X, E L (.func 34) [str l, .v (.int .i64 ((i + 1 : Nat) : Int))] X = some (.v (.int .i64 ((i + 1 + spanN alnB (l.drop (i + 1)) : Nat) : Int)), X) := F34_ev (by omega) (by omega)
  have hdr := drop_cons hi
  have sp := spanN_le alnB (l.drop i)
  have sp' := spanN_le alnB (l.drop (i + 1))
  have hs1 := slc_9 (l := l) (lo := i) (hi := i + spanN alnB (l.drop i)) .i64 .i64 (by omega) (by simp only [List.length_drop] at sp; omega)
  have hs2 := slc_9 (l := l) (lo := i + 1) (hi := i + 1 + spanN alnB (l.drop (i + 1))) .i64 .i64 (by omega) (by simp only [List.length_drop] at sp'; omega)
  have hs3 := slc_9 (l := l) (lo := i) (hi := i + 1 + spanN alnB (l.drop (i + 1))) .i64 .i64 (by omega) (by simp only [List.length_drop] at sp'; omega)
  have tk : ∀ n, (l.take (i + n)).drop i = (l.drop i).take n := fun n => by rw [List.drop_take, show i + n - i = n by omega]
  have tk1 : ∀ n, (l.take (i + 1 + n)).drop (i + 1) = (l.drop (i + 1)).take n := fun n => by rw [List.drop_take, show i + 1 + n - (i + 1) = n by omega]
  rw [tk] at hs1
  rw [tk1] at hs2
  rw [show i + 1 + spanN alnB (l.drop (i + 1)) = i + (spanN alnB (l.drop (i + 1)) + 1) by omega, tk] at hs3
  rw [show i + 1 + spanN alnB (l.drop (i + 1)) = i + (spanN alnB (l.drop (i + 1)) + 1) by omega] at hs2 e34'
  have e36 : ∀ X, E L (.func 36) [str l, .v (.int .i64 (i : Int))] X = some (str (signT (l.drop i)), X) := F36_ev (by omega) (by omega)
  have hpre := signT_pre (l.drop i)
  have hsl : (signT (l.drop i)).length ≤ 2147483648 := by
    rw [hpre, List.length_take, List.length_drop]; omega
  unfold onePV
  simp only [hdr] at e34
  rw [hdr] at *
  have hlr : (l.drop (i + 1)).length < 2147483648 := by rw [List.length_drop]; omega
  generalize l[i] = c at *
  generalize l.drop (i + 1) = r at *
  simp only [List.length_cons] at sp
  clear tk tk1 hdr
  rw [oneR]
  by_cases hc : c = 35
  · subst hc
    rw [if_pos rfl]
    simp only [show ((35 : UInt8).toNat : Int) = 35 from rfl] at hix
    have e35 : ∀ X, E L (.func 35) [str (r.take (spanN alnB r))] X = some (.tup [.v (.int .u64 ((bitsR (r.take (spanN alnB r))).1 : Int)), .v (.bool (bitsR (r.take (spanN alnB r))).2)], X) := F35_ev (by rw [List.length_take]; omega)
    simp only [List.take_succ_cons] at hs3
    clear e34 hs1 e36 hpre hsl sp sp'
    generalize spanN alnB r = m at *
    generalize bitsR (r.take m) = q at *
    obtain ⟨v, ok⟩ := q
    generalize hj : i + (m + 1) = j at *
    generalize i + 1 = i1 at *
    cases ok with
    | true =>
      simp [S19, canon_v, canon_sl, canon_clo, canon_ptr, need_refl, elems_sl, sf_v, sf_sl, sf_ptr, sf_ptrh, sf_clo, sf_dead, sf_nil, sf_full, sf_fr, need_true, ibeq, beq_ba, nbeq, nble, nblt, AM.nth, List.getD_cons_succ, List.getD_cons_zero, Option.bind_some, Option.bind_none, Option.map_some, onBool, AM.onG, onFn, seqK, retK, Ex.outOf, cond_true, cond_false, bin_lss, bin_leq, bin_gtr, bin_geq, bin_eql, bin_neq, bin_add, bin_sub, bin_mul, un_not, str_eql, str_neq, app_push, load_fp, AM.ownPut, AM.cellsOf, AM.shift, aPick, beq_true, okSz, List.length_cons, List.length_nil, Nat.zero_add, Nat.add_zero, Nat.reduceAdd, decide_true, decide_false, Bool.and_true, Bool.true_and, Bool.and_self, Bool.not_true, Bool.not_false, List.getElem?_cons_zero, List.getElem?_cons_succ, List.nil_append, List.cons_append, max_int, min_int, modify_concat, part1, List.take_succ_cons, List.take_left, List.take_zero, List.take_nil, app_stk, app_tk, app_lp, set_stk, set_tk, set_lp, set_set, n_load, n_load0, n_old, n_store, n_store0, n_store_old, n_leave, n_leave0, n_fin_v, n_fin_sl, n_fin_u, n_back, n_next, n_blk, n_blk0, n_set, n_set0, n_set_old, bs_size, bs_inj, mk_bs, noPan, onRet, hN, hT, hL, List.toList_toArray, aNilCheck, AM.aExtract, canon, canonA, canonC, List.map_cons, List.map_nil, List.modify_zero_cons, List.modify_succ_cons, AM.part, List.drop_zero, List.drop_succ_cons, List.drop_nil, n_fin_tup, n_fin_agg, flatA, flatA.flatD, AM.flatC, List.all_cons, List.all_nil, hix, w1, e34', hs2, hs3, e35, rBuild, fillP, laid, okCells, tokC]
      omega
    | false => simp [S19, canon_v, canon_sl, canon_clo, canon_ptr, need_refl, elems_sl, sf_v, sf_sl, sf_ptr, sf_ptrh, sf_clo, sf_dead, sf_nil, sf_full, sf_fr, need_true, ibeq, beq_ba, nbeq, nble, nblt, AM.nth, List.getD_cons_succ, List.getD_cons_zero, Option.bind_some, Option.bind_none, Option.map_some, onBool, AM.onG, onFn, seqK, retK, Ex.outOf, cond_true, cond_false, bin_lss, bin_leq, bin_gtr, bin_geq, bin_eql, bin_neq, bin_add, bin_sub, bin_mul, un_not, str_eql, str_neq, app_push, load_fp, AM.ownPut, AM.cellsOf, AM.shift, aPick, beq_true, okSz, List.length_cons, List.length_nil, Nat.zero_add, Nat.add_zero, Nat.reduceAdd, decide_true, decide_false, Bool.and_true, Bool.true_and, Bool.and_self, Bool.not_true, Bool.not_false, List.getElem?_cons_zero, List.getElem?_cons_succ, List.nil_append, List.cons_append, max_int, min_int, modify_concat, part1, List.take_succ_cons, List.take_left, List.take_zero, List.take_nil, app_stk, app_tk, app_lp, set_stk, set_tk, set_lp, set_set, n_load, n_load0, n_old, n_store, n_store0, n_store_old, n_leave, n_leave0, n_fin_v, n_fin_sl, n_fin_u, n_back, n_next, n_blk, n_blk0, n_set, n_set0, n_set_old, bs_size, bs_inj, mk_bs, noPan, onRet, hN, hT, hL, List.toList_toArray, aNilCheck, AM.aExtract, canon, canonA, canonC, List.map_cons, List.map_nil, List.modify_zero_cons, List.modify_succ_cons, AM.part, List.drop_zero, List.drop_succ_cons, List.drop_nil, n_fin_tup, n_fin_agg, flatA, flatA.flatD, AM.flatC, List.all_cons, List.all_nil, hix, w1, e34', hs2, hs3, e35, rBuild, fillP, laid, okCells, tokC]
  · rw [if_neg hc]
    have hc' : ¬ ((c.toNat : Int) = 35) := fun e => hc (UInt8.toNat_inj.1 (by simpa using Int.ofNat_inj.1 e))
    by_cases hz : spanN alnB (c :: r) = 0
    · rw [if_pos hz]
      rw [hz] at e34
      simp only [Nat.add_zero] at e34
      by_cases hsg : signT (c :: r) = []
      · rw [if_pos hsg]
        rw [hsg] at e36
        simp [S19, canon_v, canon_sl, canon_clo, canon_ptr, need_refl, elems_sl, sf_v, sf_sl, sf_ptr, sf_ptrh, sf_clo, sf_dead, sf_nil, sf_full, sf_fr, need_true, ibeq, beq_ba, nbeq, nble, nblt, AM.nth, List.getD_cons_succ, List.getD_cons_zero, Option.bind_some, Option.bind_none, Option.map_some, onBool, AM.onG, onFn, seqK, retK, Ex.outOf, cond_true, cond_false, bin_lss, bin_leq, bin_gtr, bin_geq, bin_eql, bin_neq, bin_add, bin_sub, bin_mul, un_not, str_eql, str_neq, app_push, load_fp, AM.ownPut, AM.cellsOf, AM.shift, aPick, beq_true, okSz, List.length_cons, List.length_nil, Nat.zero_add, Nat.add_zero, Nat.reduceAdd, decide_true, decide_false, Bool.and_true, Bool.true_and, Bool.and_self, Bool.not_true, Bool.not_false, List.getElem?_cons_zero, List.getElem?_cons_succ, List.nil_append, List.cons_append, max_int, min_int, modify_concat, part1, List.take_succ_cons, List.take_left, List.take_zero, List.take_nil, app_stk, app_tk, app_lp, set_stk, set_tk, set_lp, set_set, n_load, n_load0, n_old, n_store, n_store0, n_store_old, n_leave, n_leave0, n_fin_v, n_fin_sl, n_fin_u, n_back, n_next, n_blk, n_blk0, n_set, n_set0, n_set_old, bs_size, bs_inj, mk_bs, noPan, onRet, hN, hT, hL, List.toList_toArray, aNilCheck, AM.aExtract, canon, canonA, canonC, List.map_cons, List.map_nil, List.modify_zero_cons, List.modify_succ_cons, AM.part, List.drop_zero, List.drop_succ_cons, List.drop_nil, n_fin_tup, n_fin_agg, flatA, flatA.flatD, AM.flatC, List.all_cons, List.all_nil, hix, hc', e34, e36, rBuild, fillP, laid, okCells, tokC]
      · rw [if_neg hsg]
        have w3 : IntKind.i64.wrap ((i : Int) + ((signT (c :: r)).length : Int)) = ((i + (signT (c :: r)).length : Nat) : Int) := by rw [IntWalk.i64_in _ (by omega)]; omega
        dsimp only
        rw [← hpre]
        generalize signT (c :: r) = sg at *
        generalize i + sg.length = j at *
        simp [S19, canon_v, canon_sl, canon_clo, canon_ptr, need_refl, elems_sl, sf_v, sf_sl, sf_ptr, sf_ptrh, sf_clo, sf_dead, sf_nil, sf_full, sf_fr, need_true, ibeq, beq_ba, nbeq, nble, nblt, AM.nth, List.getD_cons_succ, List.getD_cons_zero, Option.bind_some, Option.bind_none, Option.map_some, onBool, AM.onG, onFn, seqK, retK, Ex.outOf, cond_true, cond_false, bin_lss, bin_leq, bin_gtr, bin_geq, bin_eql, bin_neq, bin_add, bin_sub, bin_mul, un_not, str_eql, str_neq, app_push, load_fp, AM.ownPut, AM.cellsOf, AM.shift, aPick, beq_true, okSz, List.length_cons, List.length_nil, Nat.zero_add, Nat.add_zero, Nat.reduceAdd, decide_true, decide_false, Bool.and_true, Bool.true_and, Bool.and_self, Bool.not_true, Bool.not_false, List.getElem?_cons_zero, List.getElem?_cons_succ, List.nil_append, List.cons_append, max_int, min_int, modify_concat, part1, List.take_succ_cons, List.take_left, List.take_zero, List.take_nil, app_stk, app_tk, app_lp, set_stk, set_tk, set_lp, set_set, n_load, n_load0, n_old, n_store, n_store0, n_store_old, n_leave, n_leave0, n_fin_v, n_fin_sl, n_fin_u, n_back, n_next, n_blk, n_blk0, n_set, n_set0, n_set_old, bs_size, bs_inj, mk_bs, noPan, onRet, hN, hT, hL, List.toList_toArray, aNilCheck, AM.aExtract, canon, canonA, canonC, List.map_cons, List.map_nil, List.modify_zero_cons, List.modify_succ_cons, AM.part, List.drop_zero, List.drop_succ_cons, List.drop_nil, n_fin_tup, n_fin_agg, flatA, flatA.flatD, AM.flatC, List.all_cons, List.all_nil, hix, hc', e34, e36, hsg, len_9, w3, rBuild, fillP, laid, okCells, tokC]
    · rw [if_neg hz]
      have hne : ¬ (((i + spanN alnB (c :: r) : Nat) : Int) = (i : Int)) := by omega
      have htl : ((c :: r).take (spanN alnB (c :: r))).length < 4611686018427387904 := by rw [List.length_take, List.length_cons]; omega
      have e16 := F16_ev ((c :: r).take (spanN alnB (c :: r)))
      have e15 := F15_ev htl
      have e37 := F37_ev htl
      clear hpre hsl e36
      generalize spanN alnB (c :: r) = m at *
      generalize hj : i + m = j at *
      cases hw : wordB ((c :: r).take m) with
      | true =>
        simp [S19, canon_v, canon_sl, canon_clo, canon_ptr, need_refl, elems_sl, sf_v, sf_sl, sf_ptr, sf_ptrh, sf_clo, sf_dead, sf_nil, sf_full, sf_fr, need_true, ibeq, beq_ba, nbeq, nble, nblt, AM.nth, List.getD_cons_succ, List.getD_cons_zero, Option.bind_some, Option.bind_none, Option.map_some, onBool, AM.onG, onFn, seqK, retK, Ex.outOf, cond_true, cond_false, bin_lss, bin_leq, bin_gtr, bin_geq, bin_eql, bin_neq, bin_add, bin_sub, bin_mul, un_not, str_eql, str_neq, app_push, load_fp, AM.ownPut, AM.cellsOf, AM.shift, aPick, beq_true, okSz, List.length_cons, List.length_nil, Nat.zero_add, Nat.add_zero, Nat.reduceAdd, decide_true, decide_false, Bool.and_true, Bool.true_and, Bool.and_self, Bool.not_true, Bool.not_false, List.getElem?_cons_zero, List.getElem?_cons_succ, List.nil_append, List.cons_append, max_int, min_int, modify_concat, part1, List.take_succ_cons, List.take_left, List.take_zero, List.take_nil, app_stk, app_tk, app_lp, set_stk, set_tk, set_lp, set_set, n_load, n_load0, n_old, n_store, n_store0, n_store_old, n_leave, n_leave0, n_fin_v, n_fin_sl, n_fin_u, n_back, n_next, n_blk, n_blk0, n_set, n_set0, n_set_old, bs_size, bs_inj, mk_bs, noPan, onRet, hN, hT, hL, List.toList_toArray, aNilCheck, AM.aExtract, canon, canonA, canonC, List.map_cons, List.map_nil, List.modify_zero_cons, List.modify_succ_cons, AM.part, List.drop_zero, List.drop_succ_cons, List.drop_nil, n_fin_tup, n_fin_agg, flatA, flatA.flatD, AM.flatC, List.all_cons, List.all_nil, hix, hc', e34, hne, hs1, e16, hw, rBuild, fillP, laid, okCells, tokC]
        omega
      | false =>
        cases hn : nameB ((c :: r).take m) with
        | true =>
          simp [S19, canon_v, canon_sl, canon_clo, canon_ptr, need_refl, elems_sl, sf_v, sf_sl, sf_ptr, sf_ptrh, sf_clo, sf_dead, sf_nil, sf_full, sf_fr, need_true, ibeq, beq_ba, nbeq, nble, nblt, AM.nth, List.getD_cons_succ, List.getD_cons_zero, Option.bind_some, Option.bind_none, Option.map_some, onBool, AM.onG, onFn, seqK, retK, Ex.outOf, cond_true, cond_false, bin_lss, bin_leq, bin_gtr, bin_geq, bin_eql, bin_neq, bin_add, bin_sub, bin_mul, un_not, str_eql, str_neq, app_push, load_fp, AM.ownPut, AM.cellsOf, AM.shift, aPick, beq_true, okSz, List.length_cons, List.length_nil, Nat.zero_add, Nat.add_zero, Nat.reduceAdd, decide_true, decide_false, Bool.and_true, Bool.true_and, Bool.and_self, Bool.not_true, Bool.not_false, List.getElem?_cons_zero, List.getElem?_cons_succ, List.nil_append, List.cons_append, max_int, min_int, modify_concat, part1, List.take_succ_cons, List.take_left, List.take_zero, List.take_nil, app_stk, app_tk, app_lp, set_stk, set_tk, set_lp, set_set, n_load, n_load0, n_old, n_store, n_store0, n_store_old, n_leave, n_leave0, n_fin_v, n_fin_sl, n_fin_u, n_back, n_next, n_blk, n_blk0, n_set, n_set0, n_set_old, bs_size, bs_inj, mk_bs, noPan, onRet, hN, hT, hL, List.toList_toArray, aNilCheck, AM.aExtract, canon, canonA, canonC, List.map_cons, List.map_nil, List.modify_zero_cons, List.modify_succ_cons, AM.part, List.drop_zero, List.drop_succ_cons, List.drop_nil, n_fin_tup, n_fin_agg, flatA, flatA.flatD, AM.flatC, List.all_cons, List.all_nil, hix, hc', e34, hne, hs1, e16, hw, e15, hn, rBuild, fillP, laid, okCells, tokC]
          omega
        | false =>
          generalize whole ((c :: r).take m) = q at *
          obtain ⟨v, ok⟩ := q
          cases ok with
          | true =>
            simp [S19, canon_v, canon_sl, canon_clo, canon_ptr, need_refl, elems_sl, sf_v, sf_sl, sf_ptr, sf_ptrh, sf_clo, sf_dead, sf_nil, sf_full, sf_fr, need_true, ibeq, beq_ba, nbeq, nble, nblt, AM.nth, List.getD_cons_succ, List.getD_cons_zero, Option.bind_some, Option.bind_none, Option.map_some, onBool, AM.onG, onFn, seqK, retK, Ex.outOf, cond_true, cond_false, bin_lss, bin_leq, bin_gtr, bin_geq, bin_eql, bin_neq, bin_add, bin_sub, bin_mul, un_not, str_eql, str_neq, app_push, load_fp, AM.ownPut, AM.cellsOf, AM.shift, aPick, beq_true, okSz, List.length_cons, List.length_nil, Nat.zero_add, Nat.add_zero, Nat.reduceAdd, decide_true, decide_false, Bool.and_true, Bool.true_and, Bool.and_self, Bool.not_true, Bool.not_false, List.getElem?_cons_zero, List.getElem?_cons_succ, List.nil_append, List.cons_append, max_int, min_int, modify_concat, part1, List.take_succ_cons, List.take_left, List.take_zero, List.take_nil, app_stk, app_tk, app_lp, set_stk, set_tk, set_lp, set_set, n_load, n_load0, n_old, n_store, n_store0, n_store_old, n_leave, n_leave0, n_fin_v, n_fin_sl, n_fin_u, n_back, n_next, n_blk, n_blk0, n_set, n_set0, n_set_old, bs_size, bs_inj, mk_bs, noPan, onRet, hN, hT, hL, List.toList_toArray, aNilCheck, AM.aExtract, canon, canonA, canonC, List.map_cons, List.map_nil, List.modify_zero_cons, List.modify_succ_cons, AM.part, List.drop_zero, List.drop_succ_cons, List.drop_nil, n_fin_tup, n_fin_agg, flatA, flatA.flatD, AM.flatC, List.all_cons, List.all_nil, hix, hc', e34, hne, hs1, e16, hw, e15, hn, e37, rBuild, fillP, laid, okCells, tokC]
            omega
          | false => simp [S19, canon_v, canon_sl, canon_clo, canon_ptr, need_refl, elems_sl, sf_v, sf_sl, sf_ptr, sf_ptrh, sf_clo, sf_dead, sf_nil, sf_full, sf_fr, need_true, ibeq, beq_ba, nbeq, nble, nblt, AM.nth, List.getD_cons_succ, List.getD_cons_zero, Option.bind_some, Option.bind_none, Option.map_some, onBool, AM.onG, onFn, seqK, retK, Ex.outOf, cond_true, cond_false, bin_lss, bin_leq, bin_gtr, bin_geq, bin_eql, bin_neq, bin_add, bin_sub, bin_mul, un_not, str_eql, str_neq, app_push, load_fp, AM.ownPut, AM.cellsOf, AM.shift, aPick, beq_true, okSz, List.length_cons, List.length_nil, Nat.zero_add, Nat.add_zero, Nat.reduceAdd, decide_true, decide_false, Bool.and_true, Bool.true_and, Bool.and_self, Bool.not_true, Bool.not_false, List.getElem?_cons_zero, List.getElem?_cons_succ, List.nil_append, List.cons_append, max_int, min_int, modify_concat, part1, List.take_succ_cons, List.take_left, List.take_zero, List.take_nil, app_stk, app_tk, app_lp, set_stk, set_tk, set_lp, set_set, n_load, n_load0, n_old, n_store, n_store0, n_store_old, n_leave, n_leave0, n_fin_v, n_fin_sl, n_fin_u, n_back, n_next, n_blk, n_blk0, n_set, n_set0, n_set_old, bs_size, bs_inj, mk_bs, noPan, onRet, hN, hT, hL, List.toList_toArray, aNilCheck, AM.aExtract, canon, canonA, canonC, List.map_cons, List.map_nil, List.modify_zero_cons, List.modify_succ_cons, AM.part, List.drop_zero, List.drop_succ_cons, List.drop_nil, n_fin_tup, n_fin_agg, flatA, flatA.flatD, AM.flatC, List.all_cons, List.all_nil, hix, hc', e34, hne, hs1, e16, hw, e15, hn, e37, rBuild, fillP, laid, okCells, tokC]
end Go.Proofs.YtbbaalimilcppaaDoor.S

/- The lexer: the code's tokens and the reference's are the same. No condition. -/
namespace Go.Proofs.YtbbaalimilcppaaDoor.S
open Go Go.AM Go.Proofs
set_option linter.unusedVariables false
set_option linter.unusedSimpArgs false
theorem all256 {p : UInt8 → Prop} [DecidablePred p] (h : ∀ n, n < 256 → p (UInt8.ofNat n)) (c : UInt8) : p c := by
  have := h c.toNat c.toNat_lt
  rwa [UInt8.ofNat_toNat] at this
/-! ### signs -/
theorem find_one (c : UInt8) (r : List UInt8) : ∀ xs : List UInt8, ((xs.map fun x => [x]).find? fun x => x.isPrefixOf (c :: r)) = if xs.contains c then some [c] else none
  | [] => rfl
  | x :: xs => by
    rw [List.map_cons, List.find?_cons, find_one c r xs, List.contains_cons]
    by_cases h : x = c
    · subst h; simp [List.isPrefixOf]
    · have h1 : (x == c) = false := by simpa using h
      have h2 : (c == x) = false := by simpa using fun e => h e.symm
      simp [List.isPrefixOf, h1, h2]
theorem signsL_eq : signsL = [61, 61] :: [33, 61] :: [60, 61] :: signs1.map fun x => [x] := rfl
theorem sign_law (c : UInt8) (r : List UInt8) : (signT (c :: r)).length = signN (c :: r) := by
  unfold signT
  rw [signsL_eq, List.find?_cons, List.find?_cons, List.find?_cons, find_one]
  unfold signN
  cases ([61, 61] : List UInt8).isPrefixOf (c :: r) with
  | true => rfl
  | false =>
    cases ([33, 61] : List UInt8).isPrefixOf (c :: r) with
    | true => rfl
    | false =>
      cases ([60, 61] : List UInt8).isPrefixOf (c :: r) with
      | true => rfl
      | false =>
        simp only [Bool.or_self, Bool.false_eq_true, if_false]
        cases signs1.contains c <;> rfl
theorem sign_nil (c : UInt8) (r : List UInt8) : signT (c :: r) = [] ↔ signN (c :: r) = 0 := by
  rw [← sign_law, List.length_eq_zero_iff]

/-! ### bits -/
theorem indexAny_any (cs : List UInt8) : ∀ l : List UInt8, 0 ≤ Lib.indexAny l cs ↔ l.any cs.contains = true
  | [] => by simp [Lib.indexAny]
  | b :: l => by
    have ih := indexAny_any cs l
    have hg := Lib.indexAny_ge cs l
    have e : Lib.indexAny (b :: l) cs = if cs.contains b = true then 0 else if Lib.indexAny l cs = -1 then -1 else Lib.indexAny l cs + 1 := by
      simp only [Lib.indexAny, beq_iff_eq]
    rw [e, List.any_cons]
    cases cs.contains b with
    | true => simp
    | false =>
      rw [if_neg (by simp), Bool.false_or, ← ih]
      by_cases h2 : Lib.indexAny l cs = -1
      · rw [if_pos h2, h2]
      · rw [if_neg h2]; omega
theorem containsAny_any (cs l : List UInt8) : Lib.containsAny l cs = l.any cs.contains := by
  rw [Lib.containsAny, Bool.eq_iff_iff, decide_eq_true_eq]
  exact indexAny_any cs l
def hexB (c : UInt8) : Bool := digB c || (decide (97 ≤ c.toNat) && decide (c.toNat ≤ 102))
theorem hex_digv (c : UInt8) : hexB c = true → digv c < 16 ∧ (digB c = true → digv c = c.toNat - 48) ∧ (digB c = false → digv c = c.toNat - 87 ∧ 97 ≤ c.toNat ∧ c.toNat ≤ 102) := by
  revert c
  refine all256 ?_
  decide +kernel
theorem digv_hex (c : UInt8) : digv c < 16 → hexB c = true ∨ ([65, 66, 67, 68, 69, 70] : List UInt8).contains c = true := by
  revert c
  refine all256 ?_
  decide +kernel
theorem hex_notAF (c : UInt8) : hexB c = true → ([65, 66, 67, 68, 69, 70] : List UInt8).contains c = false := by
  revert c
  refine all256 ?_
  decide +kernel
theorem bt_step {c : UInt8} (h : hexB c = true) (t : List UInt8) (n : Nat) : bt (c :: t) n = bt t ((16 * n + digv c) % 18446744073709551616) := by
  obtain ⟨_, h1, h2⟩ := hex_digv c h
  rw [bt]
  cases hd : digB c with
  | true => rw [if_pos rfl, h1 hd]
  | false =>
    obtain ⟨e, a, b⟩ := h2 hd
    rw [if_neg (by simp), if_pos ⟨a, b⟩, e]
theorem bt_none : ∀ (t : List UInt8) (n : Nat), t.all hexB = false → bt t n = none
  | [], n, h => by cases h
  | c :: t, n, h => by
    cases hc : hexB c with
    | true =>
      rw [List.all_cons, hc, Bool.true_and] at h
      rw [bt_step hc, bt_none t _ h]
    | false =>
      simp only [hexB, Bool.or_eq_false_iff] at hc
      have h2 : ¬ (97 ≤ c.toNat ∧ c.toNat ≤ 102) := by
        rintro ⟨a, b⟩
        have := hc.2
        simp [a, b] at this
      rw [bt, if_neg (by rw [hc.1]; simp), if_neg h2]
theorem pow16 {i : Nat} (h : i ≤ 15) : 16 ^ i ≤ 1152921504606846976 := by
  have : 16 ^ i ≤ 16 ^ 15 := Nat.pow_le_pow_right (by omega) h
  omega
theorem hex_val : ∀ (t : List UInt8) (i n : Nat), t.length + i ≤ 16 → n < 16 ^ i → t.all hexB = true → ∃ v, bt t n = some v ∧ pu 16 1152921504606846976 18446744073709551615 t n = (v, none)
  | [], i, n, _, _, _ => ⟨n, rfl, rfl⟩
  | c :: t, i, n, hl, hn, h => by
    rw [List.all_cons, Bool.and_eq_true] at h
    simp only [List.length_cons] at hl
    have hd := (hex_digv c h.1).1
    have h15 := pow16 (i := i) (by omega)
    have hp : 16 ^ (i + 1) = 16 * 16 ^ i := by rw [Nat.pow_succ, Nat.mul_comm]
    obtain ⟨v, h1, h2⟩ := hex_val t (i + 1) (n * 16 + digv c) (by omega) (by omega) h.2
    refine ⟨v, ?_, ?_⟩
    · rw [bt_step h.1, Nat.mod_eq_of_lt (by omega), Nat.mul_comm]; exact h1
    · rw [pu, if_neg (by omega), if_neg (by omega), if_neg (by omega)]; exact h2
theorem pu_digs {B cut mx : Nat} : ∀ (t : List UInt8) (n : Nat), (pu B cut mx t n).2 = none → ∀ c ∈ t, digv c < B
  | [], n, _, c, hc => by cases hc
  | a :: t, n, h, c, hc => by
    rw [pu] at h
    split at h
    · cases h
    · rename_i hB
      split at h
      · cases h
      · split at h
        · cases h
        · rcases List.mem_cons.1 hc with rfl | hc
          · omega
          · exact pu_digs t _ h c hc
theorem real_law (t : List UInt8) : (bitsR t).2 = realOk t ∧ (realOk t = true → (bitsR t).1 = (pn16 t).1) := by
  unfold bitsR realOk
  rw [containsAny_any, List.any_cons, show ([65, 66, 67, 68, 69, 70] : List UInt8).contains 35 = false from rfl, Bool.false_or]
  by_cases hlen : t.length = 16
  · have hne : t ≠ [] := by rintro rfl; cases hlen
    have e : pn16 t = pu 16 1152921504606846976 18446744073709551615 t 0 := by rw [pn16, puR, if_neg hne]
    cases hh : t.all hexB with
    | true =>
      obtain ⟨v, h1, h2⟩ := hex_val t 0 0 (by omega) (by omega) hh
      have ha : t.any ([65, 66, 67, 68, 69, 70] : List UInt8).contains = false := by
        rw [List.any_eq_false]
        intro c hc
        rw [hex_notAF c (List.all_eq_true.1 hh c hc)]
        simp
      rw [e, h1, h2, ha]
      simp [hlen]
    | false =>
      rw [bt_none t 0 hh]
      have : ((pn16 t).2.isNone && decide (t.length = 16) && !t.any ([65, 66, 67, 68, 69, 70] : List UInt8).contains) = false := by
        cases hp : (pn16 t).2 with
        | some k => rfl
        | none =>
          rw [e] at hp
          have hd := pu_digs t 0 hp
          cases ha : t.any ([65, 66, 67, 68, 69, 70] : List UInt8).contains with
          | true => simp
          | false =>
            exfalso
            have : t.all hexB = true := by
              rw [List.all_eq_true]
              intro c hc
              rcases digv_hex c (hd c hc) with h | h
              · exact h
              · exact absurd h (List.any_eq_false.1 ha c hc)
            rw [this] at hh; cases hh
      rw [this]
      simp
  · have h1 : decide (t.length = 16) = false := by simpa using hlen
    rw [h1]
    cases bt t 0 <;> simp

/-! ### whole numbers -/
theorem dig_digv (c : UInt8) : (digB c = true → digv c = c.toNat - 48 ∧ digv c < 10 ∧ 48 ≤ c.toNat ∧ UInt8.ofNat (48 + (c.toNat - 48)) = c) ∧ (digB c = false → 10 ≤ digv c) := by
  revert c
  refine all256 ?_
  decide +kernel
theorem wh_mono : ∀ (t : List UInt8) (n v : Nat), wh t n = some v → n ≤ v
  | [], n, v, h => by obtain rfl := Option.some.inj h; exact Nat.le_refl _
  | c :: t, n, v, h => by
    rw [wh] at h
    split at h
    · have := wh_mono t _ v h; omega
    · cases h
theorem wh_append (c : UInt8) : ∀ (t : List UInt8) (n : Nat), wh (t ++ [c]) n = (wh t n).bind fun m => if digB c then some (10 * m + (c.toNat - 48)) else none
  | [], n => by simp [wh]
  | a :: t, n => by
    rw [List.cons_append, wh, wh]
    split
    · exact wh_append c t _
    · rfl
theorem pu10 : ∀ (t : List UInt8) (n : Nat), n ≤ 9223372036854775807 → ((pu 10 1844674407370955162 9223372036854775807 t n).2 = none ↔ ∃ v, wh t n = some v ∧ v ≤ 9223372036854775807) ∧ (∀ v, wh t n = some v → v ≤ 9223372036854775807 → (pu 10 1844674407370955162 9223372036854775807 t n).1 = v)
  | [], n, hn => by simp [pu, wh, hn]
  | c :: t, n, hn => by
    rw [pu, wh]
    cases hd : digB c with
    | false =>
      have := (dig_digv c).2 hd
      rw [if_pos this]
      simp
    | true =>
      obtain ⟨e1, e2, e3, _⟩ := (dig_digv c).1 hd
      rw [if_neg (by omega), if_pos rfl]
      have e4 : 10 * n + (c.toNat - 48) = n * 10 + digv c := by omega
      rw [e4]
      by_cases h1 : 1844674407370955162 ≤ n
      · rw [if_pos h1]
        constructor
        · constructor
          · intro h; cases h
          · rintro ⟨v, h2, h3⟩
            have := wh_mono t _ v h2; omega
        · intro v h2 h3
          have := wh_mono t _ v h2; omega
      · rw [if_neg h1]
        by_cases h2 : 9223372036854775807 < n * 10 + digv c
        · rw [if_pos h2]
          constructor
          · constructor
            · intro h; cases h
            · rintro ⟨v, h3, h4⟩
              have := wh_mono t _ v h3; omega
          · intro v h3 h4
            have := wh_mono t _ v h3; omega
        · rw [if_neg h2]
          exact pu10 t _ (by omega)
theorem dec_len : ∀ (k u : Nat), u < 10 ^ (k + 1) → (Lib.decDigits u).length ≤ k + 1
  | 0, u, h => by
    rw [Lib.decDigits, dif_pos (by omega)]; simp
  | k + 1, u, h => by
    rw [Lib.decDigits]
    split
    · simp
    · have hp : 10 ^ (k + 1 + 1) = 10 * 10 ^ (k + 1) := by rw [Nat.pow_succ, Nat.mul_comm]
      have := dec_len k (u / 10) (by omega)
      simp only [List.length_append, List.length_singleton]
      omega
/-- Does a number begin as it has to? -/
def canon0 (t : List UInt8) : Prop := ¬ (1 < t.length ∧ t.head? = some 48)
theorem dec_canon : ∀ u : Nat, canon0 (Lib.decDigits u) ∧ Lib.decDigits u ≠ [] ∧ (1 ≤ u → (Lib.decDigits u).head? ≠ some 48) := by
  intro u
  induction u using Nat.strongRecOn with
  | ind u ih =>
    rw [Lib.decDigits]
    split
    · rename_i h
      refine ⟨by rintro ⟨h, _⟩; simp at h, by simp, fun h1 => ?_⟩
      simp only [List.head?_cons, ne_eq, Option.some.injEq]
      intro e
      have : (UInt8.ofNat (48 + u)).toNat = 48 := by rw [e]; rfl
      rw [UInt8.toNat_ofNat', Nat.mod_eq_of_lt (by omega)] at this
      omega
    · rename_i h
      obtain ⟨h1, h2, h3⟩ := ih (u / 10) (by omega)
      have h4 := h3 (by omega)
      have hh : (Lib.decDigits (u / 10) ++ [UInt8.ofNat (48 + u % 10)]).head? = (Lib.decDigits (u / 10)).head? := by
        cases hq : Lib.decDigits (u / 10) with
        | nil => exact absurd hq h2
        | cons a b => rfl
      refine ⟨?_, by simp, fun _ => ?_⟩
      · rintro ⟨_, h5⟩
        rw [hh] at h5
        exact h4 h5
      · rw [hh]; exact h4
theorem wh_pos {t : List UInt8} (h0 : t ≠ []) (h : t.head? ≠ some 48) {m : Nat} (hw : wh t 0 = some m) : 1 ≤ m := by
  cases t with
  | nil => exact absurd rfl h0
  | cons c t =>
    rw [wh] at hw
    split at hw
    · rename_i hd
      obtain ⟨_, _, h3, h4⟩ := (dig_digv c).1 hd
      have := wh_mono t _ m hw
      have hc : c.toNat ≠ 48 := fun e => h (by rw [List.head?_cons, show c = 48 from UInt8.toNat_inj.1 e])
      omega
    · cases hw
theorem dec_wh : ∀ (k : Nat) (t : List UInt8), t.length = k → t ≠ [] → canon0 t → ∀ v, wh t 0 = some v → Lib.decDigits v = t := by
  intro k
  induction k with
  | zero => intro t hl h0; exact absurd (List.length_eq_zero_iff.1 hl) h0
  | succ k ih =>
    intro t hl h0 hc v hv
    obtain ⟨s, c, rfl⟩ : ∃ s c, t = s ++ [c] := ⟨t.dropLast, t.getLast h0, (List.dropLast_concat_getLast h0).symm⟩
    rw [wh_append] at hv
    obtain ⟨m, hm, hv⟩ := Option.bind_eq_some_iff.1 hv
    split at hv
    · rename_i hd
      obtain ⟨e1, e2, e3, e4⟩ := (dig_digv c).1 hd
      obtain rfl := Option.some.inj hv
      by_cases hs : s = []
      · subst hs
        obtain rfl : m = 0 := (Option.some.inj hm).symm
        rw [Lib.decDigits, dif_pos (by omega)]
        simp only [Nat.mul_zero, Nat.zero_add, e4, List.nil_append]
      · have hsl : 0 < s.length := List.length_pos_iff.2 hs
        have hh : (s ++ [c]).head? = s.head? := by
          cases s with
          | nil => exact absurd rfl hs
          | cons a b => rfl
        have h48 : s.head? ≠ some 48 := fun e => hc ⟨by simp; omega, by rw [hh]; exact e⟩
        have hm1 := wh_pos hs h48 hm
        have := ih s (by simpa using hl) hs (fun h => h48 h.2) m hm
        rw [Lib.decDigits, dif_neg (by omega), show (10 * m + (c.toNat - 48)) / 10 = m by omega, this, show (10 * m + (c.toNat - 48)) % 10 = c.toNat - 48 by omega, e4]
    · cases hv
theorem whole_law {t : List UInt8} (h0 : t ≠ []) : (whole t).2 = ((pn10 t).2.isNone && decide (Lib.decDigits (pn10 t).1 = t)) ∧ ((whole t).2 = true → (whole t).1 = (pn10 t).1) := by
  have e : pn10 t = pu 10 1844674407370955162 9223372036854775807 t 0 := by rw [pn10, puR, if_neg h0]
  obtain ⟨p1, p2⟩ := pu10 t 0 (by omega)
  rw [e]
  unfold whole
  by_cases hc : 1 < t.length ∧ t.head? = some 48
  · rw [if_pos (.inr hc)]
    refine ⟨?_, by simp⟩
    have : ¬ (Lib.decDigits (pu 10 1844674407370955162 9223372036854775807 t 0).1 = t) := fun h => by
      have := (dec_canon (pu 10 1844674407370955162 9223372036854775807 t 0).1).1
      rw [h] at this
      exact this hc
    simp [this]
  · cases hq : (pu 10 1844674407370955162 9223372036854775807 t 0).2 with
    | some k =>
      have hn : ∀ v, wh t 0 = some v → ¬ v < 9223372036854775808 := fun v hv h => by
        have := p1.2 ⟨v, hv, by omega⟩
        rw [hq] at this; cases this
      by_cases h19 : 19 < t.length
      · rw [if_pos (.inl h19)]; simp
      · rw [if_neg (by rw [not_or]; exact ⟨h19, hc⟩)]
        cases hw : wh t 0 with
        | none => simp
        | some v => simp [hn v hw]
    | none =>
      obtain ⟨v, hv, hle⟩ := p1.1 hq
      have hd := dec_wh t.length t rfl h0 hc v hv
      rw [p2 v hv hle, hd]
      have hl : t.length ≤ 19 := by
        have := dec_len 18 v (by omega)
        rw [hd] at this
        exact this
      rw [if_neg (by rw [not_or]; exact ⟨by omega, hc⟩), hv]
      have : v < 9223372036854775808 := by omega
      simp [this]
/-- The code's token and the reference's. -/
theorem one_tok (c : UInt8) (r : List UInt8) : oneR (c :: r) = if (tokR (c :: r)).2.2.2 then some ((tokR (c :: r)).1, (tokR (c :: r)).2.1, (tokR (c :: r)).2.2.1) else none := by
  rw [oneR]
  by_cases hc : c = 35
  · subst hc
    rw [if_pos rfl, tokR_real]
    obtain ⟨h1, h2⟩ := real_law (r.take (spanN alnB r))
    rw [h1]
    dsimp only
    cases ho : realOk (r.take (spanN alnB r)) with
    | true => rw [h2 ho]
    | false => rfl
  · rw [if_neg hc]
    cases ha : alnB c with
    | true =>
      have hp := span_pos (l := r) ha
      rw [if_neg (by omega), tokR_aln ha]
      have h0 : (c :: r).take (spanN alnB (c :: r)) ≠ [] := by
        intro h
        have := congrArg List.length h
        rw [List.length_take] at this
        simp only [List.length_cons, List.length_nil] at this
        omega
      obtain ⟨h1, h2⟩ := whole_law h0
      dsimp only
      generalize (c :: r).take (spanN alnB (c :: r)) = t at *
      generalize spanN alnB (c :: r) = n at *
      unfold wordR
      cases wordB t with
      | true => simp
      | false =>
        cases nameB t with
        | true => simp
        | false =>
          simp only [Bool.false_eq_true, if_false]
          rw [← h1]
          cases hw : (whole t).2 with
          | true => rw [if_pos rfl, h2 hw]; rfl
          | false => rfl
    | false =>
      have hz : spanN alnB (c :: r) = 0 := by rw [spanN_cons, if_neg (by rw [ha]; simp)]
      rw [if_pos hz, tokR_sign ha hc]
      dsimp only
      by_cases hs : signN (c :: r) = 0
      · rw [if_pos ((sign_nil c r).2 hs), hs]; rfl
      · rw [if_neg (fun h => hs ((sign_nil c r).1 h)), sign_law]
        simp [hs]
end Go.Proofs.YtbbaalimilcppaaDoor.S

/- The lexer: the reference's Lex. No condition. -/
namespace Go.Proofs.YtbbaalimilcppaaDoor.S
open Go Go.AM Go.Proofs
set_option linter.unusedVariables false
set_option linter.unusedSimpArgs false
theorem adv_no10 : ∀ (t : List UInt8) (p : Nat × Nat), (∀ c ∈ t, c ≠ 10) → adv t p = (p.1, p.2 + t.length)
  | [], p, _ => rfl
  | c :: t, p, h => by
    rw [adv, if_neg (h c (by simp)), adv_no10 t _ fun c hc => h c (by simp [hc])]
    simp only [List.length_cons, Prod.mk.injEq, true_and]
    omega
theorem alnB_no10 {c : UInt8} (h : alnB c = true) : c ≠ 10 := by
  rintro rfl; revert h; decide
theorem tok_no10 {c : UInt8} {r : List UInt8} (h : (tokR (c :: r)).2.2.2 = true) : ∀ x ∈ (c :: r).take (tokR (c :: r)).2.1, x ≠ 10 := by
  cases ha : alnB c with
  | true =>
    rw [tokR_aln ha]
    intro x hx
    exact alnB_no10 (span_all alnB _ x hx)
  | false =>
    by_cases hc : c = 35
    · subst hc
      rw [tokR_real]
      simp only [List.take_succ_cons]
      intro x hx
      rcases List.mem_cons.1 hx with rfl | hx
      · decide
      · exact alnB_no10 (span_all alnB _ x hx)
    · rw [tokR_sign ha hc]
      dsimp only
      rw [← sign_law, ← signT_pre]
      unfold signT
      cases hf : signsL.find? (fun x => x.isPrefixOf (c :: r)) with
      | none => simp
      | some w =>
        have hw := List.mem_of_find?_eq_some hf
        have key : ∀ w ∈ signsL, ∀ x ∈ w, x ≠ 10 := by decide
        exact key w hw
theorem note_no10 (l : List UInt8) : ∀ x ∈ l.take (spanN nlB l), x ≠ 10 := fun x hx => by
  have := span_all nlB l x hx
  simpa [nlB] using this
theorem blk1_head {c : UInt8} {r : List UInt8} (h : blk1 (c :: r) ≠ 0) (p : Nat × Nat) : adv ((c :: r).take (blk1 (c :: r))) p = if c = 10 then (p.1 + 1, 1) else (p.1, p.2 + blk1 (c :: r)) := by
  rw [blk1] at h ⊢
  split
  · rename_i hp
    have hc : c = 47 := by
      simp only [List.isPrefixOf, Bool.and_eq_true, beq_iff_eq] at hp
      exact hp.1.symm
    rw [if_neg (by subst hc; decide), adv_no10 _ _ (note_no10 _), List.length_take, Nat.min_eq_left (spanN_le _ _)]
  · rename_i hp
    rw [if_neg hp] at h
    split
    · rw [List.take_succ_cons, List.take_zero]
      rfl
    · rename_i hb; rw [if_neg hb] at h; exact absurd rfl h

theorem note_loop {l : List UInt8} (hlen : l.length < 2147483648) {X : St} {N T Lb : Nat} (hN : X.stk.length = N) (hT : X.tk.length = T) (hL : X.lp.length = Lb) (y1 y2 y3 y4 y5 y6 y7 y8 y9 : PV) (tk : List (Nat × Nat)) : ∀ (k i : Nat), l.length - i = k → i ≤ l.length →
    itE (S11.b1 (E L) itE N Lb) [str l, y1, y2, y3, y4, y5, y6, y7, y8, y9, .v (.int .i64 (i : Int))] (X.app [] tk []) = some (.exit 2, [str l, y1, y2, y3, y4, y5, y6, y7, y8, y9, .v (.int .i64 ((i + spanN nlB (l.drop i) : Nat) : Int))], X.app [] tk []) := by
  intro k
  induction k with
  | zero =>
    intro i hk hi
    obtain rfl : i = l.length := by omega
    apply it_exit
    simp [S11.b1, canon_v, canon_sl, canon_clo, canon_ptr, need_refl, elems_sl, sf_v, sf_sl, sf_ptr, sf_ptrh, sf_clo, sf_dead, sf_nil, sf_full, sf_fr, need_true, ibeq, beq_ba, nbeq, nble, nblt, AM.nth, List.getD_cons_succ, List.getD_cons_zero, Option.bind_some, Option.bind_none, Option.map_some, onBool, AM.onG, onFn, seqK, retK, Ex.outOf, cond_true, cond_false, bin_lss, bin_leq, bin_gtr, bin_geq, bin_eql, bin_neq, bin_add, bin_sub, bin_mul, un_not, str_eql, str_neq, app_push, load_fp, AM.ownPut, AM.cellsOf, AM.shift, aPick, beq_true, okSz, List.length_cons, List.length_nil, Nat.zero_add, Nat.add_zero, Nat.reduceAdd, decide_true, decide_false, Bool.and_true, Bool.true_and, Bool.and_self, Bool.not_true, Bool.not_false, List.getElem?_cons_zero, List.getElem?_cons_succ, List.nil_append, List.cons_append, max_int, min_int, modify_concat, part1, List.take_succ_cons, List.take_left, List.take_zero, List.take_nil, app_stk, app_tk, app_lp, set_stk, set_tk, set_lp, set_set, n_load, n_load0, n_old, n_store, n_store0, n_store_old, n_leave, n_leave0, n_fin_v, n_fin_sl, n_fin_u, n_back, n_next, n_blk, n_blk0, n_set, n_set0, n_set_old, bs_size, bs_inj, mk_bs, noPan, onRet, hN, hT, hL, List.toList_toArray, aNilCheck, AM.aExtract, canon, canonA, canonC, List.map_cons, List.map_nil, List.modify_zero_cons, List.modify_succ_cons, AM.part, List.drop_zero, List.drop_succ_cons, List.drop_nil, n_fin_tup, n_fin_agg, flatA, flatA.flatD, AM.flatC, List.all_cons, List.all_nil, len_9, spanN]
  | succ k ih =>
    intro i hk hi
    have hlt : i < l.length := by omega
    have hlt' : (i : Int) < (l.length : Int) := by omega
    have hx := ix_9 (l := l) .i64 hlt
    have w1 : IntKind.i64.wrap ((i : Int) + 1) = (i : Int) + 1 := IntWalk.i64_in _ (by omega)
    rw [drop_cons hlt, spanN_cons]
    generalize l[i] = c at *
    have ih := ih (i + 1) (by omega) (by omega)
    have e : ((c.toNat : Int) = 10) = (c = 10) := u8_eq c 10 (by omega)
    by_cases hc : c = 10
    · rw [if_neg (by simp [nlB, hc])]
      apply it_exit
      simp [S11.b1, canon_v, canon_sl, canon_clo, canon_ptr, need_refl, elems_sl, sf_v, sf_sl, sf_ptr, sf_ptrh, sf_clo, sf_dead, sf_nil, sf_full, sf_fr, need_true, ibeq, beq_ba, nbeq, nble, nblt, AM.nth, List.getD_cons_succ, List.getD_cons_zero, Option.bind_some, Option.bind_none, Option.map_some, onBool, AM.onG, onFn, seqK, retK, Ex.outOf, cond_true, cond_false, bin_lss, bin_leq, bin_gtr, bin_geq, bin_eql, bin_neq, bin_add, bin_sub, bin_mul, un_not, str_eql, str_neq, app_push, load_fp, AM.ownPut, AM.cellsOf, AM.shift, aPick, beq_true, okSz, List.length_cons, List.length_nil, Nat.zero_add, Nat.add_zero, Nat.reduceAdd, decide_true, decide_false, Bool.and_true, Bool.true_and, Bool.and_self, Bool.not_true, Bool.not_false, List.getElem?_cons_zero, List.getElem?_cons_succ, List.nil_append, List.cons_append, max_int, min_int, modify_concat, part1, List.take_succ_cons, List.take_left, List.take_zero, List.take_nil, app_stk, app_tk, app_lp, set_stk, set_tk, set_lp, set_set, n_load, n_load0, n_old, n_store, n_store0, n_store_old, n_leave, n_leave0, n_fin_v, n_fin_sl, n_fin_u, n_back, n_next, n_blk, n_blk0, n_set, n_set0, n_set_old, bs_size, bs_inj, mk_bs, noPan, onRet, hN, hT, hL, List.toList_toArray, aNilCheck, AM.aExtract, canon, canonA, canonC, List.map_cons, List.map_nil, List.modify_zero_cons, List.modify_succ_cons, AM.part, List.drop_zero, List.drop_succ_cons, List.drop_nil, n_fin_tup, n_fin_agg, flatA, flatA.flatD, AM.flatC, List.all_cons, List.all_nil, len_9, hlt', hx, e, hc]
    · rw [if_pos (by simp [nlB, hc]), it_step (vs' := [str l, y1, y2, y3, y4, y5, y6, y7, y8, y9, .v (.int .i64 ((i + 1 : Nat) : Int))]) (st' := X.app [] tk [])]
      · rw [ih, show i + 1 + spanN nlB (l.drop (i + 1)) = i + (spanN nlB (l.drop (i + 1)) + 1) from by omega]
      · simp [S11.b1, canon_v, canon_sl, canon_clo, canon_ptr, need_refl, elems_sl, sf_v, sf_sl, sf_ptr, sf_ptrh, sf_clo, sf_dead, sf_nil, sf_full, sf_fr, need_true, ibeq, beq_ba, nbeq, nble, nblt, AM.nth, List.getD_cons_succ, List.getD_cons_zero, Option.bind_some, Option.bind_none, Option.map_some, onBool, AM.onG, onFn, seqK, retK, Ex.outOf, cond_true, cond_false, bin_lss, bin_leq, bin_gtr, bin_geq, bin_eql, bin_neq, bin_add, bin_sub, bin_mul, un_not, str_eql, str_neq, app_push, load_fp, AM.ownPut, AM.cellsOf, AM.shift, aPick, beq_true, okSz, List.length_cons, List.length_nil, Nat.zero_add, Nat.add_zero, Nat.reduceAdd, decide_true, decide_false, Bool.and_true, Bool.true_and, Bool.and_self, Bool.not_true, Bool.not_false, List.getElem?_cons_zero, List.getElem?_cons_succ, List.nil_append, List.cons_append, max_int, min_int, modify_concat, part1, List.take_succ_cons, List.take_left, List.take_zero, List.take_nil, app_stk, app_tk, app_lp, set_stk, set_tk, set_lp, set_set, n_load, n_load0, n_old, n_store, n_store0, n_store_old, n_leave, n_leave0, n_fin_v, n_fin_sl, n_fin_u, n_back, n_next, n_blk, n_blk0, n_set, n_set0, n_set_old, bs_size, bs_inj, mk_bs, noPan, onRet, hN, hT, hL, List.toList_toArray, aNilCheck, AM.aExtract, canon, canonA, canonC, List.map_cons, List.map_nil, List.modify_zero_cons, List.modify_succ_cons, AM.part, List.drop_zero, List.drop_succ_cons, List.drop_nil, n_fin_tup, n_fin_agg, flatA, flatA.flatD, AM.flatC, List.all_cons, List.all_nil, len_9, hlt', hx, e, hc, w1]

abbrev rV (l : List UInt8) (acc : List Tok) (c : Cap) (p : Nat × Nat) (i : PV) : List PV := [str l, .sl [] .nil, .v (.int .i64 0), .v (.int .i64 0), .v (.int .i64 0), .sl (toksE acc) c, .v (.int .i64 (p.1 : Int)), .v (.int .i64 (p.2 : Int)), i]
section
variable {l : List UInt8} {st : St} {N T Lb : Nat} (hN : st.stk.length = N) (hT : st.tk.length = T) (hL : st.lp.length = Lb) (hlen : l.length < 100000) {i : Nat} {p : Nat × Nat} {acc : List Tok} {c : Cap} {tk : List (Nat × Nat)} (hlt : i < l.length) (h1 : p.1 < 2147483648) (h2 : p.2 < 2147483648) (hsf : ∀ m, c.sf true m = true)
include hN hT hL hlen hlt h1 h2 hsf
set_option maxHeartbeats 1000000 in
theorem ref_blank (h4 : l[i] = 32 ∨ l[i] = 9 ∨ l[i] = 13 ∨ l[i] = 10) :
    S11.b0 (E L) itE N Lb (rV l acc c p (.v (.int .i64 (i : Int)))) (st.app [] tk []) = some (.normal, rV l acc c (if l[i] = 10 then (p.1 + 1, 1) else (p.1, p.2 + 1)) (.v (.int .i64 ((i + 1 : Nat) : Int))), st.app [] tk []) := by
  have hlt' : (i : Int) < (l.length : Int) := by omega
  have hix := ix_9 (l := l) .i64 hlt
  have w1 : IntKind.i64.wrap ((i : Int) + 1) = ((i + 1 : Nat) : Int) := by rw [IntWalk.i64_in _ (by omega)]; omega
  have wl : IntKind.i64.wrap ((p.1 : Int) + 1) = (p.1 : Int) + 1 := IntWalk.i64_in _ (by omega)
  have hw1 : IntKind.i64.wrap ((p.2 : Int) + ((i + 1 : Nat) : Int)) = (p.2 : Int) + ((i + 1 : Nat) : Int) := IntWalk.i64_in _ (by omega)
  have hw2 : IntKind.i64.wrap ((p.2 : Int) + ((i + 1 : Nat) : Int) - (i : Int)) = (p.2 : Int) + 1 := by rw [IntWalk.i64_in _ (by omega)]; omega
  generalize l[i] = a at hix h4 ⊢
  generalize ((i + 1 : Nat) : Int) = j at w1 hw1 hw2 ⊢
  unfold rV
  rcases h4 with rfl | rfl | rfl | rfl
  · simp only [show ((32 : UInt8).toNat : Int) = 32 from rfl] at hix
    simp [S11.b0, canon_v, canon_sl, canon_clo, canon_ptr, need_refl, elems_sl, sf_v, sf_sl, sf_ptr, sf_ptrh, sf_clo, sf_dead, sf_nil, sf_full, sf_fr, need_true, ibeq, beq_ba, nbeq, nble, nblt, AM.nth, List.getD_cons_succ, List.getD_cons_zero, Option.bind_some, Option.bind_none, Option.map_some, onBool, AM.onG, onFn, seqK, retK, Ex.outOf, cond_true, cond_false, bin_lss, bin_leq, bin_gtr, bin_geq, bin_eql, bin_neq, bin_add, bin_sub, bin_mul, un_not, str_eql, str_neq, app_push, load_fp, AM.ownPut, AM.cellsOf, AM.shift, aPick, beq_true, okSz, List.length_cons, List.length_nil, Nat.zero_add, Nat.add_zero, Nat.reduceAdd, decide_true, decide_false, Bool.and_true, Bool.true_and, Bool.and_self, Bool.not_true, Bool.not_false, List.getElem?_cons_zero, List.getElem?_cons_succ, List.nil_append, List.cons_append, max_int, min_int, modify_concat, part1, List.take_succ_cons, List.take_left, List.take_zero, List.take_nil, app_stk, app_tk, app_lp, set_stk, set_tk, set_lp, set_set, n_load, n_load0, n_old, n_store, n_store0, n_store_old, n_leave, n_leave0, n_fin_v, n_fin_sl, n_fin_u, n_back, n_next, n_blk, n_blk0, n_set, n_set0, n_set_old, bs_size, bs_inj, mk_bs, noPan, onRet, hN, hT, hL, List.toList_toArray, aNilCheck, AM.aExtract, canon, canonA, canonC, List.map_cons, List.map_nil, List.modify_zero_cons, List.modify_succ_cons, AM.part, List.drop_zero, List.drop_succ_cons, List.drop_nil, n_fin_tup, n_fin_agg, flatA, flatA.flatD, AM.flatC, List.all_cons, List.all_nil, len_9, hlt', hix, w1, hw1, hw2, hsf, sf_v, isIter]
  · simp only [show ((9 : UInt8).toNat : Int) = 9 from rfl] at hix
    simp [S11.b0, canon_v, canon_sl, canon_clo, canon_ptr, need_refl, elems_sl, sf_v, sf_sl, sf_ptr, sf_ptrh, sf_clo, sf_dead, sf_nil, sf_full, sf_fr, need_true, ibeq, beq_ba, nbeq, nble, nblt, AM.nth, List.getD_cons_succ, List.getD_cons_zero, Option.bind_some, Option.bind_none, Option.map_some, onBool, AM.onG, onFn, seqK, retK, Ex.outOf, cond_true, cond_false, bin_lss, bin_leq, bin_gtr, bin_geq, bin_eql, bin_neq, bin_add, bin_sub, bin_mul, un_not, str_eql, str_neq, app_push, load_fp, AM.ownPut, AM.cellsOf, AM.shift, aPick, beq_true, okSz, List.length_cons, List.length_nil, Nat.zero_add, Nat.add_zero, Nat.reduceAdd, decide_true, decide_false, Bool.and_true, Bool.true_and, Bool.and_self, Bool.not_true, Bool.not_false, List.getElem?_cons_zero, List.getElem?_cons_succ, List.nil_append, List.cons_append, max_int, min_int, modify_concat, part1, List.take_succ_cons, List.take_left, List.take_zero, List.take_nil, app_stk, app_tk, app_lp, set_stk, set_tk, set_lp, set_set, n_load, n_load0, n_old, n_store, n_store0, n_store_old, n_leave, n_leave0, n_fin_v, n_fin_sl, n_fin_u, n_back, n_next, n_blk, n_blk0, n_set, n_set0, n_set_old, bs_size, bs_inj, mk_bs, noPan, onRet, hN, hT, hL, List.toList_toArray, aNilCheck, AM.aExtract, canon, canonA, canonC, List.map_cons, List.map_nil, List.modify_zero_cons, List.modify_succ_cons, AM.part, List.drop_zero, List.drop_succ_cons, List.drop_nil, n_fin_tup, n_fin_agg, flatA, flatA.flatD, AM.flatC, List.all_cons, List.all_nil, len_9, hlt', hix, w1, hw1, hw2, hsf, sf_v, isIter]
  · simp only [show ((13 : UInt8).toNat : Int) = 13 from rfl] at hix
    simp [S11.b0, canon_v, canon_sl, canon_clo, canon_ptr, need_refl, elems_sl, sf_v, sf_sl, sf_ptr, sf_ptrh, sf_clo, sf_dead, sf_nil, sf_full, sf_fr, need_true, ibeq, beq_ba, nbeq, nble, nblt, AM.nth, List.getD_cons_succ, List.getD_cons_zero, Option.bind_some, Option.bind_none, Option.map_some, onBool, AM.onG, onFn, seqK, retK, Ex.outOf, cond_true, cond_false, bin_lss, bin_leq, bin_gtr, bin_geq, bin_eql, bin_neq, bin_add, bin_sub, bin_mul, un_not, str_eql, str_neq, app_push, load_fp, AM.ownPut, AM.cellsOf, AM.shift, aPick, beq_true, okSz, List.length_cons, List.length_nil, Nat.zero_add, Nat.add_zero, Nat.reduceAdd, decide_true, decide_false, Bool.and_true, Bool.true_and, Bool.and_self, Bool.not_true, Bool.not_false, List.getElem?_cons_zero, List.getElem?_cons_succ, List.nil_append, List.cons_append, max_int, min_int, modify_concat, part1, List.take_succ_cons, List.take_left, List.take_zero, List.take_nil, app_stk, app_tk, app_lp, set_stk, set_tk, set_lp, set_set, n_load, n_load0, n_old, n_store, n_store0, n_store_old, n_leave, n_leave0, n_fin_v, n_fin_sl, n_fin_u, n_back, n_next, n_blk, n_blk0, n_set, n_set0, n_set_old, bs_size, bs_inj, mk_bs, noPan, onRet, hN, hT, hL, List.toList_toArray, aNilCheck, AM.aExtract, canon, canonA, canonC, List.map_cons, List.map_nil, List.modify_zero_cons, List.modify_succ_cons, AM.part, List.drop_zero, List.drop_succ_cons, List.drop_nil, n_fin_tup, n_fin_agg, flatA, flatA.flatD, AM.flatC, List.all_cons, List.all_nil, len_9, hlt', hix, w1, hw1, hw2, hsf, sf_v, isIter]
  · simp only [show ((10 : UInt8).toNat : Int) = 10 from rfl] at hix
    simp [S11.b0, canon_v, canon_sl, canon_clo, canon_ptr, need_refl, elems_sl, sf_v, sf_sl, sf_ptr, sf_ptrh, sf_clo, sf_dead, sf_nil, sf_full, sf_fr, need_true, ibeq, beq_ba, nbeq, nble, nblt, AM.nth, List.getD_cons_succ, List.getD_cons_zero, Option.bind_some, Option.bind_none, Option.map_some, onBool, AM.onG, onFn, seqK, retK, Ex.outOf, cond_true, cond_false, bin_lss, bin_leq, bin_gtr, bin_geq, bin_eql, bin_neq, bin_add, bin_sub, bin_mul, un_not, str_eql, str_neq, app_push, load_fp, AM.ownPut, AM.cellsOf, AM.shift, aPick, beq_true, okSz, List.length_cons, List.length_nil, Nat.zero_add, Nat.add_zero, Nat.reduceAdd, decide_true, decide_false, Bool.and_true, Bool.true_and, Bool.and_self, Bool.not_true, Bool.not_false, List.getElem?_cons_zero, List.getElem?_cons_succ, List.nil_append, List.cons_append, max_int, min_int, modify_concat, part1, List.take_succ_cons, List.take_left, List.take_zero, List.take_nil, app_stk, app_tk, app_lp, set_stk, set_tk, set_lp, set_set, n_load, n_load0, n_old, n_store, n_store0, n_store_old, n_leave, n_leave0, n_fin_v, n_fin_sl, n_fin_u, n_back, n_next, n_blk, n_blk0, n_set, n_set0, n_set_old, bs_size, bs_inj, mk_bs, noPan, onRet, hN, hT, hL, List.toList_toArray, aNilCheck, AM.aExtract, canon, canonA, canonC, List.map_cons, List.map_nil, List.modify_zero_cons, List.modify_succ_cons, AM.part, List.drop_zero, List.drop_succ_cons, List.drop_nil, n_fin_tup, n_fin_agg, flatA, flatA.flatD, AM.flatC, List.all_cons, List.all_nil, len_9, hlt', hix, w1, hw1, hw2, wl, hsf, sf_v, isIter]
set_option maxHeartbeats 1000000 in
theorem ref_note (hpre : ([47, 47] : List UInt8).isPrefixOf (l[i] :: l.drop (i + 1)) = true) :
    S11.b0 (E L) itE N Lb (rV l acc c p (.v (.int .i64 (i : Int)))) (st.app [] tk []) = some (.normal, rV l acc c (p.1, p.2 + spanN nlB (l.drop i)) (.v (.int .i64 ((i + spanN nlB (l.drop i) : Nat) : Int))), st.app [] tk []) := by
  have hlt' : (i : Int) < (l.length : Int) := by omega
  have hix := ix_9 (l := l) .i64 hlt
  have hsp := spanN_le nlB (l.drop i)
  rw [List.length_drop] at hsp
  have w1 : IntKind.i64.wrap ((i : Int) + 1) = ((i + 1 : Nat) : Int) := by rw [IntWalk.i64_in _ (by omega)]; omega
  have hw1 : IntKind.i64.wrap ((p.2 : Int) + ((i + spanN nlB (l.drop i) : Nat) : Int)) = (p.2 : Int) + ((i + spanN nlB (l.drop i) : Nat) : Int) := IntWalk.i64_in _ (by omega)
  have hw2 : IntKind.i64.wrap ((p.2 : Int) + ((i + spanN nlB (l.drop i) : Nat) : Int) - (i : Int)) = (p.2 : Int) + (spanN nlB (l.drop i) : Int) := by rw [IntWalk.i64_in _ (by omega)]; omega
  have hpq := List.isPrefixOf_iff_prefix.1 hpre
  have hc : l[i] = 47 := by
    simp only [List.isPrefixOf, Bool.and_eq_true, beq_iff_eq] at hpre
    exact hpre.1.symm
  have hlt2 : i + 1 < l.length := by
    have := hpq.length_le
    simp only [List.length_cons, List.length_drop, List.length_nil] at this
    omega
  have hc2 : l[i + 1] = 47 := by
    rw [drop_cons hlt2] at hpre
    simp only [List.isPrefixOf, Bool.and_eq_true, beq_iff_eq] at hpre
    exact hpre.2.1.symm
  have hix2 := ix_9 (l := l) .i64 hlt2
  have hlt2' : ((i + 1 : Nat) : Int) < (l.length : Int) := by omega
  rw [hc2] at hix2
  rw [hc] at hix
  simp only [show ((47 : UInt8).toNat : Int) = 47 from rfl] at hix hix2
  have hnl := fun y1 y2 y3 y4 y5 y6 y7 y8 y9 => note_loop (l := l) (by omega) hN hT hL y1 y2 y3 y4 y5 y6 y7 y8 y9 tk (l.length - i) i rfl (by omega)
  unfold rV
  generalize spanN nlB (l.drop i) = n at hw1 hw2 hnl ⊢
  generalize ((i + 1 : Nat) : Int) = j at w1 hix2 hlt2'
  generalize ((i + n : Nat) : Int) = jn at hw1 hw2 hnl ⊢
  simp [S11.b0, canon_v, canon_sl, canon_clo, canon_ptr, need_refl, elems_sl, sf_v, sf_sl, sf_ptr, sf_ptrh, sf_clo, sf_dead, sf_nil, sf_full, sf_fr, need_true, ibeq, beq_ba, nbeq, nble, nblt, AM.nth, List.getD_cons_succ, List.getD_cons_zero, Option.bind_some, Option.bind_none, Option.map_some, onBool, AM.onG, onFn, seqK, retK, Ex.outOf, cond_true, cond_false, bin_lss, bin_leq, bin_gtr, bin_geq, bin_eql, bin_neq, bin_add, bin_sub, bin_mul, un_not, str_eql, str_neq, app_push, load_fp, AM.ownPut, AM.cellsOf, AM.shift, aPick, beq_true, okSz, List.length_cons, List.length_nil, Nat.zero_add, Nat.add_zero, Nat.reduceAdd, decide_true, decide_false, Bool.and_true, Bool.true_and, Bool.and_self, Bool.not_true, Bool.not_false, List.getElem?_cons_zero, List.getElem?_cons_succ, List.nil_append, List.cons_append, max_int, min_int, modify_concat, part1, List.take_succ_cons, List.take_left, List.take_zero, List.take_nil, app_stk, app_tk, app_lp, set_stk, set_tk, set_lp, set_set, n_load, n_load0, n_old, n_store, n_store0, n_store_old, n_leave, n_leave0, n_fin_v, n_fin_sl, n_fin_u, n_back, n_next, n_blk, n_blk0, n_set, n_set0, n_set_old, bs_size, bs_inj, mk_bs, noPan, onRet, hN, hT, hL, List.toList_toArray, aNilCheck, AM.aExtract, canon, canonA, canonC, List.map_cons, List.map_nil, List.modify_zero_cons, List.modify_succ_cons, AM.part, List.drop_zero, List.drop_succ_cons, List.drop_nil, n_fin_tup, n_fin_agg, flatA, flatA.flatD, AM.flatC, List.all_cons, List.all_nil, len_9, hlt', hix, w1, hlt2', hix2, hnl, hw1, hw2, hsf, sf_v, isIter]
/-- No blank stands here, and no note. -/
theorem no_blank (hb : blk1 (l.drop i) = 0) : blkB l[i] = false ∧ ∃ q : Bool, (decide ((l[i].toNat : Int) = 47) = true → ((decide (((i + 1 : Nat) : Int) < (l.length : Int)) = false) ∨ ∃ x : UInt8, aIndex Tryd.prog 9 (str l) (.v (.int .i64 ((i + 1 : Nat) : Int))) = some (.v (.int .u8 (x.toNat : Int))) ∧ decide ((x.toNat : Int) = 47) = false)) := by
  rw [drop_cons hlt, blk1] at hb
  have hpre : ([47, 47] : List UInt8).isPrefixOf (l[i] :: l.drop (i + 1)) = false := by
    cases hq : ([47, 47] : List UInt8).isPrefixOf (l[i] :: l.drop (i + 1)) with
    | false => rfl
    | true =>
      have := note_pos hq
      rw [if_pos hq] at hb
      omega
  refine ⟨?_, true, ?_⟩
  · cases hq : blkB l[i] with
    | false => rfl
    | true => rw [if_neg (by rw [hpre]; simp), if_pos hq] at hb; cases hb
  · intro h47
    have hc : l[i] = 47 := (u8_eq l[i] 47 (by omega)).mp (of_decide_eq_true h47)
    by_cases hlt2 : i + 1 < l.length
    · right
      refine ⟨l[i + 1], ix_9 .i64 hlt2, ?_⟩
      rw [drop_cons hlt2, hc] at hpre
      have h2 : ¬ (l[i + 1] = 47) := fun e => by rw [e] at hpre; simp [List.isPrefixOf] at hpre
      have := u8_eq l[i + 1] 47 (by omega)
      simp only [decide_eq_false_iff_not]
      intro e
      exact h2 (this.mp e)
    · left
      simp only [decide_eq_false_iff_not]; omega
set_option maxHeartbeats 1000000 in
theorem ref_tok (hb : blk1 (l.drop i) = 0) {k n v : Nat} (hk : k ≠ 0) (hn : n ≤ (l.drop i).length) (ho : oneR (l.drop i) = some (k, n, v)) {c' : Cap} {tk' : List (Nat × Nat)}
    (ea : ∀ (bl : List Blk) (lp : List Aux) (base : Nat) (z : List PV), rAppend base z 5 48 (.sl (toksE acc) c) [tokC k ((l.drop i).take n) v p] (st.app bl tk lp) = some (.sl (toksE acc ++ [tokC k ((l.drop i).take n) v p]) c', st.app bl tk' lp)) (hsf2 : ∀ m, c'.sf true m = true) :
    S11.b0 (E L) itE N Lb (rV l acc c p (.v (.int .i64 (i : Int)))) (st.app [] tk []) = some (.normal, rV l (acc ++ [⟨k, (l.drop i).take n, v, p⟩]) c' (p.1, p.2 + n) (.v (.int .i64 ((i + n : Nat) : Int))), st.app [] tk' []) := by
  have hlt' : (i : Int) < (l.length : Int) := by omega
  have hix := ix_9 (l := l) .i64 hlt
  rw [List.length_drop] at hn
  have w1 : IntKind.i64.wrap ((i : Int) + 1) = ((i + 1 : Nat) : Int) := by rw [IntWalk.i64_in _ (by omega)]; omega
  have hw1 : IntKind.i64.wrap ((p.2 : Int) + ((i + n : Nat) : Int)) = (p.2 : Int) + ((i + n : Nat) : Int) := IntWalk.i64_in _ (by omega)
  have hw2 : IntKind.i64.wrap ((p.2 : Int) + ((i + n : Nat) : Int) - (i : Int)) = (p.2 : Int) + (n : Int) := by rw [IntWalk.i64_in _ (by omega)]; omega
  obtain ⟨hbl, _, hq⟩ := no_blank hN hT hL hlen hlt h1 h2 hsf hb
  have e19 := F19_ev hlt (by omega)
  rw [onePV, ho] at e19
  have hte : toksE (acc ++ [⟨k, (l.drop i).take n, v, p⟩]) = toksE acc ++ [tokC k ((l.drop i).take n) v p] := toksE_app _ _
  unfold rV
  rw [hte]
  have hk' : ¬ ((k : Int) = 0) := by omega
  have t32 : ¬ ((l[i].toNat : Int) = 32) := fun e => by rw [(u8_eq _ 32 (by omega)).mp e] at hbl; cases hbl
  have t9 : ¬ ((l[i].toNat : Int) = 9) := fun e => by rw [(u8_eq _ 9 (by omega)).mp e] at hbl; cases hbl
  have t10 : ¬ ((l[i].toNat : Int) = 10) := fun e => by rw [(u8_eq _ 10 (by omega)).mp e] at hbl; cases hbl
  have t13 : ¬ ((l[i].toNat : Int) = 13) := fun e => by rw [(u8_eq _ 13 (by omega)).mp e] at hbl; cases hbl
  dsimp only at e19
  simp only [tokC] at e19 ea ⊢
  generalize (l.drop i).take n = t at e19 ea ⊢
  generalize l[i] = a at hix hq t32 t9 t10 t13 ⊢
  generalize ((i + 1 : Nat) : Int) = j at w1 hq
  generalize ((i + n : Nat) : Int) = jn at hw1 hw2 e19 ⊢
  by_cases h47 : (a.toNat : Int) = 47
  · rcases hq (decide_eq_true h47) with h | ⟨x, hx, hx2⟩
    · simp only [decide_eq_false_iff_not] at h
      simp [S11.b0, canon_v, canon_sl, canon_clo, canon_ptr, need_refl, elems_sl, sf_v, sf_sl, sf_ptr, sf_ptrh, sf_clo, sf_dead, sf_nil, sf_full, sf_fr, need_true, ibeq, beq_ba, nbeq, nble, nblt, AM.nth, List.getD_cons_succ, List.getD_cons_zero, Option.bind_some, Option.bind_none, Option.map_some, onBool, AM.onG, onFn, seqK, retK, Ex.outOf, cond_true, cond_false, bin_lss, bin_leq, bin_gtr, bin_geq, bin_eql, bin_neq, bin_add, bin_sub, bin_mul, un_not, str_eql, str_neq, app_push, load_fp, AM.ownPut, AM.cellsOf, AM.shift, aPick, beq_true, okSz, List.length_cons, List.length_nil, Nat.zero_add, Nat.add_zero, Nat.reduceAdd, decide_true, decide_false, Bool.and_true, Bool.true_and, Bool.and_self, Bool.not_true, Bool.not_false, List.getElem?_cons_zero, List.getElem?_cons_succ, List.nil_append, List.cons_append, max_int, min_int, modify_concat, part1, List.take_succ_cons, List.take_left, List.take_zero, List.take_nil, app_stk, app_tk, app_lp, set_stk, set_tk, set_lp, set_set, n_load, n_load0, n_old, n_store, n_store0, n_store_old, n_leave, n_leave0, n_fin_v, n_fin_sl, n_fin_u, n_back, n_next, n_blk, n_blk0, n_set, n_set0, n_set_old, bs_size, bs_inj, mk_bs, noPan, onRet, hN, hT, hL, List.toList_toArray, aNilCheck, AM.aExtract, canon, canonA, canonC, List.map_cons, List.map_nil, List.modify_zero_cons, List.modify_succ_cons, AM.part, List.drop_zero, List.drop_succ_cons, List.drop_nil, n_fin_tup, n_fin_agg, flatA, flatA.flatD, AM.flatC, List.all_cons, List.all_nil, len_9, hlt', hix, t32, t9, t10, t13, h47, w1, h, e19, hk, ea, hw1, hw2, hsf2, sf_v, isIter, laid, okCells, rBuildSlice, rLit, reps, fillP, AM.plainCs, AM.plainC, chunks]
    · simp only [decide_eq_false_iff_not] at hx2
      by_cases h : j < (l.length : Int)
      · simp [S11.b0, canon_v, canon_sl, canon_clo, canon_ptr, need_refl, elems_sl, sf_v, sf_sl, sf_ptr, sf_ptrh, sf_clo, sf_dead, sf_nil, sf_full, sf_fr, need_true, ibeq, beq_ba, nbeq, nble, nblt, AM.nth, List.getD_cons_succ, List.getD_cons_zero, Option.bind_some, Option.bind_none, Option.map_some, onBool, AM.onG, onFn, seqK, retK, Ex.outOf, cond_true, cond_false, bin_lss, bin_leq, bin_gtr, bin_geq, bin_eql, bin_neq, bin_add, bin_sub, bin_mul, un_not, str_eql, str_neq, app_push, load_fp, AM.ownPut, AM.cellsOf, AM.shift, aPick, beq_true, okSz, List.length_cons, List.length_nil, Nat.zero_add, Nat.add_zero, Nat.reduceAdd, decide_true, decide_false, Bool.and_true, Bool.true_and, Bool.and_self, Bool.not_true, Bool.not_false, List.getElem?_cons_zero, List.getElem?_cons_succ, List.nil_append, List.cons_append, max_int, min_int, modify_concat, part1, List.take_succ_cons, List.take_left, List.take_zero, List.take_nil, app_stk, app_tk, app_lp, set_stk, set_tk, set_lp, set_set, n_load, n_load0, n_old, n_store, n_store0, n_store_old, n_leave, n_leave0, n_fin_v, n_fin_sl, n_fin_u, n_back, n_next, n_blk, n_blk0, n_set, n_set0, n_set_old, bs_size, bs_inj, mk_bs, noPan, onRet, hN, hT, hL, List.toList_toArray, aNilCheck, AM.aExtract, canon, canonA, canonC, List.map_cons, List.map_nil, List.modify_zero_cons, List.modify_succ_cons, AM.part, List.drop_zero, List.drop_succ_cons, List.drop_nil, n_fin_tup, n_fin_agg, flatA, flatA.flatD, AM.flatC, List.all_cons, List.all_nil, len_9, hlt', hix, t32, t9, t10, t13, h47, w1, h, hx, hx2, e19, hk, ea, hw1, hw2, hsf2, sf_v, isIter, laid, okCells, rBuildSlice, rLit, reps, fillP, AM.plainCs, AM.plainC, chunks]
      · simp [S11.b0, canon_v, canon_sl, canon_clo, canon_ptr, need_refl, elems_sl, sf_v, sf_sl, sf_ptr, sf_ptrh, sf_clo, sf_dead, sf_nil, sf_full, sf_fr, need_true, ibeq, beq_ba, nbeq, nble, nblt, AM.nth, List.getD_cons_succ, List.getD_cons_zero, Option.bind_some, Option.bind_none, Option.map_some, onBool, AM.onG, onFn, seqK, retK, Ex.outOf, cond_true, cond_false, bin_lss, bin_leq, bin_gtr, bin_geq, bin_eql, bin_neq, bin_add, bin_sub, bin_mul, un_not, str_eql, str_neq, app_push, load_fp, AM.ownPut, AM.cellsOf, AM.shift, aPick, beq_true, okSz, List.length_cons, List.length_nil, Nat.zero_add, Nat.add_zero, Nat.reduceAdd, decide_true, decide_false, Bool.and_true, Bool.true_and, Bool.and_self, Bool.not_true, Bool.not_false, List.getElem?_cons_zero, List.getElem?_cons_succ, List.nil_append, List.cons_append, max_int, min_int, modify_concat, part1, List.take_succ_cons, List.take_left, List.take_zero, List.take_nil, app_stk, app_tk, app_lp, set_stk, set_tk, set_lp, set_set, n_load, n_load0, n_old, n_store, n_store0, n_store_old, n_leave, n_leave0, n_fin_v, n_fin_sl, n_fin_u, n_back, n_next, n_blk, n_blk0, n_set, n_set0, n_set_old, bs_size, bs_inj, mk_bs, noPan, onRet, hN, hT, hL, List.toList_toArray, aNilCheck, AM.aExtract, canon, canonA, canonC, List.map_cons, List.map_nil, List.modify_zero_cons, List.modify_succ_cons, AM.part, List.drop_zero, List.drop_succ_cons, List.drop_nil, n_fin_tup, n_fin_agg, flatA, flatA.flatD, AM.flatC, List.all_cons, List.all_nil, len_9, hlt', hix, t32, t9, t10, t13, h47, w1, h, e19, hk, ea, hw1, hw2, hsf2, sf_v, isIter, laid, okCells, rBuildSlice, rLit, reps, fillP, AM.plainCs, AM.plainC, chunks]
  · simp [S11.b0, canon_v, canon_sl, canon_clo, canon_ptr, need_refl, elems_sl, sf_v, sf_sl, sf_ptr, sf_ptrh, sf_clo, sf_dead, sf_nil, sf_full, sf_fr, need_true, ibeq, beq_ba, nbeq, nble, nblt, AM.nth, List.getD_cons_succ, List.getD_cons_zero, Option.bind_some, Option.bind_none, Option.map_some, onBool, AM.onG, onFn, seqK, retK, Ex.outOf, cond_true, cond_false, bin_lss, bin_leq, bin_gtr, bin_geq, bin_eql, bin_neq, bin_add, bin_sub, bin_mul, un_not, str_eql, str_neq, app_push, load_fp, AM.ownPut, AM.cellsOf, AM.shift, aPick, beq_true, okSz, List.length_cons, List.length_nil, Nat.zero_add, Nat.add_zero, Nat.reduceAdd, decide_true, decide_false, Bool.and_true, Bool.true_and, Bool.and_self, Bool.not_true, Bool.not_false, List.getElem?_cons_zero, List.getElem?_cons_succ, List.nil_append, List.cons_append, max_int, min_int, modify_concat, part1, List.take_succ_cons, List.take_left, List.take_zero, List.take_nil, app_stk, app_tk, app_lp, set_stk, set_tk, set_lp, set_set, n_load, n_load0, n_old, n_store, n_store0, n_store_old, n_leave, n_leave0, n_fin_v, n_fin_sl, n_fin_u, n_back, n_next, n_blk, n_blk0, n_set, n_set0, n_set_old, bs_size, bs_inj, mk_bs, noPan, onRet, hN, hT, hL, List.toList_toArray, aNilCheck, AM.aExtract, canon, canonA, canonC, List.map_cons, List.map_nil, List.modify_zero_cons, List.modify_succ_cons, AM.part, List.drop_zero, List.drop_succ_cons, List.drop_nil, n_fin_tup, n_fin_agg, flatA, flatA.flatD, AM.flatC, List.all_cons, List.all_nil, len_9, hlt', hix, t32, t9, t10, t13, h47, e19, hk, ea, hw1, hw2, hsf2, sf_v, isIter, laid, okCells, rBuildSlice, rLit, reps, fillP, AM.plainCs, AM.plainC, chunks]
set_option maxHeartbeats 1000000 in
theorem ref_err (hb : blk1 (l.drop i) = 0) (ho : oneR (l.drop i) = none) : ∃ z5 z6 z7 z8,
    S11.b0 (E L) itE N Lb (rV l acc c p (.v (.int .i64 (i : Int)))) (st.app [] tk []) = some (.ret, [str l, .sl [] .nil, .v (.int .i64 3), .v (.int .i64 (p.1 : Int)), .v (.int .i64 (p.2 : Int)), z5, z6, z7, z8], st.app [] tk []) := by
  have hlt' : (i : Int) < (l.length : Int) := by omega
  have hix := ix_9 (l := l) .i64 hlt
  have w1 : IntKind.i64.wrap ((i : Int) + 1) = ((i + 1 : Nat) : Int) := by rw [IntWalk.i64_in _ (by omega)]; omega
  obtain ⟨hbl, _, hq⟩ := no_blank hN hT hL hlen hlt h1 h2 hsf hb
  have e19 := F19_ev hlt (by omega)
  rw [onePV, ho] at e19
  unfold rV
  have t32 : ¬ ((l[i].toNat : Int) = 32) := fun e => by rw [(u8_eq _ 32 (by omega)).mp e] at hbl; cases hbl
  have t9 : ¬ ((l[i].toNat : Int) = 9) := fun e => by rw [(u8_eq _ 9 (by omega)).mp e] at hbl; cases hbl
  have t10 : ¬ ((l[i].toNat : Int) = 10) := fun e => by rw [(u8_eq _ 10 (by omega)).mp e] at hbl; cases hbl
  have t13 : ¬ ((l[i].toNat : Int) = 13) := fun e => by rw [(u8_eq _ 13 (by omega)).mp e] at hbl; cases hbl
  dsimp only at e19
  simp only [tokC, Int.natCast_zero] at e19
  generalize l[i] = a at hix hq t32 t9 t10 t13 ⊢
  generalize ((i + 1 : Nat) : Int) = j at w1 hq
  refine ⟨.sl (toksE acc) c, .v (.int .i64 (p.1 : Int)), .v (.int .i64 (p.2 : Int)), .v (.int .i64 (i : Int)), ?_⟩
  by_cases h47 : (a.toNat : Int) = 47
  · rcases hq (decide_eq_true h47) with h | ⟨x, hx, hx2⟩
    · simp only [decide_eq_false_iff_not] at h
      simp [S11.b0, canon_v, canon_sl, canon_clo, canon_ptr, need_refl, elems_sl, sf_v, sf_sl, sf_ptr, sf_ptrh, sf_clo, sf_dead, sf_nil, sf_full, sf_fr, need_true, ibeq, beq_ba, nbeq, nble, nblt, AM.nth, List.getD_cons_succ, List.getD_cons_zero, Option.bind_some, Option.bind_none, Option.map_some, onBool, AM.onG, onFn, seqK, retK, Ex.outOf, cond_true, cond_false, bin_lss, bin_leq, bin_gtr, bin_geq, bin_eql, bin_neq, bin_add, bin_sub, bin_mul, un_not, str_eql, str_neq, app_push, load_fp, AM.ownPut, AM.cellsOf, AM.shift, aPick, beq_true, okSz, List.length_cons, List.length_nil, Nat.zero_add, Nat.add_zero, Nat.reduceAdd, decide_true, decide_false, Bool.and_true, Bool.true_and, Bool.and_self, Bool.not_true, Bool.not_false, List.getElem?_cons_zero, List.getElem?_cons_succ, List.nil_append, List.cons_append, max_int, min_int, modify_concat, part1, List.take_succ_cons, List.take_left, List.take_zero, List.take_nil, app_stk, app_tk, app_lp, set_stk, set_tk, set_lp, set_set, n_load, n_load0, n_old, n_store, n_store0, n_store_old, n_leave, n_leave0, n_fin_v, n_fin_sl, n_fin_u, n_back, n_next, n_blk, n_blk0, n_set, n_set0, n_set_old, bs_size, bs_inj, mk_bs, noPan, onRet, hN, hT, hL, List.toList_toArray, aNilCheck, AM.aExtract, canon, canonA, canonC, List.map_cons, List.map_nil, List.modify_zero_cons, List.modify_succ_cons, AM.part, List.drop_zero, List.drop_succ_cons, List.drop_nil, n_fin_tup, n_fin_agg, flatA, flatA.flatD, AM.flatC, List.all_cons, List.all_nil, len_9, hlt', hix, t32, t9, t10, t13, h47, w1, h, e19, hsf, sf_v, isIter, laid, okCells]
    · simp only [decide_eq_false_iff_not] at hx2
      by_cases h : j < (l.length : Int)
      · simp [S11.b0, canon_v, canon_sl, canon_clo, canon_ptr, need_refl, elems_sl, sf_v, sf_sl, sf_ptr, sf_ptrh, sf_clo, sf_dead, sf_nil, sf_full, sf_fr, need_true, ibeq, beq_ba, nbeq, nble, nblt, AM.nth, List.getD_cons_succ, List.getD_cons_zero, Option.bind_some, Option.bind_none, Option.map_some, onBool, AM.onG, onFn, seqK, retK, Ex.outOf, cond_true, cond_false, bin_lss, bin_leq, bin_gtr, bin_geq, bin_eql, bin_neq, bin_add, bin_sub, bin_mul, un_not, str_eql, str_neq, app_push, load_fp, AM.ownPut, AM.cellsOf, AM.shift, aPick, beq_true, okSz, List.length_cons, List.length_nil, Nat.zero_add, Nat.add_zero, Nat.reduceAdd, decide_true, decide_false, Bool.and_true, Bool.true_and, Bool.and_self, Bool.not_true, Bool.not_false, List.getElem?_cons_zero, List.getElem?_cons_succ, List.nil_append, List.cons_append, max_int, min_int, modify_concat, part1, List.take_succ_cons, List.take_left, List.take_zero, List.take_nil, app_stk, app_tk, app_lp, set_stk, set_tk, set_lp, set_set, n_load, n_load0, n_old, n_store, n_store0, n_store_old, n_leave, n_leave0, n_fin_v, n_fin_sl, n_fin_u, n_back, n_next, n_blk, n_blk0, n_set, n_set0, n_set_old, bs_size, bs_inj, mk_bs, noPan, onRet, hN, hT, hL, List.toList_toArray, aNilCheck, AM.aExtract, canon, canonA, canonC, List.map_cons, List.map_nil, List.modify_zero_cons, List.modify_succ_cons, AM.part, List.drop_zero, List.drop_succ_cons, List.drop_nil, n_fin_tup, n_fin_agg, flatA, flatA.flatD, AM.flatC, List.all_cons, List.all_nil, len_9, hlt', hix, t32, t9, t10, t13, h47, w1, h, hx, hx2, e19, hsf, sf_v, isIter, laid, okCells]
      · simp [S11.b0, canon_v, canon_sl, canon_clo, canon_ptr, need_refl, elems_sl, sf_v, sf_sl, sf_ptr, sf_ptrh, sf_clo, sf_dead, sf_nil, sf_full, sf_fr, need_true, ibeq, beq_ba, nbeq, nble, nblt, AM.nth, List.getD_cons_succ, List.getD_cons_zero, Option.bind_some, Option.bind_none, Option.map_some, onBool, AM.onG, onFn, seqK, retK, Ex.outOf, cond_true, cond_false, bin_lss, bin_leq, bin_gtr, bin_geq, bin_eql, bin_neq, bin_add, bin_sub, bin_mul, un_not, str_eql, str_neq, app_push, load_fp, AM.ownPut, AM.cellsOf, AM.shift, aPick, beq_true, okSz, List.length_cons, List.length_nil, Nat.zero_add, Nat.add_zero, Nat.reduceAdd, decide_true, decide_false, Bool.and_true, Bool.true_and, Bool.and_self, Bool.not_true, Bool.not_false, List.getElem?_cons_zero, List.getElem?_cons_succ, List.nil_append, List.cons_append, max_int, min_int, modify_concat, part1, List.take_succ_cons, List.take_left, List.take_zero, List.take_nil, app_stk, app_tk, app_lp, set_stk, set_tk, set_lp, set_set, n_load, n_load0, n_old, n_store, n_store0, n_store_old, n_leave, n_leave0, n_fin_v, n_fin_sl, n_fin_u, n_back, n_next, n_blk, n_blk0, n_set, n_set0, n_set_old, bs_size, bs_inj, mk_bs, noPan, onRet, hN, hT, hL, List.toList_toArray, aNilCheck, AM.aExtract, canon, canonA, canonC, List.map_cons, List.map_nil, List.modify_zero_cons, List.modify_succ_cons, AM.part, List.drop_zero, List.drop_succ_cons, List.drop_nil, n_fin_tup, n_fin_agg, flatA, flatA.flatD, AM.flatC, List.all_cons, List.all_nil, len_9, hlt', hix, t32, t9, t10, t13, h47, w1, h, e19, hsf, sf_v, isIter, laid, okCells]
  · simp [S11.b0, canon_v, canon_sl, canon_clo, canon_ptr, need_refl, elems_sl, sf_v, sf_sl, sf_ptr, sf_ptrh, sf_clo, sf_dead, sf_nil, sf_full, sf_fr, need_true, ibeq, beq_ba, nbeq, nble, nblt, AM.nth, List.getD_cons_succ, List.getD_cons_zero, Option.bind_some, Option.bind_none, Option.map_some, onBool, AM.onG, onFn, seqK, retK, Ex.outOf, cond_true, cond_false, bin_lss, bin_leq, bin_gtr, bin_geq, bin_eql, bin_neq, bin_add, bin_sub, bin_mul, un_not, str_eql, str_neq, app_push, load_fp, AM.ownPut, AM.cellsOf, AM.shift, aPick, beq_true, okSz, List.length_cons, List.length_nil, Nat.zero_add, Nat.add_zero, Nat.reduceAdd, decide_true, decide_false, Bool.and_true, Bool.true_and, Bool.and_self, Bool.not_true, Bool.not_false, List.getElem?_cons_zero, List.getElem?_cons_succ, List.nil_append, List.cons_append, max_int, min_int, modify_concat, part1, List.take_succ_cons, List.take_left, List.take_zero, List.take_nil, app_stk, app_tk, app_lp, set_stk, set_tk, set_lp, set_set, n_load, n_load0, n_old, n_store, n_store0, n_store_old, n_leave, n_leave0, n_fin_v, n_fin_sl, n_fin_u, n_back, n_next, n_blk, n_blk0, n_set, n_set0, n_set_old, bs_size, bs_inj, mk_bs, noPan, onRet, hN, hT, hL, List.toList_toArray, aNilCheck, AM.aExtract, canon, canonA, canonC, List.map_cons, List.map_nil, List.modify_zero_cons, List.modify_succ_cons, AM.part, List.drop_zero, List.drop_succ_cons, List.drop_nil, n_fin_tup, n_fin_agg, flatA, flatA.flatD, AM.flatC, List.all_cons, List.all_nil, len_9, hlt', hix, t32, t9, t10, t13, h47, e19, hsf, sf_v, isIter, laid, okCells]
end
/-- What the reference's loop comes to. -/
def RefLo (l : List UInt8) (st : St) (N Lb : Nat) (i : Nat) (p : Nat × Nat) (acc : List Tok) (c : Cap) (tk : List (Nat × Nat)) : Prop :=
  ∃ x z0 z1 z2 z3 z4 z5 z6 z7 z8 tk', itE (S11.b0 (E L) itE N Lb) [str l, .sl [] .nil, .v (.int .i64 0), .v (.int .i64 0), .v (.int .i64 0), .sl (toksE acc) c, .v (.int .i64 (p.1 : Int)), .v (.int .i64 (p.2 : Int)), .v (.int .i64 (i : Int))] (st.app [] tk []) =
      some (x, [z0, z1, z2, z3, z4, z5, z6, z7, z8], st.app [] tk' []) ∧
    (match lexL (l.drop i) p with
      | .ok ts => x = .exit 0 ∧ ∃ ts' p' c', ts = ts' ++ [⟨0, [], 0, p'⟩] ∧ z5 = .sl (toksE (acc ++ ts')) c' ∧ z6 = .v (.int .i64 (p'.1 : Int)) ∧ z7 = .v (.int .i64 (p'.2 : Int)) ∧ Own st tk' c' (acc ++ ts').length 5 ∧ (acc ++ ts').length < 1000000
      | .err q => x = .ret ∧ z1 = .sl [] .nil ∧ z2 = .v (.int .i64 3) ∧ z3 = .v (.int .i64 (q.1 : Int)) ∧ z4 = .v (.int .i64 (q.2 : Int)))
theorem ref_loop {l : List UInt8} {st : St} {N T Lb : Nat} (hN : st.stk.length = N) (hT : st.tk.length = T) (hL : st.lp.length = Lb) (hlen : l.length < 100000) : ∀ (k i : Nat) (p : Nat × Nat) (acc : List Tok) (c : Cap) (tk : List (Nat × Nat)), l.length - i = k → i ≤ l.length → 1 ≤ p.2 → p.1 + k < 2147483648 → p.2 + k < 2147483648 → acc.length + k < 1000000 → Own st tk c acc.length 5 →
    RefLo l st N Lb i p acc c tk := by
  intro k
  induction k using Nat.strongRecOn with
  | ind k ih =>
  intro i p acc c tk hk hi hp h1 h2 hac ho
  have hsf : ∀ m, c.sf true m = true := fun m => ho.sfc m
  by_cases hlt : i < l.length
  · have hlt' : (i : Int) < (l.length : Int) := by omega
    have hix := ix_9 (l := l) .i64 hlt
    have hdr := drop_cons hlt
    have w1 : IntKind.i64.wrap ((i : Int) + 1) = ((i + 1 : Nat) : Int) := by rw [IntWalk.i64_in _ (by omega)]; omega
    have wl : IntKind.i64.wrap ((p.1 : Int) + 1) = ((p.1 + 1 : Nat) : Int) := by rw [IntWalk.i64_in _ (by omega)]; omega
    have hgo : ∀ n, i + n ≤ l.length → (l.drop i).drop n = l.drop (i + n) := fun n _ => by rw [List.drop_drop]
    have wn : ∀ n : Nat, i + n ≤ l.length → IntKind.i64.wrap ((p.2 : Int) + ((i + n : Nat) : Int)) = (p.2 : Int) + ((i + n : Nat) : Int) ∧ IntKind.i64.wrap ((p.2 : Int) + ((i + n : Nat) : Int) - (i : Int)) = ((p.2 + n : Nat) : Int) := fun n hn => ⟨IntWalk.i64_in _ (by omega), by rw [IntWalk.i64_in _ (by omega)]; omega⟩
    have e32 : ∀ x : UInt8, ((x.toNat : Int) = 32) = (x = 32) := fun x => u8_eq x 32 (by omega)
    have e9 : ∀ x : UInt8, ((x.toNat : Int) = 9) = (x = 9) := fun x => u8_eq x 9 (by omega)
    have e10 : ∀ x : UInt8, ((x.toNat : Int) = 10) = (x = 10) := fun x => u8_eq x 10 (by omega)
    have e13 : ∀ x : UInt8, ((x.toNat : Int) = 13) = (x = 13) := fun x => u8_eq x 13 (by omega)
    have e47 : ∀ x : UInt8, ((x.toNat : Int) = 47) = (x = 47) := fun x => u8_eq x 47 (by omega)
    -- what lies between tokens
    have go : ∀ (n : Nat) (p' : Nat × Nat), 0 < n → i + n ≤ l.length → 1 ≤ p'.2 → p'.1 ≤ p.1 + n → p'.2 ≤ p.2 + n → lexL (l.drop i) p = lexL (l.drop (i + n)) p' →
        S11.b0 (E L) itE N Lb [str l, .sl [] .nil, .v (.int .i64 0), .v (.int .i64 0), .v (.int .i64 0), .sl (toksE acc) c, .v (.int .i64 (p.1 : Int)), .v (.int .i64 (p.2 : Int)), .v (.int .i64 (i : Int))] (st.app [] tk []) =
          some (.normal, [str l, .sl [] .nil, .v (.int .i64 0), .v (.int .i64 0), .v (.int .i64 0), .sl (toksE acc) c, .v (.int .i64 (p'.1 : Int)), .v (.int .i64 (p'.2 : Int)), .v (.int .i64 ((i + n : Nat) : Int))], st.app [] tk []) →
        RefLo l st N Lb i p acc c tk := by
      intro n p' hn hin hp1 hp2 hp3 hlex hstep
      obtain ⟨x, z0, z1, z2, z3, z4, z5, z6, z7, z8, tk', hit, hres⟩ := ih (k - n) (by omega) (i + n) p' acc c tk (by omega) hin hp1 (by omega) (by omega) (by omega) ho
      exact ⟨x, z0, z1, z2, z3, z4, z5, z6, z7, z8, tk', (it_step hstep).trans hit, by rw [hlex]; exact hres⟩
    by_cases hb : blk1 (l.drop i) ≠ 0
    · have hbl := blk1_le (l.drop i)
      rw [List.length_drop] at hbl
      have hlx := lexL_blank hb p
      rw [List.drop_drop] at hlx
      have hpos : 0 < blk1 (l.drop i) := by omega
      have hw := wn (blk1 (l.drop i)) (by omega)
      have hnl := note_loop (l := l) (by omega) hN hT hL
      rw [hdr] at hb hlx hbl
      rw [blk1_head hb, ← hdr] at hlx
      refine go (blk1 (l.drop i)) (if l[i] = 10 then (p.1 + 1, 1) else (p.1, p.2 + blk1 (l.drop i))) hpos (by rw [hdr]; omega) ?_ ?_ ?_ hlx ?_
      · split
        · exact Nat.le_refl _
        · simp only; omega
      · split <;> simp only <;> omega
      · split <;> simp only <;> omega
      by_cases hpre : ([47, 47] : List UInt8).isPrefixOf (l[i] :: l.drop (i + 1)) = true
      · have hn : blk1 (l.drop i) = spanN nlB (l.drop i) := by rw [hdr, blk1, if_pos hpre]
        have hc : l[i] = 47 := by
          simp only [List.isPrefixOf, Bool.and_eq_true, beq_iff_eq] at hpre
          exact hpre.1.symm
        rw [if_neg (by rw [hc]; decide), hn]
        exact ref_note hN hT hL hlen hlt (by omega) (by omega) hsf hpre
      · have hbl1 : blkB l[i] = true := by
          cases hq : blkB l[i] with
          | true => rfl
          | false => rw [blk1, if_neg hpre, if_neg (by rw [hq]; simp)] at hb; exact absurd rfl hb
        have hn : blk1 (l.drop i) = 1 := by rw [hdr, blk1, if_neg hpre, if_pos hbl1]
        rw [hn]
        exact ref_blank hN hT hL hlen hlt (by omega) (by omega) hsf (by simpa [blkB] using hbl1)
    · have hb0 : blk1 (l.drop i) = 0 := by
        cases h : blk1 (l.drop i) with
        | zero => rfl
        | succ n => exact absurd (by rw [h]; omega) hb
      have h1t := one_tok l[i] (l.drop (i + 1))
      have hle := tokR_le l[i] (l.drop (i + 1))
      rw [← hdr] at h1t hle
      cases hok : (tokR (l.drop i)).2.2.2 with
      | false =>
        rw [hok, if_neg (by simp)] at h1t
        obtain ⟨z5, z6, z7, z8, hs⟩ := ref_err (p := p) (acc := acc) (c := c) (tk := tk) hN hT hL hlen hlt (by omega) (by omega) hsf hb0 h1t
        have hlx : lexL (l.drop i) p = .err p := by
          rw [hdr] at hb0 hok ⊢
          exact lexL_err hb0 hok p
        refine ⟨.ret, str l, .sl [] .nil, .v (.int .i64 3), .v (.int .i64 (p.1 : Int)), .v (.int .i64 (p.2 : Int)), z5, z6, z7, z8, tk, it_ret hs, ?_⟩
        rw [hlx]
        exact ⟨rfl, rfl, rfl, rfl, rfl⟩
      | true =>
        rw [hok, if_pos rfl] at h1t
        have hkind : (tokR (l.drop i)).1 ≠ 0 := by
          rw [hdr]
          cases ha : alnB l[i] with
          | true =>
            rw [tokR_aln ha]
            unfold wordR
            split
            · simp
            · split <;> simp
          | false =>
            by_cases hc : l[i] = 35
            · rw [hc, tokR_real]; simp
            · rw [tokR_sign ha hc]; simp
        have hpos : 0 < (tokR (l.drop i)).2.1 := by
          rw [hdr] at hok ⊢; exact tokR_pos hok
        have hno := tok_no10 (c := l[i]) (r := l.drop (i + 1)) (by rw [← hdr]; exact hok)
        rw [← hdr] at hno
        have hlx : lexL (l.drop i) p = (lexL (l.drop (i + (tokR (l.drop i)).2.1)) (p.1, p.2 + (tokR (l.drop i)).2.1)).cons (tokAt (l.drop i) p) := by
          have := lexL_tok (c := l[i]) (l := l.drop (i + 1)) (by rw [← hdr]; exact hb0) (by rw [← hdr]; exact hok) p
          rw [← hdr, adv_no10 _ _ hno, List.length_take, Nat.min_eq_left hle, List.drop_drop] at this
          exact this
        have hta : tokAt (l.drop i) p = ⟨(tokR (l.drop i)).1, (l.drop i).take (tokR (l.drop i)).2.1, (tokR (l.drop i)).2.2.1, p⟩ := rfl
        rw [List.length_drop] at hle
        obtain ⟨c', tk', ea, ho'⟩ := app_own (ys := toksE [tokAt (l.drop i) p]) (bytes := 48) (es := toksE acc) (by rw [toksE_len]; exact ho) (by simp only [toksE_len, maxLenB, List.length_cons, List.length_nil]; omega) (toksE_ok _) (toksE_ok _) (by decide) (by decide)
        have ey : toksE [tokAt (l.drop i) p] = [tokC (tokR (l.drop i)).1 ((l.drop i).take (tokR (l.drop i)).2.1) (tokR (l.drop i)).2.2.1 p] := rfl
        have ho2 := ho'
        rw [← toksE_app, toksE_len] at ho2
        rw [ey] at ea
        have hs := ref_tok (p := p) (acc := acc) (c := c) (tk := tk) hN hT hL hlen hlt (by omega) (by omega) hsf hb0 hkind (by rw [List.length_drop]; exact hle) h1t ea (fun m => ho'.sfc m)
        rw [← hta] at hs
        have q0 : l.length - (i + (tokR (l.drop i)).2.1) = k - (tokR (l.drop i)).2.1 := by omega
        have q1 : i + (tokR (l.drop i)).2.1 ≤ l.length := by omega
        have q2 : 1 ≤ p.2 + (tokR (l.drop i)).2.1 := by omega
        have q3 : p.1 + (k - (tokR (l.drop i)).2.1) < 2147483648 := by omega
        have q4 : p.2 + (tokR (l.drop i)).2.1 + (k - (tokR (l.drop i)).2.1) < 2147483648 := by omega
        have q5 : (acc ++ [tokAt (l.drop i) p]).length + (k - (tokR (l.drop i)).2.1) < 1000000 := by rw [List.length_append, List.length_singleton]; omega
        have q6 : k - (tokR (l.drop i)).2.1 < k := by omega
        obtain ⟨x, z0, z1, z2, z3, z4, z5, z6, z7, z8, tk2, hit, hres⟩ := ih (k - (tokR (l.drop i)).2.1) q6 (i + (tokR (l.drop i)).2.1) (p.1, p.2 + (tokR (l.drop i)).2.1) (acc ++ [tokAt (l.drop i) p]) c' tk' q0 q1 q2 q3 q4 q5 ho2
        refine ⟨x, z0, z1, z2, z3, z4, z5, z6, z7, z8, tk2, (it_step hs).trans hit, ?_⟩
        rw [hlx]
        cases hl : lexL (l.drop (i + (tokR (l.drop i)).2.1)) (p.1, p.2 + (tokR (l.drop i)).2.1) with
        | ok ts =>
          rw [hl] at hres
          obtain ⟨hx, ts', p', c2, e1, e2, e3, e4, e5, e6⟩ := hres
          exact ⟨hx, tokAt (l.drop i) p :: ts', p', c2, by rw [e1]; rfl, by rw [e2]; simp, e3, e4, by simpa using e5, by simpa using e6⟩
        | err q =>
          rw [hl] at hres
          exact hres
  · obtain rfl : i = l.length := by omega
    refine ⟨.exit 0, str l, .sl [] .nil, .v (.int .i64 0), .v (.int .i64 0), .v (.int .i64 0), .sl (toksE acc) c, .v (.int .i64 (p.1 : Int)), .v (.int .i64 (p.2 : Int)), .v (.int .i64 (l.length : Int)), tk, ?_, ?_⟩
    · apply it_exit
      simp [S11.b0, canon_v, canon_sl, canon_clo, canon_ptr, need_refl, elems_sl, sf_v, sf_sl, sf_ptr, sf_ptrh, sf_clo, sf_dead, sf_nil, sf_full, sf_fr, need_true, ibeq, beq_ba, nbeq, nble, nblt, AM.nth, List.getD_cons_succ, List.getD_cons_zero, Option.bind_some, Option.bind_none, Option.map_some, onBool, AM.onG, onFn, seqK, retK, Ex.outOf, cond_true, cond_false, bin_lss, bin_leq, bin_gtr, bin_geq, bin_eql, bin_neq, bin_add, bin_sub, bin_mul, un_not, str_eql, str_neq, app_push, load_fp, AM.ownPut, AM.cellsOf, AM.shift, aPick, beq_true, okSz, List.length_cons, List.length_nil, Nat.zero_add, Nat.add_zero, Nat.reduceAdd, decide_true, decide_false, Bool.and_true, Bool.true_and, Bool.and_self, Bool.not_true, Bool.not_false, List.getElem?_cons_zero, List.getElem?_cons_succ, List.nil_append, List.cons_append, max_int, min_int, modify_concat, part1, List.take_succ_cons, List.take_left, List.take_zero, List.take_nil, app_stk, app_tk, app_lp, set_stk, set_tk, set_lp, set_set, n_load, n_load0, n_old, n_store, n_store0, n_store_old, n_leave, n_leave0, n_fin_v, n_fin_sl, n_fin_u, n_back, n_next, n_blk, n_blk0, n_set, n_set0, n_set_old, bs_size, bs_inj, mk_bs, noPan, onRet, hN, hT, hL, List.toList_toArray, aNilCheck, AM.aExtract, canon, canonA, canonC, List.map_cons, List.map_nil, List.modify_zero_cons, List.modify_succ_cons, AM.part, List.drop_zero, List.drop_succ_cons, List.drop_nil, n_fin_tup, n_fin_agg, flatA, flatA.flatD, AM.flatC, List.all_cons, List.all_nil, len_9, hsf, sf_v, isIter]
    · rw [List.drop_length, lexL_nil]
      exact ⟨rfl, [], p, c, rfl, by rw [List.append_nil], rfl, rfl, by rw [List.append_nil]; exact ho, by rw [List.append_nil]; omega⟩

theorem F11_ev {l : List UInt8} (h : l.length < 100000) (st : St) : E L (.func 11) [str l] st = some (.tup [.sl (toksE (lexT l)) .dead, .v (.int .i64 ((lexF l).1 : Int)), .v (.int .i64 ((lexF l).2.1 : Int)), .v (.int .i64 ((lexF l).2.2 : Int))], st) := by
  rw [S11_eq]
  obtain ⟨N, hN⟩ : ∃ q, st.stk.length = q := ⟨_, rfl⟩
  obtain ⟨T, hT⟩ : ∃ q, st.tk.length = q := ⟨_, rfl⟩
  obtain ⟨Lb, hL⟩ : ∃ q, st.lp.length = q := ⟨_, rfl⟩
  conv => lhs; rw [← app_nil (st)]
  by_cases hl : 8192 < l.length
  · have hl' : (8192 : Int) < (l.length : Int) := by omega
    simp [S11, canon_v, canon_sl, canon_clo, canon_ptr, need_refl, elems_sl, sf_v, sf_sl, sf_ptr, sf_ptrh, sf_clo, sf_dead, sf_nil, sf_full, sf_fr, need_true, ibeq, beq_ba, nbeq, nble, nblt, AM.nth, List.getD_cons_succ, List.getD_cons_zero, Option.bind_some, Option.bind_none, Option.map_some, onBool, AM.onG, onFn, seqK, retK, Ex.outOf, cond_true, cond_false, bin_lss, bin_leq, bin_gtr, bin_geq, bin_eql, bin_neq, bin_add, bin_sub, bin_mul, un_not, str_eql, str_neq, app_push, load_fp, AM.ownPut, AM.cellsOf, AM.shift, aPick, beq_true, okSz, List.length_cons, List.length_nil, Nat.zero_add, Nat.add_zero, Nat.reduceAdd, decide_true, decide_false, Bool.and_true, Bool.true_and, Bool.and_self, Bool.not_true, Bool.not_false, List.getElem?_cons_zero, List.getElem?_cons_succ, List.nil_append, List.cons_append, max_int, min_int, modify_concat, part1, List.take_succ_cons, List.take_left, List.take_zero, List.take_nil, app_stk, app_tk, app_lp, set_stk, set_tk, set_lp, set_set, n_load, n_load0, n_old, n_store, n_store0, n_store_old, n_leave, n_leave0, n_fin_v, n_fin_sl, n_fin_u, n_back, n_next, n_blk, n_blk0, n_set, n_set0, n_set_old, bs_size, bs_inj, mk_bs, noPan, onRet, hN, hT, hL, List.toList_toArray, aNilCheck, AM.aExtract, canon, canonA, canonC, List.map_cons, List.map_nil, List.modify_zero_cons, List.modify_succ_cons, AM.part, List.drop_zero, List.drop_succ_cons, List.drop_nil, n_fin_tup, n_fin_agg, flatA, flatA.flatD, AM.flatC, List.all_cons, List.all_nil, len_9, hl', lexT, lexF, hl, toksE]
  · have hl' : ¬ ((8192 : Int) < (l.length : Int)) := by omega
    obtain ⟨x, z0, z1, z2, z3, z4, z5, z6, z7, z8, tk', hit, hres⟩ := ref_loop hN hT hL h l.length 0 (1, 1) [] .nil [] rfl (by omega) (by simp) (by simp; omega) (by simp; omega) (by simp; omega) (Own.nil _ _ _ _)
    simp only [toksE, List.map_nil, Int.cast_ofNat_Int, Int.natCast_zero, List.drop_zero] at hit hres
    unfold lexT lexF
    rw [if_neg hl, if_neg hl]
    cases hx : lexL l (1, 1) with
    | ok ts =>
      rw [hx] at hres
      obtain ⟨rfl, ts', p', c', rfl, rfl, rfl, rfl, ho, hlen⟩ := hres
      obtain ⟨c2, tk2, ea, _⟩ := app_own (ys := toksE [⟨0, [], 0, p'⟩]) (bytes := 48) (es := toksE ([] ++ ts')) (by rw [toksE_len]; exact ho) (by simp only [toksE_len, maxLenB, List.length_cons, List.length_nil]; omega) (toksE_ok _) (toksE_ok _) (by decide) (by decide)
      have ey : toksE [⟨0, [], 0, p'⟩] = [[.v (.int .i64 0), str [], .v (.int .u64 0), .v (.int .i64 (p'.1 : Int)), .v (.int .i64 (p'.2 : Int))]] := rfl
      rw [ey] at ea
      simp only [List.nil_append] at ea hit
      dsimp only
      rw [toksE_app, ey]
      have et : List.map Tok.c ts' = toksE ts' := rfl
      rw [et] at hit
      simp [S11, canon_v, canon_sl, canon_clo, canon_ptr, need_refl, elems_sl, sf_v, sf_sl, sf_ptr, sf_ptrh, sf_clo, sf_dead, sf_nil, sf_full, sf_fr, need_true, ibeq, beq_ba, nbeq, nble, nblt, AM.nth, List.getD_cons_succ, List.getD_cons_zero, Option.bind_some, Option.bind_none, Option.map_some, onBool, AM.onG, onFn, seqK, retK, Ex.outOf, cond_true, cond_false, bin_lss, bin_leq, bin_gtr, bin_geq, bin_eql, bin_neq, bin_add, bin_sub, bin_mul, un_not, str_eql, str_neq, app_push, load_fp, AM.ownPut, AM.cellsOf, AM.shift, aPick, beq_true, okSz, List.length_cons, List.length_nil, Nat.zero_add, Nat.add_zero, Nat.reduceAdd, decide_true, decide_false, Bool.and_true, Bool.true_and, Bool.and_self, Bool.not_true, Bool.not_false, List.getElem?_cons_zero, List.getElem?_cons_succ, List.nil_append, List.cons_append, max_int, min_int, modify_concat, part1, List.take_succ_cons, List.take_left, List.take_zero, List.take_nil, app_stk, app_tk, app_lp, set_stk, set_tk, set_lp, set_set, n_load, n_load0, n_old, n_store, n_store0, n_store_old, n_leave, n_leave0, n_fin_v, n_fin_sl, n_fin_u, n_back, n_next, n_blk, n_blk0, n_set, n_set0, n_set_old, bs_size, bs_inj, mk_bs, noPan, onRet, hN, hT, hL, List.toList_toArray, aNilCheck, AM.aExtract, canon, canonA, canonC, List.map_cons, List.map_nil, List.modify_zero_cons, List.modify_succ_cons, AM.part, List.drop_zero, List.drop_succ_cons, List.drop_nil, n_fin_tup, n_fin_agg, flatA, flatA.flatD, AM.flatC, List.all_cons, List.all_nil, len_9, hl', hit, rBuild, fillP, laid, okCells, rBuildSlice, rLit, reps, AM.plainCs, AM.plainC, chunks, ea]
    | err q =>
      rw [hx] at hres
      obtain ⟨rfl, rfl, rfl, rfl, rfl⟩ := hres
      simp [S11, canon_v, canon_sl, canon_clo, canon_ptr, need_refl, elems_sl, sf_v, sf_sl, sf_ptr, sf_ptrh, sf_clo, sf_dead, sf_nil, sf_full, sf_fr, need_true, ibeq, beq_ba, nbeq, nble, nblt, AM.nth, List.getD_cons_succ, List.getD_cons_zero, Option.bind_some, Option.bind_none, Option.map_some, onBool, AM.onG, onFn, seqK, retK, Ex.outOf, cond_true, cond_false, bin_lss, bin_leq, bin_gtr, bin_geq, bin_eql, bin_neq, bin_add, bin_sub, bin_mul, un_not, str_eql, str_neq, app_push, load_fp, AM.ownPut, AM.cellsOf, AM.shift, aPick, beq_true, okSz, List.length_cons, List.length_nil, Nat.zero_add, Nat.add_zero, Nat.reduceAdd, decide_true, decide_false, Bool.and_true, Bool.true_and, Bool.and_self, Bool.not_true, Bool.not_false, List.getElem?_cons_zero, List.getElem?_cons_succ, List.nil_append, List.cons_append, max_int, min_int, modify_concat, part1, List.take_succ_cons, List.take_left, List.take_zero, List.take_nil, app_stk, app_tk, app_lp, set_stk, set_tk, set_lp, set_set, n_load, n_load0, n_old, n_store, n_store0, n_store_old, n_leave, n_leave0, n_fin_v, n_fin_sl, n_fin_u, n_back, n_next, n_blk, n_blk0, n_set, n_set0, n_set_old, bs_size, bs_inj, mk_bs, noPan, onRet, hN, hT, hL, List.toList_toArray, aNilCheck, AM.aExtract, canon, canonA, canonC, List.map_cons, List.map_nil, List.modify_zero_cons, List.modify_succ_cons, AM.part, List.drop_zero, List.drop_succ_cons, List.drop_nil, n_fin_tup, n_fin_agg, flatA, flatA.flatD, AM.flatC, List.all_cons, List.all_nil, len_9, hl', hit, toksE]
end Go.Proofs.YtbbaalimilcppaaDoor.S

/- The lexer: what the laws have in common. No condition. -/
namespace Go.Proofs.YtbbaalimilcppaaDoor.S
open Go Go.AM Go.Proofs
set_option linter.unusedVariables false
set_option linter.unusedSimpArgs false
theorem bind_step {α β : Type} (a : α) (f : α → Option β) : (some a).bind f = f a := by
  cases h : f a with
  | none => exact h
  | some b => exact h
theorem bind_stop {α β : Type} {x y : Option α} (f : α → Option β) (h : x = y) : x.bind f = y.bind f := by rw [h]
theorem ia23 {ts : List Tok} {i : Nat} {c : Cap} (k : IntKind) (h : i < ts.length) : aIndexAddr Tryd.prog 23 (.sl (toksE ts) c) (.v (.int k (i : Int))) = some (.fp (Tok.c ts[i]) 0) := by
  rw [ia_23]
  have h1 : inRange (i : Int) (toksE ts).length = true := by simp [inRange, toksE_len, h]
  rw [h1, cond_true, Int.toNat_natCast, toksE, List.getElem?_map, List.getElem?_eq_getElem h]
  rfl
theorem ia29 {ts : List Tok} {i : Nat} {c : Cap} (k : IntKind) (h : i < ts.length) : aIndexAddr Tryd.prog 29 (.sl (toksE ts) c) (.v (.int k (i : Int))) = some (.fp (Tok.c ts[i]) 0) := by
  rw [ia_29]
  have h1 : inRange (i : Int) (toksE ts).length = true := by simp [inRange, toksE_len, h]
  rw [h1, cond_true, Int.toNat_natCast, toksE, List.getElem?_map, List.getElem?_eq_getElem h]
  rfl
theorem dec2 : Lib.decDigits 2 = [50] := by rw [Lib.decDigits, dif_pos (by omega)]; rfl
theorem tok2 : tokR [50] = (3, 1, 2, true) := by
  rw [tokR_aln (by decide)]
  have e : ([50] : List UInt8).take (spanN alnB [50]) = [50] := by decide +kernel
  have e2 : spanN alnB [50] = 1 := by decide +kernel
  have hp : pn10 [50] = (2, none) := by decide +kernel
  rw [e, e2, wordR, if_neg (by decide +kernel), if_neg (by decide +kernel), hp]
  simp [dec2]
theorem lex_a : lexL [120, 49, 60, 61, 50] (1, 1) = .ok [⟨1, [120, 49], 0, (1, 1)⟩, ⟨5, [60, 61], 0, (1, 3)⟩, ⟨3, [50], 2, (1, 5)⟩, ⟨0, [], 0, (1, 6)⟩] := by
  have t1 : tokR [120, 49, 60, 61, 50] = (1, 2, 0, true) := by decide +kernel
  have t2 : tokR [60, 61, 50] = (5, 2, 0, true) := by decide +kernel
  rw [lexL_tok (by decide +kernel) (by rw [t1]), t1]
  simp only [List.drop_succ_cons, List.drop_zero, List.take_succ_cons, List.take_zero]
  rw [lexL_tok (by decide +kernel) (by rw [t2]), t2]
  simp only [List.drop_succ_cons, List.drop_zero, List.take_succ_cons, List.take_zero]
  rw [lexL_tok (by decide +kernel) (by rw [tok2]), tok2]
  simp only [List.drop_succ_cons, List.drop_zero, List.take_succ_cons, List.take_zero]
  rw [lexL_nil]
  simp only [LR.cons, tokAt, t1, t2, tok2, List.take_succ_cons, List.take_zero]
  rfl
theorem lex_b : lexL [32, 49, 120] (1, 1) = .err (1, 2) := by
  have hb : blk1 [32, 49, 120] = 1 := by decide +kernel
  rw [lexL_blank (by rw [hb]; decide), hb]
  simp only [List.drop_succ_cons, List.drop_zero, List.take_succ_cons, List.take_zero]
  have ht : (tokR [49, 120]).2.2.2 = false := by
    rw [tokR_aln (by decide)]
    have e : ([49, 120] : List UInt8).take (spanN alnB [49, 120]) = [49, 120] := by decide +kernel
    have hp : pn10 [49, 120] = (0, some 2) := by decide +kernel
    rw [e, wordR, if_neg (by decide +kernel), if_neg (by decide +kernel), hp]
    rfl
  rw [lexL_err (by decide +kernel) ht]
  rfl
theorem lexT_a : lexT [120, 49, 60, 61, 50] = [⟨1, [120, 49], 0, (1, 1)⟩, ⟨5, [60, 61], 0, (1, 3)⟩, ⟨3, [50], 2, (1, 5)⟩, ⟨0, [], 0, (1, 6)⟩] := by rw [lexT, if_neg (by decide), lex_a]
theorem lexF_a : lexF [120, 49, 60, 61, 50] = (0, 0, 0) := by rw [lexF, if_neg (by decide), lex_a]
theorem lexT_b : lexT [32, 49, 120] = [] := by rw [lexT, if_neg (by decide), lex_b]
theorem lexF_b : lexF [32, 49, 120] = (3, 1, 2) := by rw [lexF, if_neg (by decide), lex_b]
section
attribute [local congr] bind_stop
set_option maxRecDepth 100000 in
theorem F9_ev (st : St) : E L (.func 9) [] st = some (.v (.bool true), st) := by
  rw [S9_eq]
  obtain ⟨N, hN⟩ : ∃ q, st.stk.length = q := ⟨_, rfl⟩
  obtain ⟨T, hT⟩ : ∃ q, st.tk.length = q := ⟨_, rfl⟩
  obtain ⟨Lb, hL⟩ : ∃ q, st.lp.length = q := ⟨_, rfl⟩
  conv => lhs; rw [← app_nil (st)]
  have e1 : ∀ X, E L (.func 10) [str [120, 49, 60, 61, 50]] X = _ := F10_ev (by decide)
  rw [lexT_a, lexF_a] at e1
  have e2 : ∀ X, E L (.func 10) [str [32, 49, 120]] X = _ := F10_ev (by decide)
  rw [lexT_b, lexF_b] at e2
  have e3 : ∀ X, E L (.func 14) [str [108, 111, 111, 112]] X = some (.v (.bool true), X) := fun X => by rw [F14_ev (by decide)]; rfl
  have i0 := ia23 (ts := [⟨1, [120, 49], 0, (1, 1)⟩, ⟨5, [60, 61], 0, (1, 3)⟩, ⟨3, [50], 2, (1, 5)⟩, ⟨0, [], 0, (1, 6)⟩]) (i := 0) (c := .dead) .i64 (by decide)
  have i1 := ia23 (ts := [⟨1, [120, 49], 0, (1, 1)⟩, ⟨5, [60, 61], 0, (1, 3)⟩, ⟨3, [50], 2, (1, 5)⟩, ⟨0, [], 0, (1, 6)⟩]) (i := 1) (c := .dead) .i64 (by decide)
  have i2 := ia23 (ts := [⟨1, [120, 49], 0, (1, 1)⟩, ⟨5, [60, 61], 0, (1, 3)⟩, ⟨3, [50], 2, (1, 5)⟩, ⟨0, [], 0, (1, 6)⟩]) (i := 2) (c := .dead) .i64 (by decide)
  have hl : (toksE [⟨1, [120, 49], 0, (1, 1)⟩, ⟨5, [60, 61], 0, (1, 3)⟩, ⟨3, [50], 2, (1, 5)⟩, ⟨0, [], 0, (1, 6)⟩]).length = 4 := rfl
  generalize toksE [⟨1, [120, 49], 0, (1, 1)⟩, ⟨5, [60, 61], 0, (1, 3)⟩, ⟨3, [50], 2, (1, 5)⟩, ⟨0, [], 0, (1, 6)⟩] = T4 at *
  simp only [Tok.c, tokC, fltC, List.getElem_cons_zero, List.getElem_cons_succ, Int.cast_ofNat_Int, Int.natCast_zero] at e1 e2 i0 i1 i2
  simp [S9, canon_v, canon_sl, canon_clo, canon_ptr, need_refl, elems_sl, sf_v, sf_sl, sf_ptr, sf_ptrh, sf_clo, sf_dead, sf_nil, sf_full, sf_fr, need_true, ibeq, beq_ba, nbeq, nble, nblt, AM.nth, List.getD_cons_succ, List.getD_cons_zero, bind_step, Option.bind_none, Option.map_some, onBool, AM.onG, onFn, seqK, retK, Ex.outOf, cond_true, cond_false, bin_lss, bin_leq, bin_gtr, bin_geq, bin_eql, bin_neq, bin_add, bin_sub, bin_mul, un_not, str_eql, str_neq, app_push, load_fp, AM.ownPut, AM.cellsOf, AM.shift, aPick, beq_true, okSz, List.length_cons, List.length_nil, Nat.zero_add, Nat.add_zero, Nat.reduceAdd, decide_true, decide_false, Bool.and_true, Bool.true_and, Bool.and_self, Bool.not_true, Bool.not_false, List.getElem?_cons_zero, List.getElem?_cons_succ, List.nil_append, List.cons_append, max_int, min_int, modify_concat, part1, List.take_succ_cons, List.take_left, List.take_zero, List.take_nil, app_stk, app_tk, app_lp, set_stk, set_tk, set_lp, set_set, n_load, n_load0, n_old, n_store, n_store0, n_store_old, n_leave, n_leave0, n_fin_v, n_fin_sl, n_fin_u, n_back, n_next, n_blk, n_blk0, n_set, n_set0, n_set_old, bs_size, bs_inj, mk_bs, noPan, onRet, hN, hT, hL, List.toList_toArray, aNilCheck, AM.aExtract, canon, canonA, canonC, List.map_cons, List.map_nil, List.modify_zero_cons, List.modify_succ_cons, AM.part, List.drop_zero, List.drop_succ_cons, List.drop_nil, n_fin_tup, n_fin_agg, flatA, flatA.flatD, AM.flatC, List.all_cons, List.all_nil, -Option.bind_some, e1, e2, e3, i0, i1, i2, hl, len_23, steq_26, rBuild, fillP, laid, okCells]
end
theorem lexL_len : ∀ (k : Nat) (rest : List UInt8) (p : Nat × Nat), rest.length = k → ∀ ts, lexL rest p = .ok ts → ts.length ≤ rest.length + 1 := by
  intro k
  induction k using Nat.strongRecOn with
  | ind k ih =>
    intro rest p hk ts h
    cases rest with
    | nil =>
      rw [lexL_nil] at h
      obtain rfl := LR.ok.inj h
      simp
    | cons c l =>
      by_cases hb : blk1 (c :: l) = 0
      · cases ht : (tokR (c :: l)).2.2.2 with
        | false => rw [lexL_err hb ht] at h; cases h
        | true =>
          rw [lexL_tok hb ht] at h
          have hpos := tokR_pos ht
          have hdl : ((c :: l).drop (tokR (c :: l)).2.1).length = (c :: l).length - (tokR (c :: l)).2.1 := List.length_drop ..
          cases hr : lexL ((c :: l).drop (tokR (c :: l)).2.1) (adv ((c :: l).take (tokR (c :: l)).2.1) p) with
          | err q => rw [hr] at h; cases h
          | ok ts' =>
            rw [hr] at h
            obtain rfl := LR.ok.inj h
            have := ih _ (by simp only [List.length_cons] at hdl hk; omega) _ _ rfl ts' hr
            simp only [List.length_cons] at hdl hk ⊢
            omega
      · rw [lexL_blank hb] at h
        have hdl : ((c :: l).drop (blk1 (c :: l))).length = (c :: l).length - blk1 (c :: l) := List.length_drop ..
        have := ih _ (by simp only [List.length_cons] at hdl hk; omega) _ _ rfl ts h
        omega
theorem lexT_len (l : List UInt8) : (lexT l).length ≤ l.length + 1 := by
  unfold lexT
  split
  · simp
  · cases h : lexL l (1, 1) with
    | ok ts => exact lexL_len _ l _ rfl ts h
    | err q => simp
theorem F12_ev (t : Tok) (st : St) : E L (.func 12) [.agg t.c] st = some (.agg t.c, st) := by
  rw [S12_eq]
  obtain ⟨N, hN⟩ : ∃ q, st.stk.length = q := ⟨_, rfl⟩
  obtain ⟨T, hT⟩ : ∃ q, st.tk.length = q := ⟨_, rfl⟩
  obtain ⟨Lb, hL⟩ : ∃ q, st.lp.length = q := ⟨_, rfl⟩
  conv => lhs; rw [← app_nil (st)]
  simp [S12, canon_v, canon_sl, canon_clo, canon_ptr, need_refl, elems_sl, sf_v, sf_sl, sf_ptr, sf_ptrh, sf_clo, sf_dead, sf_nil, sf_full, sf_fr, need_true, ibeq, beq_ba, nbeq, nble, nblt, AM.nth, List.getD_cons_succ, List.getD_cons_zero, Option.bind_some, Option.bind_none, Option.map_some, onBool, AM.onG, onFn, seqK, retK, Ex.outOf, cond_true, cond_false, bin_lss, bin_leq, bin_gtr, bin_geq, bin_eql, bin_neq, bin_add, bin_sub, bin_mul, un_not, str_eql, str_neq, app_push, load_fp, AM.ownPut, AM.cellsOf, AM.shift, aPick, beq_true, okSz, List.length_cons, List.length_nil, Nat.zero_add, Nat.add_zero, Nat.reduceAdd, decide_true, decide_false, Bool.and_true, Bool.true_and, Bool.and_self, Bool.not_true, Bool.not_false, List.getElem?_cons_zero, List.getElem?_cons_succ, List.nil_append, List.cons_append, max_int, min_int, modify_concat, part1, List.take_succ_cons, List.take_left, List.take_zero, List.take_nil, app_stk, app_tk, app_lp, set_stk, set_tk, set_lp, set_set, n_load, n_load0, n_old, n_store, n_store0, n_store_old, n_leave, n_leave0, n_fin_v, n_fin_sl, n_fin_u, n_back, n_next, n_blk, n_blk0, n_set, n_set0, n_set_old, bs_size, bs_inj, mk_bs, noPan, onRet, hN, hT, hL, List.toList_toArray, aNilCheck, AM.aExtract, canon, canonA, canonC, List.map_cons, List.map_nil, List.modify_zero_cons, List.modify_succ_cons, AM.part, List.drop_zero, List.drop_succ_cons, List.drop_nil, n_fin_tup, n_fin_agg, flatA, flatA.flatD, AM.flatC, List.all_cons, List.all_nil, rBuild, fillP, laid, okCells]
end Go.Proofs.YtbbaalimilcppaaDoor.S

/- A law of a seat with laid variables: from the row's condition to what the machine asks of package-level variables. No condition. -/
set_option linter.unusedVariables false
set_option linter.unusedSimpArgs false
namespace Go.Proofs.YtbbaalimilcppaaDoor
open Go Go.AM Go.ChangeShapes Go.WideShapes Go.ChangeAt Go.RowKit
theorem own : ownKnob Tryd.prog.godebug = none := by kernel_rfl
theorem laidOut : laidOutB Tryd.prog = true := by kernel_rfl
/-- A row's contract, with what is listed, and the memory's shape. -/
theorem handed_shaped {H : Type} {enc : TypeId × Value → H} {a : Assume} {C : Checked} {os : Os} {f : FuncId} {fn : Func} {s : ChangeSpec} {conds : List PathCond} {apart fresh handsOn again : Bool} {X : World → Array Value → Prop}
    (hX : ∀ (w w' : World) (args : Array Value), w.heap = w'.heap → X w args → X w' args)
    (own : ownKnob C.prog.godebug = none) (started : os.Started) (noInit : C.prog.inits.idxOf? f = none) (hfn : C.prog.funcs[f]? = some fn)
    (witness : ∃ (w : World) (tape : Tape) (i : Input), w.os = os ∧ (w.forCall tape i).Shaped C.prog ∧ i.vars = [] ∧ Input.okWide C.prog (w.forCall tape i) .any w.heap.size f i ∧
      ((s.pre enc C.prog fn conds apart (w.forCall tape i).memory i.args ∧ X (w.forCall tape i).memory i.args) ∧ sizedMet enc C.prog fn (OpenSpec.ofChange s) apart (w.forCall tape i).memory i.args) ∧ a.holds C.prog (lone (Frame.enter C.prog f i.args .normal) [] (w.forCall tape i)))
    (contract : ∀ (W : World) (base : Nat) (args : Array Value) (ds gs : List (DataW H)) (before : List MemPlace),
      (∀ (j : Nat) t v, fn.params[j]? = some t → args[j]? = some v → Value.okWide C.prog W .any base t v) →
      DataW.Whole enc C.prog fn.params.toList s.vars apart W args.toList ds gs before → X W args → W.ShapedOpen C.prog →
      Calls C.prog f args W fun e W' => ∃ v, e = .returned v ∧ s.post enc C.prog fn apart fresh handsOn again W args v W') :
    ReturnsInHanded a C os f .any (fun w args => (s.pre enc C.prog fn conds apart w args ∧ X w args) ∧ sizedMet enc C.prog fn (OpenSpec.ofChange s) apart w args) (s.post enc C.prog fn apart fresh handsOn again) := by
  refine returnsInHanded_of_calls own started noInit witness ?_
  intro w tape i _ hsh _ hok hpre _
  obtain ⟨_, _, _, fn', hfn', _, _, _, _, hval⟩ := hok
  have e : fn' = fn := Option.some.inj (hfn'.symm.trans hfn)
  subst e
  obtain ⟨⟨⟨ds, gs, before, hw, hc⟩, hx⟩, hz⟩ := hpre
  have hw' := DataW.Whole.of_heap (w' := w.forCall tape i) (by rfl) hw
  refine (contract (w.forCall tape i) w.heap.size i.args ds gs before hval hw' (hX _ _ _ (by rfl) hx) hsh).mono fun e W' ⟨v, he, hp⟩ => ?_
  subst he
  exact ChangeSpec.post_blind hp

theorem gSyn : Tryd.prog.globalNamed "strconv.ErrSyntax" = some 1 := by kernel_rfl
theorem gRng : Tryd.prog.globalNamed "strconv.ErrRange" = some 2 := by kernel_rfl
theorem tySyn : (Tryd.prog.globals[1]?).map (·.type) = some 62 := by kernel_rfl
theorem tyRng : (Tryd.prog.globals[2]?).map (·.type) = some 62 := by kernel_rfl
theorem gTab : Tryd.prog.globalNamed "internal/strconv.uint64pow10" = some 3 := by kernel_rfl
theorem tyTab : (Tryd.prog.globals[3]?).map (·.type) = some 94 := by kernel_rfl
theorem star : "*errors.errorString" = "*" ++ "errors.errorString" := by decide
theorem row99 (u : TypeId) (h : Tryd.prog.typeName? 3 u = some "*errors.errorString") : u = 99 :=
  typeName_ptr_named (nm := "errors.errorString") (by rw [← star]; kernel_rfl) (by kernel_rfl) (by decide) u (by rw [← star]; exact h)
theorem cell_lt {W : World} {g o : Nat} {v : Value} (h : W.cell? ⟨g, o, none⟩ = some v) : g < W.heap.size := by
  unfold World.cell? at h
  cases hb : W.heap[g]? with
  | none => simp [hb] at h
  | some x => exact (Array.getElem?_eq_some_iff.1 hb).1
theorem gvs_of {W : World} (hs : W.ShapedOpen Tryd.prog) (hL : laidMetH Tryd.prog Rows.lexIsRow.laid W) : ∃ gv : GV, S.Gvs gv ∧ GInv gv W (ctx0 W) := by
  rw [MakeChecks.laidMetH_plain _ _ _ (by kernel_rfl)] at hL
  have hT : Lib.TabIs Tryd.prog W "internal/strconv.uint64pow10" .u64 Lib.pow10Tab := Lib.tabIs_of_head gTab tyTab Tryd.underlying94 Tryd.underlying33 (by kernel_rfl) (by kernel_rfl) hL.tail.tail
  obtain ⟨a1, s1, hv1, _⟩ := laid_sentinel hL.tail.tail.tail gRng tyRng Tryd.underlying62 row99 Tryd.underlying99 Tryd.underlying101 rfl rfl Tryd.underlying9 (by kernel_rfl) (by kernel_rfl)
  obtain ⟨a2, s2, hv2, _⟩ := laid_sentinel hL.tail.tail.tail.tail gSyn tySyn Tryd.underlying62 row99 Tryd.underlying99 Tryd.underlying101 rfl rfl Tryd.underlying9 (by kernel_rfl) (by kernel_rfl)
  obtain ⟨m, hm⟩ := cell_of_shapedOpen_int (g := 0) (k := .i64) (zero := #[.int .i64 0]) (t := 3) hs (of_decide_eq_true (by kernel_rfl)) (by kernel_rfl) rfl (by kernel_rfl) (by kernel_rfl) Tryd.underlying3
  have c1 : W.cell? ⟨1, 0, none⟩ = some (.iface 99 (.pointer (some a2))) := by simpa using World.var?_cell gSyn hv2 0
  have c2 : W.cell? ⟨2, 0, none⟩ = some (.iface 99 (.pointer (some a1))) := by simpa using World.var?_cell gRng hv1 0
  refine ⟨⟨fun g o => if g < 3 ∧ o = 0 then W.cell? ⟨g, o, none⟩ else none, W⟩, ⟨⟨m, ?_⟩, ⟨.iface 99 (.pointer (some a2)), ?_, .inr ⟨99, .pointer (some a2), rfl⟩⟩, ⟨.iface 99 (.pointer (some a1)), ?_, .inr ⟨99, .pointer (some a1), rfl⟩⟩, hT, ?_⟩, fun g o v h => ?_, Nat.le_refl _, Below.refl _ _⟩
  · show (if 0 < 3 ∧ 0 = 0 then W.cell? ⟨0, 0, none⟩ else none) = _
    rw [if_pos (by omega)]; exact hm
  · show (if 1 < 3 ∧ 0 = 0 then W.cell? ⟨1, 0, none⟩ else none) = _
    rw [if_pos (by omega)]; exact c1
  · show (if 2 < 3 ∧ 0 = 0 then W.cell? ⟨2, 0, none⟩ else none) = _
    rw [if_pos (by omega)]; exact c2
  · have h3 := World.var?_cell gTab hT 0
    have : W.cell? ⟨3, 0, none⟩ = some (.int .u64 1) := h3.trans rfl
    exact cell_lt this
  · have h' : (if g < 3 ∧ o = 0 then W.cell? ⟨g, o, none⟩ else none) = some v := h
    split at h'
    · exact ⟨cell_lt h', h'⟩
    · cases h'

/-- The door's own heap meets the condition. -/
theorem door_met (os : Os) (args : Array Value) : laidMetH Tryd.prog Rows.lexIsRow.laid ((World.doorLaid Tryd.prog 62 os).forCall (fun _ _ => 0) ⟨#[], args, []⟩).memory :=
  laidMetH_of_parts3 (fuel := 8) (laidMet_of_run' 65 (by kernel_rfl) (by kernel_rfl)) (by kernel_rfl) (by kernel_rfl)
end Go.Proofs.YtbbaalimilcppaaDoor

/- The lexer: LexIs. No condition. -/
namespace Go.Proofs.YtbbaalimilcppaaDoor.S
open Go Go.AM Go.Proofs
set_option linter.unusedVariables false
set_option linter.unusedSimpArgs false
theorem is_loop {ts : List Tok} (hlen : ts.length < 1000000) (f : Nat × Nat × Nat) {X : St} {N T Lb : Nat} (hN : X.stk.length = N) (hT : X.tk.length = T) (hL : X.lp.length = Lb) : ∀ (k i : Nat), ts.length - i = k → i ≤ ts.length →
    itE (S3.b0 (E L) itE N Lb) [.v (.bool false), .sl (toksE ts) .dead, .sl (toksE ts) .dead, .v (.int .i64 (ts.length : Int)), .v (.int .i64 (i : Int))] (X.app [⟨fltC f, []⟩] [] []) = some (.exit 0, [.v (.bool false), .sl (toksE ts) .dead, .sl (toksE ts) .dead, .v (.int .i64 (ts.length : Int)), .v (.int .i64 (ts.length : Int))], X.app [⟨fltC f, []⟩] [] []) := by
  intro k
  induction k with
  | zero =>
    intro i hk hi
    obtain rfl : i = ts.length := by omega
    apply it_exit
    simp [S3.b0, canon_v, canon_sl, canon_clo, canon_ptr, need_refl, elems_sl, sf_v, sf_sl, sf_ptr, sf_ptrh, sf_clo, sf_dead, sf_nil, sf_full, sf_fr, need_true, ibeq, beq_ba, nbeq, nble, nblt, AM.nth, List.getD_cons_succ, List.getD_cons_zero, Option.bind_some, Option.bind_none, Option.map_some, onBool, AM.onG, onFn, seqK, retK, Ex.outOf, cond_true, cond_false, bin_lss, bin_leq, bin_gtr, bin_geq, bin_eql, bin_neq, bin_add, bin_sub, bin_mul, un_not, str_eql, str_neq, app_push, load_fp, AM.ownPut, AM.cellsOf, AM.shift, aPick, beq_true, okSz, List.length_cons, List.length_nil, Nat.zero_add, Nat.add_zero, Nat.reduceAdd, decide_true, decide_false, Bool.and_true, Bool.true_and, Bool.and_self, Bool.not_true, Bool.not_false, List.getElem?_cons_zero, List.getElem?_cons_succ, List.nil_append, List.cons_append, max_int, min_int, modify_concat, part1, List.take_succ_cons, List.take_left, List.take_zero, List.take_nil, app_stk, app_tk, app_lp, set_stk, set_tk, set_lp, set_set, n_load, n_load0, n_old, n_store, n_store0, n_store_old, n_leave, n_leave0, n_fin_v, n_fin_sl, n_fin_u, n_back, n_next, n_blk, n_blk0, n_set, n_set0, n_set_old, bs_size, bs_inj, mk_bs, noPan, onRet, hN, hT, hL, List.toList_toArray, aNilCheck, AM.aExtract, canon, canonA, canonC, List.map_cons, List.map_nil, List.modify_zero_cons, List.modify_succ_cons, AM.part, List.drop_zero, List.drop_succ_cons, List.drop_nil, n_fin_tup, n_fin_agg, flatA, flatA.flatD, AM.flatC, List.all_cons, List.all_nil, isIter]
  | succ k ih =>
    intro i hk hi
    have hlt : i < ts.length := by omega
    have hlt' : (i : Int) < (ts.length : Int) := by omega
    have hx := ia23 (c := .dead) .i64 hlt
    have hx2 := ia29 (c := .dead) .i64 hlt
    have w1 : IntKind.i64.wrap ((i : Int) + 1) = ((i + 1 : Nat) : Int) := by rw [IntWalk.i64_in _ (by omega)]; omega
    generalize ts[i] = t at hx hx2
    have e12 := F12_ev t
    rw [it_step (vs' := [.v (.bool false), .sl (toksE ts) .dead, .sl (toksE ts) .dead, .v (.int .i64 (ts.length : Int)), .v (.int .i64 ((i + 1 : Nat) : Int))]) (st' := X.app [⟨fltC f, []⟩] [] [])]
    · exact ih (i + 1) (by omega) (by omega)
    · generalize ((i + 1 : Nat) : Int) = j at w1 ⊢
      simp only [Tok.c, tokC] at hx hx2 e12
      simp [S3.b0, canon_v, canon_sl, canon_clo, canon_ptr, need_refl, elems_sl, sf_v, sf_sl, sf_ptr, sf_ptrh, sf_clo, sf_dead, sf_nil, sf_full, sf_fr, need_true, ibeq, beq_ba, nbeq, nble, nblt, AM.nth, List.getD_cons_succ, List.getD_cons_zero, Option.bind_some, Option.bind_none, Option.map_some, onBool, AM.onG, onFn, seqK, retK, Ex.outOf, cond_true, cond_false, bin_lss, bin_leq, bin_gtr, bin_geq, bin_eql, bin_neq, bin_add, bin_sub, bin_mul, un_not, str_eql, str_neq, app_push, load_fp, AM.ownPut, AM.cellsOf, AM.shift, aPick, beq_true, okSz, List.length_cons, List.length_nil, Nat.zero_add, Nat.add_zero, Nat.reduceAdd, decide_true, decide_false, Bool.and_true, Bool.true_and, Bool.and_self, Bool.not_true, Bool.not_false, List.getElem?_cons_zero, List.getElem?_cons_succ, List.nil_append, List.cons_append, max_int, min_int, modify_concat, part1, List.take_succ_cons, List.take_left, List.take_zero, List.take_nil, app_stk, app_tk, app_lp, set_stk, set_tk, set_lp, set_set, n_load, n_load0, n_old, n_store, n_store0, n_store_old, n_leave, n_leave0, n_fin_v, n_fin_sl, n_fin_u, n_back, n_next, n_blk, n_blk0, n_set, n_set0, n_set_old, bs_size, bs_inj, mk_bs, noPan, onRet, hN, hT, hL, List.toList_toArray, aNilCheck, AM.aExtract, canon, canonA, canonC, List.map_cons, List.map_nil, List.modify_zero_cons, List.modify_succ_cons, AM.part, List.drop_zero, List.drop_succ_cons, List.drop_nil, n_fin_tup, n_fin_agg, flatA, flatA.flatD, AM.flatC, List.all_cons, List.all_nil, hlt', hx, hx2, e12, w1, stne_37, laid, okCells, isIter, sf_v]
attribute [local congr] bind_stop
set_option maxRecDepth 100000 in
theorem LexIs_ev (s : ByteArray) (st : St) : E L (.func 3) [.v (.string s)] st = some (.v (.bool true), st) := by
  obtain ⟨l, rfl⟩ : ∃ l, s = bs l := ⟨s.data.toList, (bs_toList s).symm⟩
  rw [S3_eq]
  obtain ⟨N, hN⟩ : ∃ q, st.stk.length = q := ⟨_, rfl⟩
  obtain ⟨T, hT⟩ : ∃ q, st.tk.length = q := ⟨_, rfl⟩
  obtain ⟨Lb, hL⟩ : ∃ q, st.lp.length = q := ⟨_, rfl⟩
  conv => lhs; rw [← app_nil (st)]
  by_cases hl : 16384 < l.length
  · have hl' : (16384 : Int) < (l.length : Int) := by omega
    simp [S3, canon_v, canon_sl, canon_clo, canon_ptr, need_refl, elems_sl, sf_v, sf_sl, sf_ptr, sf_ptrh, sf_clo, sf_dead, sf_nil, sf_full, sf_fr, need_true, ibeq, beq_ba, nbeq, nble, nblt, AM.nth, List.getD_cons_succ, List.getD_cons_zero, bind_step, Option.bind_none, Option.map_some, onBool, AM.onG, onFn, seqK, retK, Ex.outOf, cond_true, cond_false, bin_lss, bin_leq, bin_gtr, bin_geq, bin_eql, bin_neq, bin_add, bin_sub, bin_mul, un_not, str_eql, str_neq, app_push, load_fp, AM.ownPut, AM.cellsOf, AM.shift, aPick, beq_true, okSz, List.length_cons, List.length_nil, Nat.zero_add, Nat.add_zero, Nat.reduceAdd, decide_true, decide_false, Bool.and_true, Bool.true_and, Bool.and_self, Bool.not_true, Bool.not_false, List.getElem?_cons_zero, List.getElem?_cons_succ, List.nil_append, List.cons_append, max_int, min_int, modify_concat, part1, List.take_succ_cons, List.take_left, List.take_zero, List.take_nil, app_stk, app_tk, app_lp, set_stk, set_tk, set_lp, set_set, n_load, n_load0, n_old, n_store, n_store0, n_store_old, n_leave, n_leave0, n_fin_v, n_fin_sl, n_fin_u, n_back, n_next, n_blk, n_blk0, n_set, n_set0, n_set_old, bs_size, bs_inj, mk_bs, noPan, onRet, hN, hT, hL, List.toList_toArray, aNilCheck, AM.aExtract, canon, canonA, canonC, List.map_cons, List.map_nil, List.modify_zero_cons, List.modify_succ_cons, AM.part, List.drop_zero, List.drop_succ_cons, List.drop_nil, n_fin_tup, n_fin_agg, flatA, flatA.flatD, AM.flatC, List.all_cons, List.all_nil, -Option.bind_some, F9_ev, len_9, hl']
  · have hl' : ¬ ((16384 : Int) < (l.length : Int)) := by omega
    have e10 : ∀ X, E L (.func 10) [str l] X = _ := F10_ev (by omega)
    have e11 : ∀ X, E L (.func 11) [str l] X = _ := F11_ev (by omega)
    have hlen := lexT_len l
    have hit := is_loop (ts := lexT l) (by omega) (lexF l) hN hT hL (lexT l).length 0 rfl (by omega)
    have hll := toksE_len (lexT l)
    simp only [fltC, Int.natCast_zero] at e10 e11 hit
    generalize lexF l = f at e10 e11 hit
    generalize hg : (lexT l).length = n at hit hll
    generalize toksE (lexT l) = ts at e10 e11 hit hll
    simp [S3, canon_v, canon_sl, canon_clo, canon_ptr, need_refl, elems_sl, sf_v, sf_sl, sf_ptr, sf_ptrh, sf_clo, sf_dead, sf_nil, sf_full, sf_fr, need_true, ibeq, beq_ba, nbeq, nble, nblt, AM.nth, List.getD_cons_succ, List.getD_cons_zero, bind_step, Option.bind_none, Option.map_some, onBool, AM.onG, onFn, seqK, retK, Ex.outOf, cond_true, cond_false, bin_lss, bin_leq, bin_gtr, bin_geq, bin_eql, bin_neq, bin_add, bin_sub, bin_mul, un_not, str_eql, str_neq, app_push, load_fp, AM.ownPut, AM.cellsOf, AM.shift, aPick, beq_true, okSz, List.length_cons, List.length_nil, Nat.zero_add, Nat.add_zero, Nat.reduceAdd, decide_true, decide_false, Bool.and_true, Bool.true_and, Bool.and_self, Bool.not_true, Bool.not_false, List.getElem?_cons_zero, List.getElem?_cons_succ, List.nil_append, List.cons_append, max_int, min_int, modify_concat, part1, List.take_succ_cons, List.take_left, List.take_zero, List.take_nil, app_stk, app_tk, app_lp, set_stk, set_tk, set_lp, set_set, n_load, n_load0, n_old, n_store, n_store0, n_store_old, n_leave, n_leave0, n_fin_v, n_fin_sl, n_fin_u, n_back, n_next, n_blk, n_blk0, n_set, n_set0, n_set_old, bs_size, bs_inj, mk_bs, noPan, onRet, hN, hT, hL, List.toList_toArray, aNilCheck, AM.aExtract, canon, canonA, canonC, List.map_cons, List.map_nil, List.modify_zero_cons, List.modify_succ_cons, AM.part, List.drop_zero, List.drop_succ_cons, List.drop_nil, n_fin_tup, n_fin_agg, flatA, flatA.flatD, AM.flatC, List.all_cons, List.all_nil, -Option.bind_some, F9_ev, len_9, hl', e10, e11, len_23, len_29, hll, hit, laid, okCells]
end Go.Proofs.YtbbaalimilcppaaDoor.S

/- The lexer: LexIs is answered true. No condition. -/
namespace Go.Proofs.YtbbaalimilcppaaDoor.Pure
open Go Go.AM Go.Proofs
theorem LexIs_ev (s : ByteArray) : ∃ k st', evF S.L k (.func 3) [.v (.string s)] st0 = some (.v (.bool true), st') := by
  obtain ⟨k, hk⟩ := E_evF (S.LexIs_ev s st0)
  exact ⟨k, st0, hk⟩
end Go.Proofs.YtbbaalimilcppaaDoor.Pure
