/- The lexer: LexNames. No condition. -/
import Derived.Test.YtbbaalimilcppaaDoorGS6
set_option linter.all false
namespace Go.Proofs.YtbbaalimilcppaaDoor.S
open Go Go.AM Go.Proofs
set_option linter.unusedVariables false
set_option linter.unusedSimpArgs false
/-- What holds of all tokens of a text holds of each. -/
theorem toks_all {q : Tok → Prop} (h0 : ∀ p, q ⟨0, [], 0, p⟩) (h1 : ∀ c l p, blk1 (c :: l) = 0 → (tokR (c :: l)).2.2.2 = true → q (tokAt (c :: l) p)) : ∀ (k : Nat) (rest : List UInt8) (p : Nat × Nat), rest.length = k → ∀ ts, lexL rest p = .ok ts → ∀ t ∈ ts, q t := by
  intro k
  induction k using Nat.strongRecOn with
  | ind k ih =>
    intro rest p hk ts h
    cases rest with
    | nil =>
      rw [lexL_nil] at h
      obtain rfl := LR.ok.inj h
      intro t ht
      rw [List.mem_singleton] at ht
      subst ht
      exact h0 p
    | cons c l =>
      by_cases hb : blk1 (c :: l) = 0
      · cases ht : (tokR (c :: l)).2.2.2 with
        | false => rw [lexL_err hb ht] at h; cases h
        | true =>
          rw [lexL_tok hb ht] at h
          have hpos := tokR_pos ht
          have hdl : ((c :: l).drop (tokR (c :: l)).2.1).length = (c :: l).length - (tokR (c :: l)).2.1 := List.length_drop ..
          cases hr : lexL ((c :: l).drop (tokR (c :: l)).2.1) (adv ((c :: l).take (tokR (c :: l)).2.1) p) with
          | err q => rw [hr] at h; cases h
          | ok ts' =>
            rw [hr] at h
            obtain rfl := LR.ok.inj h
            intro t hm
            rcases List.mem_cons.1 hm with rfl | hm
            · exact h1 c l p hb ht
            · exact ih _ (by simp only [List.length_cons] at hdl hk; omega) _ _ rfl ts' hr t hm
      · rw [lexL_blank hb] at h
        have hdl : ((c :: l).drop (blk1 (c :: l))).length = (c :: l).length - blk1 (c :: l) := List.length_drop ..
        exact ih _ (by simp only [List.length_cons] at hdl hk; omega) _ _ rfl ts h
theorem tok_kind {rest : List UInt8} {p : Nat × Nat} {ts : List Tok} (h : lexL rest p = .ok ts) : ∀ t ∈ ts, (t.kind = 1 → nameB t.text = true) ∧ (t.kind = 2 → wordB t.text = true) := by
  refine toks_all (q := fun t => (t.kind = 1 → nameB t.text = true) ∧ (t.kind = 2 → wordB t.text = true)) (fun p => ⟨fun h => (by cases h), fun h => (by cases h)⟩) (fun c l p hb ht => ?_) rest.length rest p rfl ts h
  unfold tokAt
  cases ha : alnB c with
  | true =>
    rw [tokR_aln ha]
    dsimp only
    unfold wordR
    split
    · rename_i hw; exact ⟨fun h => (by cases h), fun _ => hw⟩
    · split
      · rename_i hn; exact ⟨fun _ => hn, fun h => (by cases h)⟩
      · exact ⟨fun h => (by cases h), fun h => (by cases h)⟩
  | false =>
    by_cases hc : c = 35
    · subst hc; rw [tokR_real]; exact ⟨fun h => (by cases h), fun h => (by cases h)⟩
    · rw [tokR_sign ha hc]; exact ⟨fun h => (by cases h), fun h => (by cases h)⟩
theorem aln_blk {c : UInt8} (h : alnB c = true) (l : List UInt8) : blk1 (c :: l) = 0 := by
  have h1 : ([47, 47] : List UInt8).isPrefixOf (c :: l) = false := by
    cases hq : ([47, 47] : List UInt8).isPrefixOf (c :: l) with
    | false => rfl
    | true =>
      simp only [List.isPrefixOf, Bool.and_eq_true, beq_iff_eq] at hq
      obtain ⟨rfl, _⟩ := hq
      revert h; decide
  have h2 : blkB c = false := by
    cases hq : blkB c with
    | false => rfl
    | true =>
      have h4 : c = 32 ∨ c = 9 ∨ c = 13 ∨ c = 10 := by simpa [blkB] using hq
      rcases h4 with rfl | rfl | rfl | rfl <;> (revert h; decide)
  rw [blk1, if_neg (by rw [h1]; simp), if_neg (by rw [h2]; simp)]
theorem span_full {q : UInt8 → Bool} : ∀ {l : List UInt8}, l.all q = true → spanN q l = l.length
  | [], _ => rfl
  | c :: l, h => by
    rw [List.all_cons, Bool.and_eq_true] at h
    rw [spanN_cons, if_pos h.1, span_full h.2]; rfl
theorem word_aln {l : List UInt8} (h : wordB l = true) : l ≠ [] ∧ l.all alnB = true := by
  have key : ∀ w ∈ wordsL, w ≠ [] ∧ w.all alnB = true := by decide
  exact key l (by simpa [wordB] using h)
theorem name_aln {l : List UInt8} (h : nameB l = true) : l ≠ [] ∧ l.all alnB = true := by
  cases l with
  | nil => simp [nameB] at h
  | cons c r =>
    simp only [nameB, nameP, Bool.and_eq_true] at h
    refine ⟨by simp, ?_⟩
    rw [List.all_cons, h.1.2.2, show alnB c = true by simp [alnB, h.1.2.1]]
    rfl
theorem lex_one {l : List UInt8} (h : wordB l = true ∨ nameB l = true) (p : Nat × Nat) : ∃ k q, (k = 1 ∨ k = 2) ∧ lexL l p = .ok [⟨k, l, 0, p⟩, ⟨0, [], 0, q⟩] := by
  obtain ⟨h0, hall⟩ : l ≠ [] ∧ l.all alnB = true := by
    rcases h with h | h
    · exact word_aln h
    · exact name_aln h
  have hsp := span_full hall
  cases l with
  | nil => exact absurd rfl h0
  | cons c r =>
    have hc : alnB c = true := by
      rw [List.all_cons, Bool.and_eq_true] at hall; exact hall.1
    have ht := tokR_aln (l := r) hc
    rw [hsp, List.take_length] at ht
    obtain ⟨k, hk, hw⟩ : ∃ k, (k = 1 ∨ k = 2) ∧ wordR (c :: r) = (k, 0, true) := by
      unfold wordR
      cases hq : wordB (c :: r) with
      | true => exact ⟨2, .inr rfl, rfl⟩
      | false =>
        have hn : nameB (c :: r) = true := by
          rcases h with h | h
          · rw [hq] at h; cases h
          · exact h
        rw [hn]
        exact ⟨1, .inl rfl, rfl⟩
    rw [hw] at ht
    refine ⟨k, adv ((c :: r).take (c :: r).length) p, hk, ?_⟩
    rw [lexL_tok (aln_blk hc r) (by rw [ht]), ht, tokAt, ht]
    dsimp only
    rw [List.drop_length, lexL_nil, List.take_length]
    rfl
/-- A name, or a word, is one token; and nothing else is such a one. -/
theorem names_law {l : List UInt8} (hl : l.length ≤ 8192) : (nameB l = true ∨ wordB l = true) ↔ ∃ t e, lexT l = [t, e] ∧ lexF l = (0, 0, 0) ∧ t.text = l ∧ (t.kind = 1 ∨ t.kind = 2) := by
  have ok : ∀ ts, lexL l (1, 1) = .ok ts → lexT l = ts ∧ lexF l = (0, 0, 0) := fun ts h => by
    rw [lexT, lexF, if_neg (by omega), if_neg (by omega), h]; exact ⟨rfl, rfl⟩
  have er : ∀ q, lexL l (1, 1) = .err q → lexT l = [] := fun q h => by rw [lexT, if_neg (by omega), h]
  constructor
  · intro h
    obtain ⟨k, q, hk, hx⟩ := lex_one h.symm (1, 1)
    exact ⟨_, _, (ok _ hx).1, (ok _ hx).2, rfl, hk⟩
  · rintro ⟨t, e, h1, h2, h3, h4⟩
    cases hx : lexL l (1, 1) with
    | err q => rw [er q hx] at h1; cases h1
    | ok ts =>
      have := tok_kind hx t (by rw [← (ok ts hx).1, h1]; simp)
      rw [h3] at this
      rcases h4 with h4 | h4
      · exact .inl (this.1 h4)
      · exact .inr (this.2 h4)
section
attribute [local congr] bind_stop
set_option maxRecDepth 100000
set_option maxHeartbeats 1000000
theorem LexNames_ev (s : ByteArray) (st : St) : E L (.func 4) [.v (.string s)] st = some (.v (.bool true), st) := by
  obtain ⟨l, rfl⟩ : ∃ l, s = bs l := ⟨s.data.toList, (bs_toList s).symm⟩
  rw [S4_eq]
  obtain ⟨N, hN⟩ : ∃ q, st.stk.length = q := ⟨_, rfl⟩
  obtain ⟨T, hT⟩ : ∃ q, st.tk.length = q := ⟨_, rfl⟩
  obtain ⟨Lb, hL⟩ : ∃ q, st.lp.length = q := ⟨_, rfl⟩
  conv => lhs; rw [← app_nil (st)]
  by_cases hl : 1000 < l.length
  · have hl' : (1000 : Int) < (l.length : Int) := by omega
    simp [S4, canon_v, canon_sl, canon_clo, canon_ptr, need_refl, elems_sl, sf_v, sf_sl, sf_ptr, sf_ptrh, sf_clo, sf_dead, sf_nil, sf_full, sf_fr, need_true, ibeq, beq_ba, nbeq, nble, nblt, AM.nth, List.getD_cons_succ, List.getD_cons_zero, bind_step, Option.bind_none, Option.map_some, onBool, AM.onG, onFn, seqK, retK, Ex.outOf, cond_true, cond_false, bin_lss, bin_leq, bin_gtr, bin_geq, bin_eql, bin_neq, bin_add, bin_sub, bin_mul, un_not, str_eql, str_neq, app_push, load_fp, AM.ownPut, AM.cellsOf, AM.shift, aPick, beq_true, okSz, List.length_cons, List.length_nil, Nat.zero_add, Nat.add_zero, Nat.reduceAdd, decide_true, decide_false, Bool.and_true, Bool.true_and, Bool.and_self, Bool.not_true, Bool.not_false, List.getElem?_cons_zero, List.getElem?_cons_succ, List.nil_append, List.cons_append, max_int, min_int, modify_concat, part1, List.take_succ_cons, List.take_left, List.take_zero, List.take_nil, app_stk, app_tk, app_lp, set_stk, set_tk, set_lp, set_set, n_load, n_load0, n_old, n_store, n_store0, n_store_old, n_leave, n_leave0, n_fin_v, n_fin_sl, n_fin_u, n_back, n_next, n_blk, n_blk0, n_set, n_set0, n_set_old, bs_size, bs_inj, mk_bs, noPan, onRet, hN, hT, hL, List.toList_toArray, aNilCheck, AM.aExtract, canon, canonA, canonC, List.map_cons, List.map_nil, List.modify_zero_cons, List.modify_succ_cons, AM.part, List.drop_zero, List.drop_succ_cons, List.drop_nil, n_fin_tup, n_fin_agg, flatA, flatA.flatD, AM.flatC, List.all_cons, List.all_nil, -Option.bind_some, F9_ev, len_9, hl']
  have hl' : ¬ ((1000 : Int) < (l.length : Int)) := by omega
  have e13 : ∀ X, E L (.func 13) [str l] X = some (.v (.bool (nameB l)), X) := F13_ev (by omega)
  have e14 : ∀ X, E L (.func 14) [str l] X = some (.v (.bool (wordB l)), X) := F14_ev (by omega)
  have e15 : ∀ X, E L (.func 15) [str l] X = some (.v (.bool (nameB l)), X) := F15_ev (by omega)
  have e16 : ∀ X, E L (.func 16) [str l] X = some (.v (.bool (wordB l)), X) := F16_ev l
  have e10 : ∀ X, E L (.func 10) [str l] X = _ := F10_ev (by omega)
  have hlaw := names_law (l := l) (by omega)
  have hnw : nameB l = true → wordB l = false := fun h => by simp only [nameB, Bool.and_eq_true, Bool.not_eq_true'] at h; exact h.2
  have hll := toksE_len (lexT l)
  have hi := ia23 (ts := lexT l) (i := 0) (c := .dead) .i64
  have hff : (lexF l).1 = 0 → lexF l = (0, 0, 0) := by
    unfold lexF
    split
    · intro h; cases h
    · cases lexL l (1, 1) with
      | ok ts => intro _; rfl
      | err q => intro h; cases h
  by_cases hH : nameB l = true ∨ wordB l = true
  · obtain ⟨t, e, h1, h2, h3, h4⟩ := hlaw.1 hH
    rw [h1] at e10 hll hi
    rw [h2] at e10
    have hi := hi (by simp)
    simp only [List.getElem_cons_zero, Tok.c, tokC, h3, Int.natCast_zero] at hi
    have hlen : ([t, e] : List Tok).length = 2 := rfl
    rw [hlen] at hll
    simp only [fltC, Int.natCast_zero] at e10
    generalize toksE [t, e] = ts at *
    rcases hH with hn | hw
    · have hw := hnw hn
      rcases h4 with h4 | h4 <;>
        simp only [h4, Int.cast_ofNat_Int] at hi <;>
        simp [S4, canon_v, canon_sl, canon_clo, canon_ptr, need_refl, elems_sl, sf_v, sf_sl, sf_ptr, sf_ptrh, sf_clo, sf_dead, sf_nil, sf_full, sf_fr, need_true, ibeq, beq_ba, nbeq, nble, nblt, AM.nth, List.getD_cons_succ, List.getD_cons_zero, bind_step, Option.bind_none, Option.map_some, onBool, AM.onG, onFn, seqK, retK, Ex.outOf, cond_true, cond_false, bin_lss, bin_leq, bin_gtr, bin_geq, bin_eql, bin_neq, bin_add, bin_sub, bin_mul, un_not, str_eql, str_neq, app_push, load_fp, AM.ownPut, AM.cellsOf, AM.shift, aPick, beq_true, okSz, List.length_cons, List.length_nil, Nat.zero_add, Nat.add_zero, Nat.reduceAdd, decide_true, decide_false, Bool.and_true, Bool.true_and, Bool.and_self, Bool.not_true, Bool.not_false, List.getElem?_cons_zero, List.getElem?_cons_succ, List.nil_append, List.cons_append, max_int, min_int, modify_concat, part1, List.take_succ_cons, List.take_left, List.take_zero, List.take_nil, app_stk, app_tk, app_lp, set_stk, set_tk, set_lp, set_set, n_load, n_load0, n_old, n_store, n_store0, n_store_old, n_leave, n_leave0, n_fin_v, n_fin_sl, n_fin_u, n_back, n_next, n_blk, n_blk0, n_set, n_set0, n_set_old, bs_size, bs_inj, mk_bs, noPan, onRet, hN, hT, hL, List.toList_toArray, aNilCheck, AM.aExtract, canon, canonA, canonC, List.map_cons, List.map_nil, List.modify_zero_cons, List.modify_succ_cons, AM.part, List.drop_zero, List.drop_succ_cons, List.drop_nil, n_fin_tup, n_fin_agg, flatA, flatA.flatD, AM.flatC, List.all_cons, List.all_nil, -Option.bind_some, F9_ev, len_9, hl', e13, e14, e15, e16, e10, hn, hw, hi, hll, len_23, steq_26, beq_4, bne_4, rBuild, fillP, laid, okCells]
    · have hn : nameB l = false := by
        cases hq : nameB l with
        | false => rfl
        | true => rw [hnw hq] at hw; cases hw
      rcases h4 with h4 | h4 <;>
        simp only [h4, Int.cast_ofNat_Int] at hi <;>
        simp [S4, canon_v, canon_sl, canon_clo, canon_ptr, need_refl, elems_sl, sf_v, sf_sl, sf_ptr, sf_ptrh, sf_clo, sf_dead, sf_nil, sf_full, sf_fr, need_true, ibeq, beq_ba, nbeq, nble, nblt, AM.nth, List.getD_cons_succ, List.getD_cons_zero, bind_step, Option.bind_none, Option.map_some, onBool, AM.onG, onFn, seqK, retK, Ex.outOf, cond_true, cond_false, bin_lss, bin_leq, bin_gtr, bin_geq, bin_eql, bin_neq, bin_add, bin_sub, bin_mul, un_not, str_eql, str_neq, app_push, load_fp, AM.ownPut, AM.cellsOf, AM.shift, aPick, beq_true, okSz, List.length_cons, List.length_nil, Nat.zero_add, Nat.add_zero, Nat.reduceAdd, decide_true, decide_false, Bool.and_true, Bool.true_and, Bool.and_self, Bool.not_true, Bool.not_false, List.getElem?_cons_zero, List.getElem?_cons_succ, List.nil_append, List.cons_append, max_int, min_int, modify_concat, part1, List.take_succ_cons, List.take_left, List.take_zero, List.take_nil, app_stk, app_tk, app_lp, set_stk, set_tk, set_lp, set_set, n_load, n_load0, n_old, n_store, n_store0, n_store_old, n_leave, n_leave0, n_fin_v, n_fin_sl, n_fin_u, n_back, n_next, n_blk, n_blk0, n_set, n_set0, n_set_old, bs_size, bs_inj, mk_bs, noPan, onRet, hN, hT, hL, List.toList_toArray, aNilCheck, AM.aExtract, canon, canonA, canonC, List.map_cons, List.map_nil, List.modify_zero_cons, List.modify_succ_cons, AM.part, List.drop_zero, List.drop_succ_cons, List.drop_nil, n_fin_tup, n_fin_agg, flatA, flatA.flatD, AM.flatC, List.all_cons, List.all_nil, -Option.bind_some, F9_ev, len_9, hl', e13, e14, e15, e16, e10, hn, hw, hi, hll, len_23, steq_26, beq_4, bne_4, rBuild, fillP, laid, okCells]
  · have hn : nameB l = false := by
      cases hq : nameB l with
      | false => rfl
      | true => exact absurd (.inl hq) hH
    have hw : wordB l = false := by
      cases hq : wordB l with
      | false => rfl
      | true => exact absurd (.inr hq) hH
    by_cases hf : (lexF l).1 = 0
    · have hff := hff hf
      rw [hff] at e10
      simp only [fltC, Int.natCast_zero] at e10
      by_cases h2 : (lexT l).length = 2
      · obtain ⟨t, e, h1⟩ : ∃ t e, lexT l = [t, e] := by
          match hq : lexT l, h2 with
          | [t, e], _ => exact ⟨t, e, rfl⟩
        rw [h1] at e10 hll hi
        have hi := hi (by simp)
        simp only [List.getElem_cons_zero, Tok.c, tokC, Int.natCast_zero] at hi
        have hlen : ([t, e] : List Tok).length = 2 := rfl
        rw [hlen] at hll
        generalize toksE [t, e] = ts at *
        by_cases ht : t.text = l
        · have hk1 : ¬ (t.kind = 1) := fun h => hH (hlaw.2 ⟨t, e, h1, hff, ht, .inl h⟩)
          have hk2 : ¬ (t.kind = 2) := fun h => hH (hlaw.2 ⟨t, e, h1, hff, ht, .inr h⟩)
          have hk1' : ¬ ((t.kind : Int) = 1) := by omega
          have hk2' : ¬ ((t.kind : Int) = 2) := by omega
          simp [S4, canon_v, canon_sl, canon_clo, canon_ptr, need_refl, elems_sl, sf_v, sf_sl, sf_ptr, sf_ptrh, sf_clo, sf_dead, sf_nil, sf_full, sf_fr, need_true, ibeq, beq_ba, nbeq, nble, nblt, AM.nth, List.getD_cons_succ, List.getD_cons_zero, bind_step, Option.bind_none, Option.map_some, onBool, AM.onG, onFn, seqK, retK, Ex.outOf, cond_true, cond_false, bin_lss, bin_leq, bin_gtr, bin_geq, bin_eql, bin_neq, bin_add, bin_sub, bin_mul, un_not, str_eql, str_neq, app_push, load_fp, AM.ownPut, AM.cellsOf, AM.shift, aPick, beq_true, okSz, List.length_cons, List.length_nil, Nat.zero_add, Nat.add_zero, Nat.reduceAdd, decide_true, decide_false, Bool.and_true, Bool.true_and, Bool.and_self, Bool.not_true, Bool.not_false, List.getElem?_cons_zero, List.getElem?_cons_succ, List.nil_append, List.cons_append, max_int, min_int, modify_concat, part1, List.take_succ_cons, List.take_left, List.take_zero, List.take_nil, app_stk, app_tk, app_lp, set_stk, set_tk, set_lp, set_set, n_load, n_load0, n_old, n_store, n_store0, n_store_old, n_leave, n_leave0, n_fin_v, n_fin_sl, n_fin_u, n_back, n_next, n_blk, n_blk0, n_set, n_set0, n_set_old, bs_size, bs_inj, mk_bs, noPan, onRet, hN, hT, hL, List.toList_toArray, aNilCheck, AM.aExtract, canon, canonA, canonC, List.map_cons, List.map_nil, List.modify_zero_cons, List.modify_succ_cons, AM.part, List.drop_zero, List.drop_succ_cons, List.drop_nil, n_fin_tup, n_fin_agg, flatA, flatA.flatD, AM.flatC, List.all_cons, List.all_nil, -Option.bind_some, F9_ev, len_9, hl', e13, e14, e15, e16, e10, hn, hw, hi, hll, ht, hk1', hk2', len_23, steq_26, beq_4, bne_4, rBuild, fillP, laid, okCells]
        · simp [S4, canon_v, canon_sl, canon_clo, canon_ptr, need_refl, elems_sl, sf_v, sf_sl, sf_ptr, sf_ptrh, sf_clo, sf_dead, sf_nil, sf_full, sf_fr, need_true, ibeq, beq_ba, nbeq, nble, nblt, AM.nth, List.getD_cons_succ, List.getD_cons_zero, bind_step, Option.bind_none, Option.map_some, onBool, AM.onG, onFn, seqK, retK, Ex.outOf, cond_true, cond_false, bin_lss, bin_leq, bin_gtr, bin_geq, bin_eql, bin_neq, bin_add, bin_sub, bin_mul, un_not, str_eql, str_neq, app_push, load_fp, AM.ownPut, AM.cellsOf, AM.shift, aPick, beq_true, okSz, List.length_cons, List.length_nil, Nat.zero_add, Nat.add_zero, Nat.reduceAdd, decide_true, decide_false, Bool.and_true, Bool.true_and, Bool.and_self, Bool.not_true, Bool.not_false, List.getElem?_cons_zero, List.getElem?_cons_succ, List.nil_append, List.cons_append, max_int, min_int, modify_concat, part1, List.take_succ_cons, List.take_left, List.take_zero, List.take_nil, app_stk, app_tk, app_lp, set_stk, set_tk, set_lp, set_set, n_load, n_load0, n_old, n_store, n_store0, n_store_old, n_leave, n_leave0, n_fin_v, n_fin_sl, n_fin_u, n_back, n_next, n_blk, n_blk0, n_set, n_set0, n_set_old, bs_size, bs_inj, mk_bs, noPan, onRet, hN, hT, hL, List.toList_toArray, aNilCheck, AM.aExtract, canon, canonA, canonC, List.map_cons, List.map_nil, List.modify_zero_cons, List.modify_succ_cons, AM.part, List.drop_zero, List.drop_succ_cons, List.drop_nil, n_fin_tup, n_fin_agg, flatA, flatA.flatD, AM.flatC, List.all_cons, List.all_nil, -Option.bind_some, F9_ev, len_9, hl', e13, e14, e15, e16, e10, hn, hw, hi, hll, ht, len_23, steq_26, beq_4, bne_4, rBuild, fillP, laid, okCells]
      · have h2' : ¬ (((lexT l).length : Int) = 2) := by omega
        clear hi hlaw
        generalize (lexT l).length = n at *
        generalize toksE (lexT l) = ts at *
        simp [S4, canon_v, canon_sl, canon_clo, canon_ptr, need_refl, elems_sl, sf_v, sf_sl, sf_ptr, sf_ptrh, sf_clo, sf_dead, sf_nil, sf_full, sf_fr, need_true, ibeq, beq_ba, nbeq, nble, nblt, AM.nth, List.getD_cons_succ, List.getD_cons_zero, bind_step, Option.bind_none, Option.map_some, onBool, AM.onG, onFn, seqK, retK, Ex.outOf, cond_true, cond_false, bin_lss, bin_leq, bin_gtr, bin_geq, bin_eql, bin_neq, bin_add, bin_sub, bin_mul, un_not, str_eql, str_neq, app_push, load_fp, AM.ownPut, AM.cellsOf, AM.shift, aPick, beq_true, okSz, List.length_cons, List.length_nil, Nat.zero_add, Nat.add_zero, Nat.reduceAdd, decide_true, decide_false, Bool.and_true, Bool.true_and, Bool.and_self, Bool.not_true, Bool.not_false, List.getElem?_cons_zero, List.getElem?_cons_succ, List.nil_append, List.cons_append, max_int, min_int, modify_concat, part1, List.take_succ_cons, List.take_left, List.take_zero, List.take_nil, app_stk, app_tk, app_lp, set_stk, set_tk, set_lp, set_set, n_load, n_load0, n_old, n_store, n_store0, n_store_old, n_leave, n_leave0, n_fin_v, n_fin_sl, n_fin_u, n_back, n_next, n_blk, n_blk0, n_set, n_set0, n_set_old, bs_size, bs_inj, mk_bs, noPan, onRet, hN, hT, hL, List.toList_toArray, aNilCheck, AM.aExtract, canon, canonA, canonC, List.map_cons, List.map_nil, List.modify_zero_cons, List.modify_succ_cons, AM.part, List.drop_zero, List.drop_succ_cons, List.drop_nil, n_fin_tup, n_fin_agg, flatA, flatA.flatD, AM.flatC, List.all_cons, List.all_nil, -Option.bind_some, F9_ev, len_9, hl', e13, e14, e15, e16, e10, hn, hw, hll, h2', len_23, steq_26, beq_4, bne_4, rBuild, fillP, laid, okCells]
    · simp only [fltC] at e10
      generalize lexF l = f at *
      generalize toksE (lexT l) = ts at *
      simp [S4, canon_v, canon_sl, canon_clo, canon_ptr, need_refl, elems_sl, sf_v, sf_sl, sf_ptr, sf_ptrh, sf_clo, sf_dead, sf_nil, sf_full, sf_fr, need_true, ibeq, beq_ba, nbeq, nble, nblt, AM.nth, List.getD_cons_succ, List.getD_cons_zero, bind_step, Option.bind_none, Option.map_some, onBool, AM.onG, onFn, seqK, retK, Ex.outOf, cond_true, cond_false, bin_lss, bin_leq, bin_gtr, bin_geq, bin_eql, bin_neq, bin_add, bin_sub, bin_mul, un_not, str_eql, str_neq, app_push, load_fp, AM.ownPut, AM.cellsOf, AM.shift, aPick, beq_true, okSz, List.length_cons, List.length_nil, Nat.zero_add, Nat.add_zero, Nat.reduceAdd, decide_true, decide_false, Bool.and_true, Bool.true_and, Bool.and_self, Bool.not_true, Bool.not_false, List.getElem?_cons_zero, List.getElem?_cons_succ, List.nil_append, List.cons_append, max_int, min_int, modify_concat, part1, List.take_succ_cons, List.take_left, List.take_zero, List.take_nil, app_stk, app_tk, app_lp, set_stk, set_tk, set_lp, set_set, n_load, n_load0, n_old, n_store, n_store0, n_store_old, n_leave, n_leave0, n_fin_v, n_fin_sl, n_fin_u, n_back, n_next, n_blk, n_blk0, n_set, n_set0, n_set_old, bs_size, bs_inj, mk_bs, noPan, onRet, hN, hT, hL, List.toList_toArray, aNilCheck, AM.aExtract, canon, canonA, canonC, List.map_cons, List.map_nil, List.modify_zero_cons, List.modify_succ_cons, AM.part, List.drop_zero, List.drop_succ_cons, List.drop_nil, n_fin_tup, n_fin_agg, flatA, flatA.flatD, AM.flatC, List.all_cons, List.all_nil, -Option.bind_some, F9_ev, len_9, hl', e13, e14, e15, e16, e10, hn, hw, hf, len_23, steq_26, beq_4, bne_4, rBuild, fillP, laid, okCells]
end
end Go.Proofs.YtbbaalimilcppaaDoor.S

/- The lexer: LexNames is answered true. No condition. -/
namespace Go.Proofs.YtbbaalimilcppaaDoor.Pure
open Go Go.AM Go.Proofs
theorem LexNames_ev (s : ByteArray) : ∃ k st', evF S.L k (.func 4) [.v (.string s)] st0 = some (.v (.bool true), st') := by
  obtain ⟨k, hk⟩ := E_evF (S.LexNames_ev s st0)
  exact ⟨k, st0, hk⟩
end Go.Proofs.YtbbaalimilcppaaDoor.Pure
