/- Trees: All, and what it goes over. No condition. -/
import Derived.Test.YtkbhejcfejembaaWk
set_option linter.all false
namespace Go.Proofs.Ytkbhejcfejembaa.S
open Go Go.AM Go.Proofs
set_option linter.unusedVariables false
set_option linter.unusedSimpArgs false

theorem all_ev (xs : List S) (st : St) : E L (.func 26) [.sl (sencs xs) .dead] st = some (.clo (.func 45) [.ptr true st.hp.length 0], st.hpp [⟨[.sl (sencs xs) .dead], []⟩]) := by
  rw [S26_eq]
  have h1 : aBox true [.sl (sencs xs) .dead] st = some (.ptr true st.hp.length 0, st.hpp [⟨[.sl (sencs xs) .dead], []⟩]) := by
    simp [aBox, okCells, moveCs, moveC, St.hpush, St.setBlk, St.upB, St.hpp, modify_concat]
  have h2 : fin st.stk.length st.tk.length st.lp.length [.clo (.func 45) [.ptr true st.hp.length 0]] (st.hpp [⟨[.sl (sencs xs) .dead], []⟩]) = some (.clo (.func 45) [.ptr true st.hp.length 0], st.hpp [⟨[.sl (sencs xs) .dead], []⟩]) := by
    have : (st.hpp [⟨[.sl (sencs xs) .dead], []⟩]).back st.stk.length st.tk.length st.lp.length = st.hpp [⟨[.sl (sencs xs) .dead], []⟩] := by simp [St.back, St.hpp]
    simp only [fin, this]
    rfl
  simp only [S26, AM.cellsOf, Option.bind_some, h1, aMakeFunc, plainFn, Bool.and_self, cond_true, List.map_cons, List.map_nil, canon_ptr, h2]

theorem all1_ev {st st' : St} {b : Nat} {xs : List S} {i : Nat} {r : PV} (hb : st.blk true b = some [.sl (sencs xs) .dead]) (h : E L (.func 46) [.sl (sencs xs) .dead, int 0, .clo (.yield i) []] st = some (r, st'))
    (h1 : st'.stk.length = st.stk.length) (h2 : st'.tk.length = st.tk.length) (h3 : st'.lp.length = st.lp.length) : E L (.func 45) [.clo (.yield i) [], .ptr true b 0] st = some (.tup [], st') := by
  have hl : aLoad false 1 (.ptr true b 0) st = some (.sl (sencs xs) .dead) := by simp [aLoad, hb, AM.part]
  have hback : st'.back st.stk.length st.tk.length st.lp.length = st' := by simp only [St.back, ← h1, ← h2, ← h3, List.take_length]
  have hc : canon (.clo (.yield i) []) = .clo (.yield i) [] := rfl
  rw [S45_eq]
  simp only [S45, hl, Option.bind_some, canon_sl, canon_v, hc, h]
  simp only [fin, hback]
  rfl

mutual
theorem S.flat_sz : ∀ (x : S) (d : Int), ∀ y ∈ x.flat d, y.1.sz ≤ x.sz
  | ⟨op, name, right, place, e, n, args, body, els, l, c⟩, d => fun y hy => by
    have h1 := flats_sz body (d + 1)
    have h2 := flats_sz els (d + 1)
    simp only [S.flat, List.mem_cons, List.mem_append] at hy
    rcases hy with rfl | hy | hy
    · exact Nat.le_refl _
    · have := h1 y hy; simp only [S.sz]; omega
    · have := h2 y hy; simp only [S.sz]; omega
theorem flats_sz : ∀ (xs : List S) (d : Int), ∀ y ∈ flats xs d, y.1.sz ≤ sszs xs
  | [], d => fun y hy => by simp [flats] at hy
  | x :: xs, d => fun y hy => by
    simp only [flats, List.mem_append] at hy
    rcases hy with hy | hy
    · have := S.flat_sz x d y hy; simp [sszs]; omega
    · have := flats_sz xs d y hy; simp [sszs]; omega
end
theorem ss_get {W : List (S × Int)} {n : Nat} {x : S} {d : Int} (h : W[n]? = some (x, d)) : (ss W)[n]? = some x.enc := by simp [ss, sencs_map, h]
theorem ds_get {W : List (S × Int)} {n : Nat} {x : S} {d : Int} (h : W[n]? = some (x, d)) : (ds W)[n]? = some [int d] := by simp [ds, ints, h]

theorem S.still (x : S) : x.enc.all stillC = true := by simp only [S.enc_eq, Rt.enc, Pl.enc, X.enc_eq]; rfl
/-! ### what the statement's own All-watcher does -/
section
variable (s : St) (hs : List Blk) (W : List (S × Int)) (most : Int)
def gcnt (n : Nat) : Nat := min n most.toNat
def gbl (n : Nat) : List Blk := [⟨[int most], []⟩, ⟨[int 0], []⟩, ⟨[.v (.bool false)], []⟩, ⟨[.sl (ss W) .dead], []⟩, ⟨[.sl (ds W) .dead], []⟩, ⟨[int n], []⟩]
def gvs : List PV := [.ptr false s.stk.length 0, .ptr false (s.stk.length + 1) 0, .ptr false (s.stk.length + 2) 0, .ptr false (s.stk.length + 3) 0, .ptr false (s.stk.length + 4) 0, .ptr false (s.stk.length + 5) 0]
noncomputable def grec (n : Nat) : Lp := bif Nat.ble n most.toNat then S9.lp0 (gvs s) else { S9.lp0 (gvs s) with at_ := 2, pend := .exit 0 }
noncomputable def gst (n : Nat) : St := (s.hpp hs).app (gbl W most (gcnt most n)) [] [.loop (grec s most n)]

theorem gone_rnd (hW : ∀ y ∈ W, y.1.sz ≤ 1000000) (hl : W.length ≤ 1000000) (n : Nat) (x : S) (d : Int) (bl : List Blk) (ha : Alive (fun n => decide (n < most.toNat)) n) (h : W[n]? = some (x, d)) :
    E L (.yield s.lp.length) [int d, .agg x.enc] ((gst s hs W most n).app bl [] []) = some (.v (.bool (decide (n < most.toNat))), (gst s hs W most (n + 1)).app bl [] []) := by
  have hn : n ≤ most.toNat := by
    rcases Nat.lt_or_ge most.toNat n with hh | hh
    · have := ha most.toNat hh; simp at this
    · exact hh
  have hlt : n < W.length := (List.getElem?_eq_some_iff.1 h).1
  have hx := hW (x, d) (List.mem_of_getElem? h)
  have hc0 : gcnt most n = n := Nat.min_eq_left hn
  have hst : ∀ n bl, (gst s hs W most n).app bl [] [] = (s.hpp hs).app (gbl W most (gcnt most n) ++ bl) [] [.loop (grec s most n)] := fun n bl => by simp [gst, St.app]
  have hr0 : grec s most n = S9.lp0 (gvs s) := by simp [grec, nble, hn]
  have hw1 : IntKind.i64.wrap ((n : Int) + 1) = ((n + 1 : Nat) : Int) := by rw [IntWalk.i64_in _ (by omega)]; rfl
  have bx : ∀ z, z.length = 58 → rBuildSlice 58 z 1 [(0, .agg x.enc)] = some (.sl [x.enc] .full) := fun z hz => lit1 hz x.len x.pl x.len
  have hrow : ∀ st, E L (.func 15) [.sl [x.enc] .dead] st = some (.sl (strs (rowT [x])) .dead, st) := fun st => by
    have := row_ev 1000000 [x] (by simp [sszs]; exact hx) (Nat.le_refl _) st
    simpa [sencs] using this
  have hsame := fun st => ssm_ev (rowT [x]) (rowT [x]) (by have := stxs_len [x]; rw [rowT_len]; simp [sszs] at this hx ⊢; omega) st
  have g1 := ss_get h
  have g2 := ds_get h
  have i1 : inRange (n : Int) W.length = true := by simp [inRange]; omega
  have hge : ¬ (n : Int) ≥ (W.length : Int) := by omega
  rw [hst, hst, hc0, hr0]
  rw [S9.r0_eq (hloop ..)]
  by_cases hg : n < most.toNat
  · have hlt2 : ¬ (n : Int) ≥ most := by omega
    have hc1 : gcnt most (n + 1) = n + 1 := Nat.min_eq_left hg
    have hr1 : grec s most (n + 1) = S9.lp0 (gvs s) := by simp only [grec, nble, decide_eq_true (show n + 1 ≤ most.toNat from hg), cond_true]
    rw [hc1, hr1]
    simp [S9.r0, gvs, gbl, canon_v, canon_sl, canon_clo, canon_ptr, need_refl, elems_sl, sf_v, sf_sl, sf_ptr, sf_ptrh, sf_clo, sf_dead, sf_nil, sf_full, sf_fr, need_true, ibeq, beq_ba, nbeq, nble, nblt, AM.nth, List.getD_cons_succ, List.getD_cons_zero, Option.bind_some, Option.bind_none, Option.map_some, onBool, AM.onG, onFn, seqK, retK, Ex.outOf, cond_true, cond_false, bin_lss, bin_leq, bin_gtr, bin_geq, bin_eql, bin_neq, bin_add, bin_sub, bin_mul, un_not, str_eql, str_neq, app_push, app_stk, app_tk, app_lp, load_app, load_app0, load_fp, store_app, store_app0, leave_app, leave_app0, AM.ownPut, AM.cellsOf, AM.shift, aPick, fin_v, fin_sl, beq_true, okSz, List.length_cons, List.length_nil, Nat.zero_add, Nat.add_zero, Nat.reduceAdd, decide_true, decide_false, Bool.and_true, Bool.true_and, Bool.and_self, Bool.not_true, Bool.not_false, List.getElem?_cons_zero, List.getElem?_cons_succ, List.nil_append, List.cons_append, hpp_app, hpp_stk, hpp_tk, hpp_lp, hpp_hp, app_lpadd, hload, hload0, hloadh, hstore, hstore0, hleave, hleave0, hfin_v, hfin_sl, hback, hloop, hsetlp, max_int, min_int, hstore_v, hstore_v0, hstore_s, hstore_d, modify_concat, part1, hbackt, hbackl, hback0, List.take_succ_cons, List.take_left, List.take_zero, List.take_nil, S.still, S.len, S.okc, laid0, beginR, hlt2, len_31, ss_len, hge, ia_22, ss_len, ds_len, i1, g1, g2, ia_31, S.whole, bx, hrow, hsame, hw1, okCells, laid, finR, isNormal, hg, S9.lp0]
  · have hge2 : (n : Int) ≥ most := by omega
    have hn2 : n = most.toNat := by omega
    have hc1 : gcnt most (n + 1) = n := by simp only [gcnt]; omega
    have hr1 : grec s most (n + 1) = { S9.lp0 (gvs s) with at_ := 2, pend := .exit 0 } := by simp only [grec, nble, decide_eq_false (show ¬ n + 1 ≤ most.toNat by omega), cond_false]
    rw [hc1, hr1]
    simp [S9.r0, gvs, gbl, canon_v, canon_sl, canon_clo, canon_ptr, need_refl, elems_sl, sf_v, sf_sl, sf_ptr, sf_ptrh, sf_clo, sf_dead, sf_nil, sf_full, sf_fr, need_true, ibeq, beq_ba, nbeq, nble, nblt, AM.nth, List.getD_cons_succ, List.getD_cons_zero, Option.bind_some, Option.bind_none, Option.map_some, onBool, AM.onG, onFn, seqK, retK, Ex.outOf, cond_true, cond_false, bin_lss, bin_leq, bin_gtr, bin_geq, bin_eql, bin_neq, bin_add, bin_sub, bin_mul, un_not, str_eql, str_neq, app_push, app_stk, app_tk, app_lp, load_app, load_app0, load_fp, store_app, store_app0, leave_app, leave_app0, AM.ownPut, AM.cellsOf, AM.shift, aPick, fin_v, fin_sl, beq_true, okSz, List.length_cons, List.length_nil, Nat.zero_add, Nat.add_zero, Nat.reduceAdd, decide_true, decide_false, Bool.and_true, Bool.true_and, Bool.and_self, Bool.not_true, Bool.not_false, List.getElem?_cons_zero, List.getElem?_cons_succ, List.nil_append, List.cons_append, hpp_app, hpp_stk, hpp_tk, hpp_lp, hpp_hp, app_lpadd, hload, hload0, hloadh, hstore, hstore0, hleave, hleave0, hfin_v, hfin_sl, hback, hloop, hsetlp, max_int, min_int, hstore_v, hstore_v0, hstore_s, hstore_d, modify_concat, part1, hbackt, hbackl, hback0, List.take_succ_cons, List.take_left, List.take_zero, List.take_nil, S.still, S.len, S.okc, laid0, beginR, hge2, finR, isNormal, hg, S9.lp0]

theorem gone_ev (xs : List S) (hz : sszs xs ≤ 100000) (most : Int) (s : St) (hs : List Blk) :
    E L (.func 9) [.sl (sencs xs) .dead, int most] ((s.hpp hs).app [] [] []) = some (.tup [int (min (flats xs 0).length most.toNat : Nat), .v (.bool true)], (s.hpp (hs ++ [⟨[.sl (sencs xs) .dead], []⟩])).app [] [] []) := by
  have hW : ∀ y ∈ flats xs 0, y.1.sz ≤ 1000000 := fun y hy => by have := flats_sz xs 0 y hy; omega
  have hl := flats_len xs 0
  have hfl : ∀ st, E L (.func 19) [.sl (sencs xs) .dead, int 0] st = some (.tup [.sl (ss (flats xs 0)) .dead, .sl (ds (flats xs 0)) .dead], st) := fun st => flat_ev 1000000 xs (by omega) (Nat.le_refl _) 0 (Int.le_refl _) (by omega) st
  generalize hWd : flats xs 0 = W at hW hl hfl
  let hs' := hs ++ [⟨[.sl (sencs xs) .dead], []⟩]
  have hw := walk_ev (W := W) (i := s.lp.length) (go := fun n => decide (n < most.toNat)) (s.stk.length + 6) s.tk.length (s.lp.length + 1) (gst s hs' W most)
    (fun n => by simp [gst, app_stk, hpp_stk, gbl]) (fun n => by simp [gst, app_tk, hpp_tk]) (fun n => by simp [gst, app_lp, hpp_lp]) (fun n x d bl ha h => gone_rnd s hs' W most hW (by omega) n x d bl ha h)
    1000000 xs (by omega) (Nat.le_refl _) 0 (Int.le_refl _) (by omega) 0 [] (fun m hm => absurd hm (Nat.not_lt_zero _)) (fun j hj => by rw [hWd, Nat.zero_add])
  rw [hWd] at hw
  have hcnt : ∀ k n, n ≤ most.toNat → gcnt most (run (fun n => decide (n < most.toNat)) n k).2 = min (n + k) most.toNat ∧ (grec s most (run (fun n => decide (n < most.toNat)) n k).2 = S9.lp0 (gvs s) ∨ grec s most (run (fun n => decide (n < most.toNat)) n k).2 = { S9.lp0 (gvs s) with at_ := 2, pend := .exit 0 }) := by
    intro k
    induction k with
    | zero => exact fun n hn => ⟨rfl, .inl (by simp only [run, grec, nble, decide_eq_true hn, cond_true])⟩
    | succ k ih =>
      intro n hn
      simp only [run]
      by_cases hg : n < most.toNat
      · simp only [decide_eq_true hg, cond_true]
        have := ih (n + 1) hg
        rwa [show n + 1 + k = n + (k + 1) by omega] at this
      · simp only [decide_eq_false hg, cond_false]
        refine ⟨by simp only [gcnt]; omega, .inr (by simp only [grec, nble, decide_eq_false (show ¬ n + 1 ≤ most.toNat by omega), cond_false])⟩
  obtain ⟨hc, hr⟩ := hcnt W.length 0 (Nat.zero_le _)
  rw [Nat.zero_add] at hc
  generalize hR : run (fun n => decide (n < most.toNat)) 0 W.length = R at hw hc hr
  have hg0 : gst s hs' W most 0 = (s.hpp hs').app [⟨[int most], []⟩, ⟨[int 0], []⟩, ⟨[.v (.bool false)], []⟩, ⟨[.sl (ss W) .dead], []⟩, ⟨[.sl (ds W) .dead], []⟩, ⟨[int 0], []⟩] [] [.loop (S9.lp0 (gvs s))] := by
    simp [gst, gbl, gcnt, grec, nble]
  have h45 := all1_ev (st := gst s hs' W most 0) (b := s.hp.length + hs.length) (i := s.lp.length) (xs := xs) (by rw [hg0, hpp_blk]; simp [hs']) (by simpa [app_nil] using hw) (by simp [gst, app_stk, hpp_stk, gbl]) (by simp [gst, app_tk, hpp_tk]) (by simp [gst, app_lp, hpp_lp])
  rw [S9_eq]
  have hall := all_ev xs
  rw [hg0] at h45
  simp only [hs', gvs] at h45
  have hgR : ∃ q : Lp, (q.at_ = 0 ∧ q.pend = .normal ∨ q.at_ = 2 ∧ q.pend = .exit 0) ∧ gst s hs' W most R.2 = (s.hpp hs').app (gbl W most (min W.length most.toNat)) [] [.loop q] := by
    rcases hr with hr | hr
    · exact ⟨_, .inl ⟨rfl, rfl⟩, by rw [gst, hc, hr]⟩
    · exact ⟨_, .inr ⟨rfl, rfl⟩, by rw [gst, hc, hr]⟩
  obtain ⟨q, hq, hgR⟩ := hgR
  simp only [hs'] at hgR
  rw [hgR] at h45
  have hmm : (if (W.length : Int) < (if most < 0 then 0 else most) then (W.length : Int) else (if most < 0 then 0 else most)) = ((min W.length most.toNat : Nat) : Int) := by split <;> split <;> omega
  simp [S9, canon_v, canon_sl, canon_clo, canon_ptr, need_refl, elems_sl, sf_v, sf_sl, sf_ptr, sf_ptrh, sf_clo, sf_dead, sf_nil, sf_full, sf_fr, need_true, ibeq, beq_ba, nbeq, nble, nblt, AM.nth, List.getD_cons_succ, List.getD_cons_zero, Option.bind_some, Option.bind_none, Option.map_some, onBool, AM.onG, onFn, seqK, retK, Ex.outOf, cond_true, cond_false, bin_lss, bin_leq, bin_gtr, bin_geq, bin_eql, bin_neq, bin_add, bin_sub, bin_mul, un_not, str_eql, str_neq, app_push, app_stk, app_tk, app_lp, load_app, load_app0, load_fp, store_app, store_app0, leave_app, leave_app0, AM.ownPut, AM.cellsOf, AM.shift, aPick, fin_v, fin_sl, beq_true, okSz, List.length_cons, List.length_nil, Nat.zero_add, Nat.add_zero, Nat.reduceAdd, decide_true, decide_false, Bool.and_true, Bool.true_and, Bool.and_self, Bool.not_true, Bool.not_false, List.getElem?_cons_zero, List.getElem?_cons_succ, List.nil_append, List.cons_append, hpp_app, hpp_stk, hpp_tk, hpp_lp, hpp_hp, app_lpadd, hload, hload0, hloadh, hstore, hstore0, hleave, hleave0, hfin_v, hfin_sl, hback, hloop, hsetlp, max_int, min_int, hstore_v, hstore_v0, hstore_s, hstore_d, modify_concat, part1, hbackt, hbackl, hback0, List.take_succ_cons, List.take_left, List.take_zero, List.take_nil, hfl, aExtract, okCells, laid, hall, plainFn]
  rw [h45]
  rcases hq with ⟨q1, q2⟩ | ⟨q1, q2⟩
  · simp [canon_v, canon_sl, canon_clo, canon_ptr, need_refl, elems_sl, sf_v, sf_sl, sf_ptr, sf_ptrh, sf_clo, sf_dead, sf_nil, sf_full, sf_fr, need_true, ibeq, beq_ba, nbeq, nble, nblt, AM.nth, List.getD_cons_succ, List.getD_cons_zero, Option.bind_some, Option.bind_none, Option.map_some, onBool, AM.onG, onFn, seqK, retK, Ex.outOf, cond_true, cond_false, bin_lss, bin_leq, bin_gtr, bin_geq, bin_eql, bin_neq, bin_add, bin_sub, bin_mul, un_not, str_eql, str_neq, app_push, app_stk, app_tk, app_lp, load_app, load_app0, load_fp, store_app, store_app0, leave_app, leave_app0, AM.ownPut, AM.cellsOf, AM.shift, aPick, fin_v, fin_sl, beq_true, okSz, List.length_cons, List.length_nil, Nat.zero_add, Nat.add_zero, Nat.reduceAdd, decide_true, decide_false, Bool.and_true, Bool.true_and, Bool.and_self, Bool.not_true, Bool.not_false, List.getElem?_cons_zero, List.getElem?_cons_succ, List.nil_append, List.cons_append, hpp_app, hpp_stk, hpp_tk, hpp_lp, hpp_hp, app_lpadd, hload, hload0, hloadh, hstore, hstore0, hleave, hleave0, hfin_v, hfin_sl, hback, hloop, hsetlp, max_int, min_int, hstore_v, hstore_v0, hstore_s, hstore_d, modify_concat, part1, hbackt, hbackl, hback0, List.take_succ_cons, List.take_left, List.take_zero, List.take_nil, endLp, q1, q2, gbl, len_31, ss_len, hmm, okCells, laid, hfin_tup, flatC, canonC]
  · simp [canon_v, canon_sl, canon_clo, canon_ptr, need_refl, elems_sl, sf_v, sf_sl, sf_ptr, sf_ptrh, sf_clo, sf_dead, sf_nil, sf_full, sf_fr, need_true, ibeq, beq_ba, nbeq, nble, nblt, AM.nth, List.getD_cons_succ, List.getD_cons_zero, Option.bind_some, Option.bind_none, Option.map_some, onBool, AM.onG, onFn, seqK, retK, Ex.outOf, cond_true, cond_false, bin_lss, bin_leq, bin_gtr, bin_geq, bin_eql, bin_neq, bin_add, bin_sub, bin_mul, un_not, str_eql, str_neq, app_push, app_stk, app_tk, app_lp, load_app, load_app0, load_fp, store_app, store_app0, leave_app, leave_app0, AM.ownPut, AM.cellsOf, AM.shift, aPick, fin_v, fin_sl, beq_true, okSz, List.length_cons, List.length_nil, Nat.zero_add, Nat.add_zero, Nat.reduceAdd, decide_true, decide_false, Bool.and_true, Bool.true_and, Bool.and_self, Bool.not_true, Bool.not_false, List.getElem?_cons_zero, List.getElem?_cons_succ, List.nil_append, List.cons_append, hpp_app, hpp_stk, hpp_tk, hpp_lp, hpp_hp, app_lpadd, hload, hload0, hloadh, hstore, hstore0, hleave, hleave0, hfin_v, hfin_sl, hback, hloop, hsetlp, max_int, min_int, hstore_v, hstore_v0, hstore_s, hstore_d, modify_concat, part1, hbackt, hbackl, hback0, List.take_succ_cons, List.take_left, List.take_zero, List.take_nil, endLp, q1, q2, gbl, len_31, ss_len, hmm, okCells, laid, hfin_tup, flatC, canonC]
end
end Go.Proofs.Ytkbhejcfejembaa.S
