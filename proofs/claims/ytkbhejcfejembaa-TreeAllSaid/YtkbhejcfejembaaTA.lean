/- Trees: the maker of programs: rows of statements, and of names. No condition. -/
import Derived.Test.YtkbhejcfejembaaSt4
set_option linter.all false
namespace Go.Proofs.Ytkbhejcfejembaa.S
open Go Go.AM Go.Proofs
set_option linter.unusedVariables false
set_option linter.unusedSimpArgs false
set_option maxHeartbeats 4000000

section
variable (nums : List Int) (hn : nums.length ≤ 400)
include hn
def StmtOk (nums : List Int) (d : Nat) : Prop := ∀ a l : Nat, l ≤ 1000 → ∃ (x : S) (a' l' : Nat), l' ≤ l ∧ (x.sz ≤ 100 * x.cnt ∧ x.cnt + l' ≤ l + 1) ∧ Does nums 44 [int d] a l (.agg x.enc) a' l'
theorem row_loop (d : Nat) (hs : StmtOk nums d) : ∀ k : Nat, k ≤ 10 → ∀ a l : Nat, l ≤ 1000 → ∃ (xs : List S) (a' l' : Nat), l' ≤ l ∧ (sszs xs ≤ 100 * cnts xs ∧ cnts xs + l' ≤ l) ∧ ∀ (Q : Nat → Nat → St) (N T Lb b : Nat), Mk nums Q N T Lb b → ∀ (acc : List S) (c : Cap) (tk : List (Nat × Nat)), Own (Q a l) tk c (sencs acc).length 58 → acc.length + k ≤ 1000 →
    ∃ (c' : Cap) (tk' : List (Nat × Nat)) (j : Int), itE (S25.b0 (E L) itE N Lb) [.ptr false b 0, int d, .sl (sencs acc) c, int k] ((Q a l).app [] tk []) = some (.exit 0, [.ptr false b 0, int d, .sl (sencs (acc ++ xs)) c', int j], (Q a' l').app [] tk' []) := by
  intro k
  induction k with
  | zero =>
    intro _ a l hll
    refine ⟨[], a, l, Nat.le_refl _, by simp [sszs, cnts], fun Q N T Lb b M acc c tk ho hlen => ⟨c, tk, 0, ?_⟩⟩
    refine it_exit ?_
    simp [S25.b0, canon_v, canon_sl, canon_clo, canon_ptr, need_refl, elems_sl, sf_v, sf_sl, sf_ptr, sf_ptrh, sf_clo, sf_dead, sf_nil, sf_full, sf_fr, need_true, ibeq, beq_ba, nbeq, nble, nblt, AM.nth, List.getD_cons_succ, List.getD_cons_zero, Option.bind_some, Option.bind_none, Option.map_some, onBool, AM.onG, onFn, seqK, retK, Ex.outOf, cond_true, cond_false, bin_lss, bin_leq, bin_gtr, bin_geq, bin_eql, bin_neq, bin_add, bin_sub, bin_mul, un_not, str_eql, str_neq, app_push, app_stk, app_tk, app_lp, load_app, load_app0, load_fp, store_app, store_app0, leave_app, leave_app0, AM.ownPut, AM.cellsOf, AM.shift, aPick, fin_v, fin_sl, beq_true, okSz, List.length_cons, List.length_nil, Nat.zero_add, Nat.add_zero, Nat.reduceAdd, decide_true, decide_false, Bool.and_true, Bool.true_and, Bool.and_self, Bool.not_true, Bool.not_false, List.getElem?_cons_zero, List.getElem?_cons_succ, List.nil_append, List.cons_append, hpp_app, hpp_stk, hpp_tk, hpp_lp, hpp_hp, app_lpadd, hload, hload0, hloadh, hstore, hstore0, hleave, hleave0, hfin_v, hfin_sl, hback, hloop, hsetlp, max_int, min_int, hstore_v, hstore_v0, hstore_s, hstore_d, modify_concat, part1, hbackt, hbackl, hback0, List.take_succ_cons, List.take_left, List.take_zero, List.take_nil]
  | succ k ih =>
    intro hk a l hll
    have hk1 : ((k + 1 : Nat) : Int) > 0 := by omega
    have hk2 : IntKind.i64.wrap (((k + 1 : Nat) : Int) - 1) = (k : Int) := by rw [IntWalk.i64_in _ (by omega)]; omega
    rcases Nat.eq_zero_or_pos l with rfl | hl
    · refine ⟨[], a, 0, Nat.le_refl _, by simp [sszs, cnts], fun Q N T Lb b M acc c tk ho hlen => ⟨c, tk, ((k + 1 : Nat) : Int), ?_⟩⟩
      refine it_exit ?_
      generalize ((k + 1 : Nat) : Int) = K at hk1 hk2
      simp [S25.b0, canon_v, canon_sl, canon_clo, canon_ptr, need_refl, elems_sl, sf_v, sf_sl, sf_ptr, sf_ptrh, sf_clo, sf_dead, sf_nil, sf_full, sf_fr, need_true, ibeq, beq_ba, nbeq, nble, nblt, AM.nth, List.getD_cons_succ, List.getD_cons_zero, Option.bind_some, Option.bind_none, Option.map_some, onBool, AM.onG, onFn, seqK, retK, Ex.outOf, cond_true, cond_false, bin_lss, bin_leq, bin_gtr, bin_geq, bin_eql, bin_neq, bin_add, bin_sub, bin_mul, un_not, str_eql, str_neq, app_push, app_stk, app_tk, app_lp, load_app, load_app0, load_fp, store_app, store_app0, leave_app, leave_app0, AM.ownPut, AM.cellsOf, AM.shift, aPick, fin_v, fin_sl, beq_true, okSz, List.length_cons, List.length_nil, Nat.zero_add, Nat.add_zero, Nat.reduceAdd, decide_true, decide_false, Bool.and_true, Bool.true_and, Bool.and_self, Bool.not_true, Bool.not_false, List.getElem?_cons_zero, List.getElem?_cons_succ, List.nil_append, List.cons_append, hpp_app, hpp_stk, hpp_tk, hpp_lp, hpp_hp, app_lpadd, hload, hload0, hloadh, hstore, hstore0, hleave, hleave0, hfin_v, hfin_sl, hback, hloop, hsetlp, max_int, min_int, hstore_v, hstore_v0, hstore_s, hstore_d, modify_concat, part1, hbackt, hbackl, hback0, List.take_succ_cons, List.take_left, List.take_zero, List.take_nil, hk1, M.own, M.own0, M.sto, M.sto0, M.fv, M.fs, M.fa, M.hN, M.hT, M.hL, M.ld0, M.ld1, M.ld2, aNilCheck, okCells, laid, flatC, canonC_v, canonC_sl, List.all_cons, List.all_nil, List.map_cons, List.map_nil, part_all, rBuild, fillP, List.set_cons_zero, List.set_cons_succ]
    · obtain ⟨l0, rfl⟩ : ∃ l0, l = l0 + 1 := ⟨l - 1, by omega⟩
      obtain ⟨x, a1, l1, hl1, hz1, hx⟩ := hs a l0 (by omega)
      obtain ⟨xs, a2, l2, hl2, hz2, hxs⟩ := ih (by omega) a1 l1 (by omega)
      refine ⟨x :: xs, a2, l2, by omega, by simp [sszs, cnts]; omega, fun Q N T Lb b M acc c tk ho hlen => ?_⟩
      have hx := hx Q N T Lb b M
      have ho' : Own (Q a1 l1) tk c (sencs acc).length 58 := own_congr (by rw [M.hT, M.hT]) ho
      obtain ⟨c1, tk1, e1, o1⟩ := app_own (ys := sencs [x]) (bytes := 688) ho' (by simp only [sencs_length, maxLenB, List.length_cons, List.length_nil]; omega) (sencs_ok _) (sencs_ok _) (by decide) (by decide)
      rw [sencs_app] at e1 o1
      obtain ⟨c2, tk2, j, h2⟩ := hxs Q N T Lb b M (acc ++ [x]) c1 tk1 o1 (by simp; omega)
      refine ⟨c2, tk2, j, ?_⟩
      rw [show acc ++ x :: xs = acc ++ [x] ++ xs by simp, ← h2]
      refine it_step ?_
      have bx : rBuildSlice 58 Zs 1 [(0, .agg x.enc)] = some (.sl (sencs [x]) .full) := lit1 Zs_len x.len x.pl x.len
      have hl3 : ((l0 + 1 : Nat) : Int) > 0 := by omega
      have hl4 : IntKind.i64.wrap (((l0 + 1 : Nat) : Int) - 1) = ((l0 : Nat) : Int) := by rw [IntWalk.i64_in _ (by omega)]; omega
      have ld2 := fun bl tk lp => M.ld2 a (l0 + 1) bl tk lp
      have st2 := fun bl tk lp => M.st2 N a (l0 + 1) l0 bl tk lp
      generalize ((k + 1 : Nat) : Int) = K at hk1 hk2
      generalize ((l0 + 1 : Nat) : Int) = LL at hl3 hl4 ld2
      generalize acc ++ [x] = A at *
      simp [S25.b0, canon_v, canon_sl, canon_clo, canon_ptr, need_refl, elems_sl, sf_v, sf_sl, sf_ptr, sf_ptrh, sf_clo, sf_dead, sf_nil, sf_full, sf_fr, need_true, ibeq, beq_ba, nbeq, nble, nblt, AM.nth, List.getD_cons_succ, List.getD_cons_zero, Option.bind_some, Option.bind_none, Option.map_some, onBool, AM.onG, onFn, seqK, retK, Ex.outOf, cond_true, cond_false, bin_lss, bin_leq, bin_gtr, bin_geq, bin_eql, bin_neq, bin_add, bin_sub, bin_mul, un_not, str_eql, str_neq, app_push, app_stk, app_tk, app_lp, load_app, load_app0, load_fp, store_app, store_app0, leave_app, leave_app0, AM.ownPut, AM.cellsOf, AM.shift, aPick, fin_v, fin_sl, beq_true, okSz, List.length_cons, List.length_nil, Nat.zero_add, Nat.add_zero, Nat.reduceAdd, decide_true, decide_false, Bool.and_true, Bool.true_and, Bool.and_self, Bool.not_true, Bool.not_false, List.getElem?_cons_zero, List.getElem?_cons_succ, List.nil_append, List.cons_append, hpp_app, hpp_stk, hpp_tk, hpp_lp, hpp_hp, app_lpadd, hload, hload0, hloadh, hstore, hstore0, hleave, hleave0, hfin_v, hfin_sl, hback, hloop, hsetlp, max_int, min_int, hstore_v, hstore_v0, hstore_s, hstore_d, modify_concat, part1, hbackt, hbackl, hback0, List.take_succ_cons, List.take_left, List.take_zero, List.take_nil, hk1, hk2, ld2, hl3, hl4, st2, hx, Zc, bx, e1, aNilCheck]
theorem row_mk (d : Nat) (hs : StmtOk nums d) : RowOk nums d := by
  intro a l hll
  obtain ⟨r, a1, h0, h1, hp⟩ := pick_ev nums hn a l 4 (by decide) (by decide)
  obtain ⟨xs, a2, l2, hl2, hz2, hxs⟩ := row_loop nums hn d hs r.toNat (by omega) a1 l hll
  refine ⟨xs, a2, l2, hl2, hz2, Does.of fun Q N T Lb b M => ?_⟩
  have hp := hp Q N T Lb b M
  obtain ⟨c2, tk2, j, h2⟩ := hxs Q N T Lb b M [] .nil [] (Own.nil ..) (by simp; omega)
  have hr : (r.toNat : Int) = r := by omega
  rw [hr] at h2
  have e0 : sencs [] = [] := rfl
  simp [e0] at h2
  rw [S25_eq]
  simp [S25, canon_v, canon_sl, canon_clo, canon_ptr, need_refl, elems_sl, sf_v, sf_sl, sf_ptr, sf_ptrh, sf_clo, sf_dead, sf_nil, sf_full, sf_fr, need_true, ibeq, beq_ba, nbeq, nble, nblt, AM.nth, List.getD_cons_succ, List.getD_cons_zero, Option.bind_some, Option.bind_none, Option.map_some, onBool, AM.onG, onFn, seqK, retK, Ex.outOf, cond_true, cond_false, bin_lss, bin_leq, bin_gtr, bin_geq, bin_eql, bin_neq, bin_add, bin_sub, bin_mul, un_not, str_eql, str_neq, app_push, app_stk, app_tk, app_lp, load_app, load_app0, load_fp, store_app, store_app0, leave_app, leave_app0, AM.ownPut, AM.cellsOf, AM.shift, aPick, fin_v, fin_sl, beq_true, okSz, List.length_cons, List.length_nil, Nat.zero_add, Nat.add_zero, Nat.reduceAdd, decide_true, decide_false, Bool.and_true, Bool.true_and, Bool.and_self, Bool.not_true, Bool.not_false, List.getElem?_cons_zero, List.getElem?_cons_succ, List.nil_append, List.cons_append, hpp_app, hpp_stk, hpp_tk, hpp_lp, hpp_hp, app_lpadd, hload, hload0, hloadh, hstore, hstore0, hleave, hleave0, hfin_v, hfin_sl, hback, hloop, hsetlp, max_int, min_int, hstore_v, hstore_v0, hstore_s, hstore_d, modify_concat, part1, hbackt, hbackl, hback0, List.take_succ_cons, List.take_left, List.take_zero, List.take_nil, hp, M.hN, M.hT, M.hL, h2, M.fs]
end
end Go.Proofs.Ytkbhejcfejembaa.S

/- Trees: the maker of programs: rows of names. No condition. -/
namespace Go.Proofs.Ytkbhejcfejembaa.S
open Go Go.AM Go.Proofs
set_option linter.unusedVariables false
set_option linter.unusedSimpArgs false
set_option maxHeartbeats 4000000

structure Nm where
  mk ::
  name : ByteArray
  kd : Int
  rc : ByteArray
  line : Int
  col : Int
def Nm.enc (p : Nm) : List PV := [str p.name, int p.kd, str p.rc, int p.line, int p.col]
def nms (l : List Nm) : List (List PV) := l.map Nm.enc
theorem nms_len (l : List Nm) : (nms l).length = l.length := List.length_map ..
theorem nms_ok (l : List Nm) : okSz 5 (nms l) = true := okSz_map Nm.enc (fun _ => rfl) l
theorem nms_app (l m : List Nm) : nms l ++ nms m = nms (l ++ m) := (List.map_append ..).symm
section
variable (nums : List Int) (hn : nums.length ≤ 400)
include hn
theorem nms_loop : ∀ k : Nat, k ≤ 10 → ∀ a l : Nat, ∃ (xs : List Nm) (a' : Nat), xs.length = k ∧ ∀ (Q : Nat → Nat → St) (N T Lb b : Nat), Mk nums Q N T Lb b → ∀ (acc : List Nm) (c : Cap) (tk : List (Nat × Nat)), Own (Q a l) tk c (nms acc).length 5 → acc.length + k ≤ 1000 →
    ∃ (c' : Cap) (tk' : List (Nat × Nat)), itE (S24.b0 (E L) itE N Lb) [.ptr false b 0, .sl (nms acc) c, int k] ((Q a l).app [] tk []) = some (.exit 0, [.ptr false b 0, .sl (nms (acc ++ xs)) c', int 0], (Q a' l).app [] tk' []) := by
  intro k
  induction k with
  | zero =>
    intro _ a l
    refine ⟨[], a, rfl, fun Q N T Lb b M acc c tk ho hlen => ⟨c, tk, ?_⟩⟩
    refine it_exit ?_
    simp [S24.b0, canon_v, canon_sl, canon_clo, canon_ptr, need_refl, elems_sl, sf_v, sf_sl, sf_ptr, sf_ptrh, sf_clo, sf_dead, sf_nil, sf_full, sf_fr, need_true, ibeq, beq_ba, nbeq, nble, nblt, AM.nth, List.getD_cons_succ, List.getD_cons_zero, Option.bind_some, Option.bind_none, Option.map_some, onBool, AM.onG, onFn, seqK, retK, Ex.outOf, cond_true, cond_false, bin_lss, bin_leq, bin_gtr, bin_geq, bin_eql, bin_neq, bin_add, bin_sub, bin_mul, un_not, str_eql, str_neq, app_push, app_stk, app_tk, app_lp, load_app, load_app0, load_fp, store_app, store_app0, leave_app, leave_app0, AM.ownPut, AM.cellsOf, AM.shift, aPick, fin_v, fin_sl, beq_true, okSz, List.length_cons, List.length_nil, Nat.zero_add, Nat.add_zero, Nat.reduceAdd, decide_true, decide_false, Bool.and_true, Bool.true_and, Bool.and_self, Bool.not_true, Bool.not_false, List.getElem?_cons_zero, List.getElem?_cons_succ, List.nil_append, List.cons_append, hpp_app, hpp_stk, hpp_tk, hpp_lp, hpp_hp, app_lpadd, hload, hload0, hloadh, hstore, hstore0, hleave, hleave0, hfin_v, hfin_sl, hback, hloop, hsetlp, max_int, min_int, hstore_v, hstore_v0, hstore_s, hstore_d, modify_concat, part1, hbackt, hbackl, hback0, List.take_succ_cons, List.take_left, List.take_zero, List.take_nil]
  | succ k ih =>
    intro hk a l
    have hk1 : ((k + 1 : Nat) : Int) > 0 := by omega
    have hk2 : IntKind.i64.wrap (((k + 1 : Nat) : Int) - 1) = (k : Int) := by rw [IntWalk.i64_in _ (by omega)]; omega
    obtain ⟨nm, a1, h1⟩ := name_ev nums hn a l
    obtain ⟨kd, rc, a2, h2⟩ := kind_ev nums hn a1 l
    obtain ⟨xs, a3, hl3, h3⟩ := ih (by omega) a2 l
    refine ⟨⟨nm, kd, rc, 0, 0⟩ :: xs, a3, by simp [hl3], fun Q N T Lb b M acc c tk ho hlen => ?_⟩
    have h1 := h1 Q N T Lb b M
    have h2 := h2 Q N T Lb b M
    have ho' : Own (Q a2 l) tk c (nms acc).length 5 := own_congr (by rw [M.hT, M.hT]) ho
    obtain ⟨c1, tk1, e1, o1⟩ := app_own (ys := nms [⟨nm, kd, rc, 0, 0⟩]) (bytes := 56) ho' (by simp only [nms_len, maxLenB, List.length_cons, List.length_nil]; omega) (nms_ok _) (nms_ok _) (by decide) (by decide)
    rw [nms_app] at e1 o1
    obtain ⟨c2, tk2, h4⟩ := h3 Q N T Lb b M (acc ++ [⟨nm, kd, rc, 0, 0⟩]) c1 tk1 o1 (by simp; omega)
    refine ⟨c2, tk2, ?_⟩
    rw [show acc ++ (⟨nm, kd, rc, 0, 0⟩ : Nm) :: xs = acc ++ [⟨nm, kd, rc, 0, 0⟩] ++ xs by simp, ← h4]
    refine it_step ?_
    have b1 : rBuild [(0, 1), (1, 2), (3, 1), (4, 1)] [.v (.string ⟨#[]⟩), .v (.int .i64 0), .v (.string ⟨#[]⟩), .v (.int .i64 0), .v (.int .i64 0)] [(0, str nm), (1, .agg [int kd, str rc])] = some (.agg [str nm, int kd, str rc, int 0, int 0]) := rfl
    have b2 : rBuildSlice 5 [.v (.string ⟨#[]⟩), .v (.int .i64 0), .v (.string ⟨#[]⟩), .v (.int .i64 0), .v (.int .i64 0)] 1 [(0, .agg [str nm, int kd, str rc, int 0, int 0])] = some (.sl (nms [⟨nm, kd, rc, 0, 0⟩]) .full) := rfl
    generalize acc ++ [(⟨nm, kd, rc, 0, 0⟩ : Nm)] = A at *
    generalize ((k + 1 : Nat) : Int) = K at hk1 hk2
    simp [S24.b0, canon_v, canon_sl, canon_clo, canon_ptr, need_refl, elems_sl, sf_v, sf_sl, sf_ptr, sf_ptrh, sf_clo, sf_dead, sf_nil, sf_full, sf_fr, need_true, ibeq, beq_ba, nbeq, nble, nblt, AM.nth, List.getD_cons_succ, List.getD_cons_zero, Option.bind_some, Option.bind_none, Option.map_some, onBool, AM.onG, onFn, seqK, retK, Ex.outOf, cond_true, cond_false, bin_lss, bin_leq, bin_gtr, bin_geq, bin_eql, bin_neq, bin_add, bin_sub, bin_mul, un_not, str_eql, str_neq, app_push, app_stk, app_tk, app_lp, load_app, load_app0, load_fp, store_app, store_app0, leave_app, leave_app0, AM.ownPut, AM.cellsOf, AM.shift, aPick, fin_v, fin_sl, beq_true, okSz, List.length_cons, List.length_nil, Nat.zero_add, Nat.add_zero, Nat.reduceAdd, decide_true, decide_false, Bool.and_true, Bool.true_and, Bool.and_self, Bool.not_true, Bool.not_false, List.getElem?_cons_zero, List.getElem?_cons_succ, List.nil_append, List.cons_append, hpp_app, hpp_stk, hpp_tk, hpp_lp, hpp_hp, app_lpadd, hload, hload0, hloadh, hstore, hstore0, hleave, hleave0, hfin_v, hfin_sl, hback, hloop, hsetlp, max_int, min_int, hstore_v, hstore_v0, hstore_s, hstore_d, modify_concat, part1, hbackt, hbackl, hback0, List.take_succ_cons, List.take_left, List.take_zero, List.take_nil, hk1, hk2, h1, h2, b1, b2, e1]
theorem names_mk (k : Nat) (hk1 : 0 < k) (hk : k ≤ 10) (a l : Nat) : ∃ (xs : List Nm) (a' : Nat), Does nums 24 [int k] a l (.sl (nms xs) .dead) a' l := by
  obtain ⟨r, a1, h0, h1, hp⟩ := pick_ev nums hn a l k (by omega) (by omega)
  obtain ⟨xs, a2, hl2, hxs⟩ := nms_loop nums hn r.toNat (by omega) a1 l
  refine ⟨xs, a2, Does.of fun Q N T Lb b M => ?_⟩
  have hp := hp Q N T Lb b M
  obtain ⟨c2, tk2, h2⟩ := hxs Q N T Lb b M [] .nil [] (Own.nil ..) (by simp; omega)
  have hr : (r.toNat : Int) = r := by omega
  rw [hr] at h2
  have e0 : nms [] = [] := rfl
  simp [e0] at h2
  rw [S24_eq]
  simp [S24, canon_v, canon_sl, canon_clo, canon_ptr, need_refl, elems_sl, sf_v, sf_sl, sf_ptr, sf_ptrh, sf_clo, sf_dead, sf_nil, sf_full, sf_fr, need_true, ibeq, beq_ba, nbeq, nble, nblt, AM.nth, List.getD_cons_succ, List.getD_cons_zero, Option.bind_some, Option.bind_none, Option.map_some, onBool, AM.onG, onFn, seqK, retK, Ex.outOf, cond_true, cond_false, bin_lss, bin_leq, bin_gtr, bin_geq, bin_eql, bin_neq, bin_add, bin_sub, bin_mul, un_not, str_eql, str_neq, app_push, app_stk, app_tk, app_lp, load_app, load_app0, load_fp, store_app, store_app0, leave_app, leave_app0, AM.ownPut, AM.cellsOf, AM.shift, aPick, fin_v, fin_sl, beq_true, okSz, List.length_cons, List.length_nil, Nat.zero_add, Nat.add_zero, Nat.reduceAdd, decide_true, decide_false, Bool.and_true, Bool.true_and, Bool.and_self, Bool.not_true, Bool.not_false, List.getElem?_cons_zero, List.getElem?_cons_succ, List.nil_append, List.cons_append, hpp_app, hpp_stk, hpp_tk, hpp_lp, hpp_hp, app_lpadd, hload, hload0, hloadh, hstore, hstore0, hleave, hleave0, hfin_v, hfin_sl, hback, hloop, hsetlp, max_int, min_int, hstore_v, hstore_v0, hstore_s, hstore_d, modify_concat, part1, hbackt, hbackl, hback0, List.take_succ_cons, List.take_left, List.take_zero, List.take_nil, hp, M.hN, M.hT, M.hL, h2, M.fs]

theorem stmt_ok : ∀ d : Nat, d ≤ 5 → StmtOk nums d ∧ RowOk nums d := by
  intro d
  induction d with
  | zero => exact fun _ => have h : StmtOk nums 0 := fun a l _ => stmt_zero nums hn a l; ⟨h, row_mk nums hn 0 h⟩
  | succ d ih => exact fun hd => have h : StmtOk nums (d + 1) := fun a l hl => stmt_succ nums hn d (by omega) (ih (by omega)).2 a l hl; ⟨h, row_mk nums hn (d + 1) h⟩
end
end Go.Proofs.Ytkbhejcfejembaa.S

/- Trees: the maker of programs. Printed by mkMp.py. No condition. -/
namespace Go.Proofs.Ytkbhejcfejembaa.S
open Go Go.AM Go.Proofs
set_option linter.unusedVariables false
set_option linter.unusedSimpArgs false
set_option maxHeartbeats 4000000

structure Rc where
  mk ::
  name : ByteArray
  fields : List Nm
def Rc.enc (p : Rc) : List PV := [str p.name, .sl (nms p.fields) .dead, int 0, int 0]
theorem sto_b {nums : List Int} {Q : Nat → Nat → St} {N T Lb b : Nat} (M : Mk nums Q N T Lb b) {B : Nat} (hB : B ≤ N) (a l : Nat) (sz off : Nat) (v : PV) (bl : List Blk) (tk : List (Nat × Nat)) (lp : List Aux) :
    aStore B sz (.ptr false N off) v ((Q a l).app bl tk lp) = (ownPut bl 0 off sz v).map fun bl => (Q a l).app bl tk lp := by
  have h1 := M.sto0 a l sz off v bl tk lp
  rw [← h1]
  have hb : Nat.blt N B = Nat.blt N N := by
    have e1 : Nat.blt N B = false := by rw [nblt]; simp; exact hB
    have e2 : Nat.blt N N = false := by rw [nblt]; simp
    rw [e1, e2]
  simp only [aStore, putCells, hb]
section
variable (nums : List Int) (hn : nums.length ≤ 400)
include hn
theorem recs_loop : ∀ k : Nat, k ≤ 10 → ∀ a l : Nat, l ≤ 1000 → ∃ (xs : List Rc) (a' l' : Nat), xs.length = k ∧ l' ≤ l ∧ l' = l ∧ ∀ (Q : Nat → Nat → St) (N T Lb b B : Nat), Mk nums Q N T Lb b → B ≤ N → ∀ (q2 y0 y1 y2 y3 : PV) (acc : List Rc) (c : Cap) (tk : List (Nat × Nat)), Own (Q a l) tk c (acc.map Rc.enc).length 4 → acc.length + k ≤ 1000 →
    ∃ (c' : Cap) (tk' : List (Nat × Nat)), itE (S8.b0 (E L) itE B Lb) [q2, .ptr false b 0, .ptr false N 0, int k] ((Q a l).app [⟨[.sl (acc.map Rc.enc) c, y1, y2, y3], []⟩] tk []) = some (.exit 0, [q2, .ptr false b 0, .ptr false N 0, int 0], (Q a' l').app [⟨[.sl ((acc ++ xs).map Rc.enc) c', y1, y2, y3], []⟩] tk' []) := by
  intro k
  induction k with
  | zero =>
    intro _ a l hll
    refine ⟨[], a, l, rfl, Nat.le_refl _, by simp, fun Q N T Lb b B M hB q2 y0 y1 y2 y3 acc c tk ho hlen => ⟨c, tk, ?_⟩⟩
    refine it_exit ?_
    simp [S8.b0, canon_v, canon_sl, canon_clo, canon_ptr, need_refl, elems_sl, sf_v, sf_sl, sf_ptr, sf_ptrh, sf_clo, sf_dead, sf_nil, sf_full, sf_fr, need_true, ibeq, beq_ba, nbeq, nble, nblt, AM.nth, List.getD_cons_succ, List.getD_cons_zero, Option.bind_some, Option.bind_none, Option.map_some, onBool, AM.onG, onFn, seqK, retK, Ex.outOf, cond_true, cond_false, bin_lss, bin_leq, bin_gtr, bin_geq, bin_eql, bin_neq, bin_add, bin_sub, bin_mul, un_not, str_eql, str_neq, app_push, app_stk, app_tk, app_lp, load_app, load_app0, load_fp, store_app, store_app0, leave_app, leave_app0, AM.ownPut, AM.cellsOf, AM.shift, aPick, fin_v, fin_sl, beq_true, okSz, List.length_cons, List.length_nil, Nat.zero_add, Nat.add_zero, Nat.reduceAdd, decide_true, decide_false, Bool.and_true, Bool.true_and, Bool.and_self, Bool.not_true, Bool.not_false, List.getElem?_cons_zero, List.getElem?_cons_succ, List.nil_append, List.cons_append, hpp_app, hpp_stk, hpp_tk, hpp_lp, hpp_hp, app_lpadd, hload, hload0, hloadh, hstore, hstore0, hleave, hleave0, hfin_v, hfin_sl, hback, hloop, hsetlp, max_int, min_int, hstore_v, hstore_v0, hstore_s, hstore_d, modify_concat, part1, hbackt, hbackl, hback0, List.take_succ_cons, List.take_left, List.take_zero, List.take_nil]
  | succ k ih =>
    intro hk a0 l hll
    have hk1 : ((k + 1 : Nat) : Int) > 0 := by omega
    have hk2 : IntKind.i64.wrap (((k + 1 : Nat) : Int) - 1) = (k : Int) := by rw [IntWalk.i64_in _ (by omega)]; omega
    obtain ⟨nm, a1, h1⟩ := name_ev nums hn a0 l
    obtain ⟨ns, a2, h2⟩ := names_mk nums hn 3 (by decide) (by decide) a1 l
    obtain ⟨xs, a9, l9, hl3, hl4, hl5, h3⟩ := ih (by omega) a2 l (by omega)
    refine ⟨⟨nm, ns⟩ :: xs, a9, l9, by simp [hl3], by omega, by omega, fun Q N T Lb b B M hB q2 y0 y1 y2 y3 acc c tk ho hlen => ?_⟩
    have h1 := h1 Q N T Lb b M
    try rw [show ((2 : Nat) : Int) = 2 from rfl] at h1
    try rw [show ((3 : Nat) : Int) = 3 from rfl] at h1
    have h2 := h2 Q N T Lb b M
    try rw [show ((2 : Nat) : Int) = 2 from rfl] at h2
    try rw [show ((3 : Nat) : Int) = 3 from rfl] at h2
    have ok : ∀ l : List Rc, okSz 4 (l.map Rc.enc) = true := okSz_map Rc.enc fun _ => rfl
    have ho' : Own (Q a2 l) tk c (acc.map Rc.enc).length 4 := own_congr (by rw [M.hT, M.hT]) ho
    obtain ⟨c1, tk1, e1, o1⟩ := app_own (ys := [⟨nm, ns⟩].map Rc.enc) (bytes := 56) ho' (by simp only [List.length_map, maxLenB, List.length_cons, List.length_nil]; omega) (ok _) (ok _) (by decide) (by decide)
    rw [← List.map_append] at e1 o1
    obtain ⟨c2, tk2, h4⟩ := h3 Q N T Lb b B M hB q2 y0 y1 y2 y3 (acc ++ [⟨nm, ns⟩]) c1 tk1 o1 (by simp; omega)
    refine ⟨c2, tk2, ?_⟩
    rw [show acc ++ (⟨nm, ns⟩ : Rc) :: xs = acc ++ [⟨nm, ns⟩] ++ xs by simp, ← h4]
    refine it_step ?_
    have b1 : rBuild [(0, 1), (1, 1), (2, 1), (3, 1)] [.v (.string ⟨#[]⟩), .sl [] .nil, .v (.int .i64 0), .v (.int .i64 0)] [(0, str nm), (1, .sl (nms ns) .dead)] = some (.agg [str nm, .sl (nms ns) .dead, int 0, int 0]) := rfl
    have b2 : rBuildSlice 4 [.v (.string ⟨#[]⟩), .sl [] .nil, .v (.int .i64 0), .v (.int .i64 0)] 1 [(0, .agg [str nm, .sl (nms ns) .dead, int 0, int 0])] = some (.sl ([⟨nm, ns⟩].map Rc.enc) .full) := rfl
    generalize acc ++ [(⟨nm, ns⟩ : Rc)] = A at *
    generalize ((k + 1 : Nat) : Int) = K at hk1 hk2
    have sb := fun a l sz off v bl tk lp => sto_b M hB a l sz off v bl tk lp
    have pt : ∀ c0 c1 c2 c3 : PV, AM.part false 1 0 [c0, c1, c2, c3] = some c0 := fun _ _ _ _ => rfl
    have ld : ∀ c0 c1 c2 c3 v : PV, laid [c0, c1, c2, c3] 0 [v] = [v, c1, c2, c3] := fun _ _ _ _ _ => rfl
    simp only [S8.b0, canon_v, canon_sl, canon_clo, canon_ptr, need_refl, elems_sl, sf_v, sf_sl, sf_ptr, sf_ptrh, sf_clo, sf_dead, sf_nil, sf_full, sf_fr, need_true, ibeq, beq_ba, nbeq, nble, nblt, AM.nth, List.getD_cons_succ, List.getD_cons_zero, Option.bind_some, Option.bind_none, Option.map_some, onBool, AM.onG, onFn, seqK, retK, Ex.outOf, cond_true, cond_false, bin_lss, bin_leq, bin_gtr, bin_geq, bin_eql, bin_neq, bin_add, bin_sub, bin_mul, un_not, str_eql, str_neq, app_push, app_stk, app_tk, app_lp, load_app, load_app0, load_fp, store_app, store_app0, leave_app, leave_app0, AM.ownPut, AM.cellsOf, AM.shift, aPick, fin_v, fin_sl, beq_true, okSz, List.length_cons, List.length_nil, Nat.zero_add, Nat.add_zero, Nat.reduceAdd, decide_true, decide_false, Bool.and_true, Bool.true_and, Bool.and_self, Bool.not_true, Bool.not_false, List.getElem?_cons_zero, List.getElem?_cons_succ, List.nil_append, List.cons_append, hpp_app, hpp_stk, hpp_tk, hpp_lp, hpp_hp, app_lpadd, hload, hload0, hloadh, hstore, hstore0, hleave, hleave0, hfin_v, hfin_sl, hback, hloop, hsetlp, max_int, min_int, hstore_v, hstore_v0, hstore_s, hstore_d, modify_concat, part1, hbackt, hbackl, hback0, List.take_succ_cons, List.take_left, List.take_zero, List.take_nil, hk1, hk2, M.own0, pt, h1, h2, b1, b2, e1, sb, okCells, ld, Nat.reduceLeDiff, Option.map_some, need_refl, List.modify_zero_cons, Nat.reduceSucc, decide_true, Nat.le_refl]
    rfl
theorem funs_loop : ∀ k : Nat, k ≤ 10 → ∀ a l : Nat, l ≤ 1000 → ∃ (xs : List Fu) (a' l' : Nat), xs.length = k ∧ l' ≤ l ∧ ((xs.map fun f => sszs f.body).sum ≤ 100 * (xs.map fun f => cnts f.body).sum ∧ (xs.map fun f => cnts f.body).sum + l' ≤ l) ∧ ∀ (Q : Nat → Nat → St) (N T Lb b B : Nat), Mk nums Q N T Lb b → B ≤ N → ∀ (q2 y0 y1 y2 y3 : PV) (acc : List Fu) (c : Cap) (tk : List (Nat × Nat)), Own (Q a l) tk c (acc.map Fu.enc).length 5 → acc.length + k ≤ 1000 →
    ∃ (c' : Cap) (tk' : List (Nat × Nat)), itE (S8.b1 (E L) itE B Lb) [q2, .ptr false b 0, .ptr false N 0, int k] ((Q a l).app [⟨[y0, y1, .sl (acc.map Fu.enc) c, y3], []⟩] tk []) = some (.exit 2, [q2, .ptr false b 0, .ptr false N 0, int 0], (Q a' l').app [⟨[y0, y1, .sl ((acc ++ xs).map Fu.enc) c', y3], []⟩] tk' []) := by
  intro k
  induction k with
  | zero =>
    intro _ a l hll
    refine ⟨[], a, l, rfl, Nat.le_refl _, by simp, fun Q N T Lb b B M hB q2 y0 y1 y2 y3 acc c tk ho hlen => ⟨c, tk, ?_⟩⟩
    refine it_exit ?_
    simp [S8.b1, canon_v, canon_sl, canon_clo, canon_ptr, need_refl, elems_sl, sf_v, sf_sl, sf_ptr, sf_ptrh, sf_clo, sf_dead, sf_nil, sf_full, sf_fr, need_true, ibeq, beq_ba, nbeq, nble, nblt, AM.nth, List.getD_cons_succ, List.getD_cons_zero, Option.bind_some, Option.bind_none, Option.map_some, onBool, AM.onG, onFn, seqK, retK, Ex.outOf, cond_true, cond_false, bin_lss, bin_leq, bin_gtr, bin_geq, bin_eql, bin_neq, bin_add, bin_sub, bin_mul, un_not, str_eql, str_neq, app_push, app_stk, app_tk, app_lp, load_app, load_app0, load_fp, store_app, store_app0, leave_app, leave_app0, AM.ownPut, AM.cellsOf, AM.shift, aPick, fin_v, fin_sl, beq_true, okSz, List.length_cons, List.length_nil, Nat.zero_add, Nat.add_zero, Nat.reduceAdd, decide_true, decide_false, Bool.and_true, Bool.true_and, Bool.and_self, Bool.not_true, Bool.not_false, List.getElem?_cons_zero, List.getElem?_cons_succ, List.nil_append, List.cons_append, hpp_app, hpp_stk, hpp_tk, hpp_lp, hpp_hp, app_lpadd, hload, hload0, hloadh, hstore, hstore0, hleave, hleave0, hfin_v, hfin_sl, hback, hloop, hsetlp, max_int, min_int, hstore_v, hstore_v0, hstore_s, hstore_d, modify_concat, part1, hbackt, hbackl, hback0, List.take_succ_cons, List.take_left, List.take_zero, List.take_nil]
  | succ k ih =>
    intro hk a0 l hll
    have hk1 : ((k + 1 : Nat) : Int) > 0 := by omega
    have hk2 : IntKind.i64.wrap (((k + 1 : Nat) : Int) - 1) = (k : Int) := by rw [IntWalk.i64_in _ (by omega)]; omega
    obtain ⟨nm, a1, h1⟩ := name_ev nums hn a0 l
    obtain ⟨ns, a2, h2⟩ := names_mk nums hn 3 (by decide) (by decide) a1 l
    obtain ⟨rw, a3, l1, hw1, hw2, h5⟩ := (stmt_ok nums hn 2 (by decide)).2 a2 l (by omega)
    obtain ⟨xs, a9, l9, hl3, hl4, hl5, h3⟩ := ih (by omega) a3 l1 (by omega)
    refine ⟨⟨nm, nms ns, rw, 0, 0⟩ :: xs, a9, l9, by simp [hl3], by omega, by simp; omega, fun Q N T Lb b B M hB q2 y0 y1 y2 y3 acc c tk ho hlen => ?_⟩
    have h1 := h1 Q N T Lb b M
    try rw [show ((2 : Nat) : Int) = 2 from rfl] at h1
    try rw [show ((3 : Nat) : Int) = 3 from rfl] at h1
    have h2 := h2 Q N T Lb b M
    try rw [show ((2 : Nat) : Int) = 2 from rfl] at h2
    try rw [show ((3 : Nat) : Int) = 3 from rfl] at h2
    have h5 := h5 Q N T Lb b M
    try rw [show ((2 : Nat) : Int) = 2 from rfl] at h5
    try rw [show ((3 : Nat) : Int) = 3 from rfl] at h5
    have ok : ∀ l : List Fu, okSz 5 (l.map Fu.enc) = true := okSz_map Fu.enc fun _ => rfl
    have ho' : Own (Q a3 l1) tk c (acc.map Fu.enc).length 5 := own_congr (by rw [M.hT, M.hT]) ho
    obtain ⟨c1, tk1, e1, o1⟩ := app_own (ys := [⟨nm, nms ns, rw, 0, 0⟩].map Fu.enc) (bytes := 80) ho' (by simp only [List.length_map, maxLenB, List.length_cons, List.length_nil]; omega) (ok _) (ok _) (by decide) (by decide)
    rw [← List.map_append] at e1 o1
    obtain ⟨c2, tk2, h4⟩ := h3 Q N T Lb b B M hB q2 y0 y1 y2 y3 (acc ++ [⟨nm, nms ns, rw, 0, 0⟩]) c1 tk1 o1 (by simp; omega)
    refine ⟨c2, tk2, ?_⟩
    rw [show acc ++ (⟨nm, nms ns, rw, 0, 0⟩ : Fu) :: xs = acc ++ [⟨nm, nms ns, rw, 0, 0⟩] ++ xs by simp, ← h4]
    refine it_step ?_
    have b1 : rBuild [(0, 1), (1, 1), (2, 1), (3, 1), (4, 1)] [.v (.string ⟨#[]⟩), .sl [] .nil, .sl [] .nil, .v (.int .i64 0), .v (.int .i64 0)] [(0, str nm), (1, .sl (nms ns) .dead), (2, .sl (sencs rw) .dead)] = some (.agg [str nm, .sl (nms ns) .dead, .sl (sencs rw) .dead, int 0, int 0]) := rfl
    have b2 : rBuildSlice 5 [.v (.string ⟨#[]⟩), .sl [] .nil, .sl [] .nil, .v (.int .i64 0), .v (.int .i64 0)] 1 [(0, .agg [str nm, .sl (nms ns) .dead, .sl (sencs rw) .dead, int 0, int 0])] = some (.sl ([⟨nm, nms ns, rw, 0, 0⟩].map Fu.enc) .full) := rfl
    generalize acc ++ [(⟨nm, nms ns, rw, 0, 0⟩ : Fu)] = A at *
    generalize ((k + 1 : Nat) : Int) = K at hk1 hk2
    have sb := fun a l sz off v bl tk lp => sto_b M hB a l sz off v bl tk lp
    have pt : ∀ c0 c1 c2 c3 : PV, AM.part false 1 2 [c0, c1, c2, c3] = some c2 := fun _ _ _ _ => rfl
    have ld : ∀ c0 c1 c2 c3 v : PV, laid [c0, c1, c2, c3] 2 [v] = [c0, c1, v, c3] := fun _ _ _ _ _ => rfl
    simp only [S8.b1, canon_v, canon_sl, canon_clo, canon_ptr, need_refl, elems_sl, sf_v, sf_sl, sf_ptr, sf_ptrh, sf_clo, sf_dead, sf_nil, sf_full, sf_fr, need_true, ibeq, beq_ba, nbeq, nble, nblt, AM.nth, List.getD_cons_succ, List.getD_cons_zero, Option.bind_some, Option.bind_none, Option.map_some, onBool, AM.onG, onFn, seqK, retK, Ex.outOf, cond_true, cond_false, bin_lss, bin_leq, bin_gtr, bin_geq, bin_eql, bin_neq, bin_add, bin_sub, bin_mul, un_not, str_eql, str_neq, app_push, app_stk, app_tk, app_lp, load_app, load_app0, load_fp, store_app, store_app0, leave_app, leave_app0, AM.ownPut, AM.cellsOf, AM.shift, aPick, fin_v, fin_sl, beq_true, okSz, List.length_cons, List.length_nil, Nat.zero_add, Nat.add_zero, Nat.reduceAdd, decide_true, decide_false, Bool.and_true, Bool.true_and, Bool.and_self, Bool.not_true, Bool.not_false, List.getElem?_cons_zero, List.getElem?_cons_succ, List.nil_append, List.cons_append, hpp_app, hpp_stk, hpp_tk, hpp_lp, hpp_hp, app_lpadd, hload, hload0, hloadh, hstore, hstore0, hleave, hleave0, hfin_v, hfin_sl, hback, hloop, hsetlp, max_int, min_int, hstore_v, hstore_v0, hstore_s, hstore_d, modify_concat, part1, hbackt, hbackl, hback0, List.take_succ_cons, List.take_left, List.take_zero, List.take_nil, hk1, hk2, M.own0, pt, h1, h2, h5, b1, b2, e1, sb, okCells, ld, Nat.reduceLeDiff, Option.map_some, need_refl, List.modify_zero_cons, Nat.reduceSucc, decide_true, Nat.le_refl]
    rfl
theorem thrs_loop : ∀ k : Nat, k ≤ 10 → ∀ a l : Nat, l ≤ 1000 → ∃ (xs : List Th) (a' l' : Nat), xs.length = k ∧ l' ≤ l ∧ ((xs.map fun f => sszs f.body).sum ≤ 100 * (xs.map fun f => cnts f.body).sum ∧ (xs.map fun f => cnts f.body).sum + l' ≤ l) ∧ ∀ (Q : Nat → Nat → St) (N T Lb b B : Nat), Mk nums Q N T Lb b → B ≤ N → ∀ (q2 y0 y1 y2 y3 : PV) (acc : List Th) (c : Cap) (tk : List (Nat × Nat)), Own (Q a l) tk c (acc.map Th.enc).length 3 → acc.length + k ≤ 1000 →
    ∃ (c' : Cap) (tk' : List (Nat × Nat)), itE (S8.b2 (E L) itE B Lb) [q2, .ptr false b 0, .ptr false N 0, int k] ((Q a l).app [⟨[y0, y1, y2, .sl (acc.map Th.enc) c], []⟩] tk []) = some (.exit 4, [q2, .ptr false b 0, .ptr false N 0, int 0], (Q a' l').app [⟨[y0, y1, y2, .sl ((acc ++ xs).map Th.enc) c'], []⟩] tk' []) := by
  intro k
  induction k with
  | zero =>
    intro _ a l hll
    refine ⟨[], a, l, rfl, Nat.le_refl _, by simp, fun Q N T Lb b B M hB q2 y0 y1 y2 y3 acc c tk ho hlen => ⟨c, tk, ?_⟩⟩
    refine it_exit ?_
    simp [S8.b2, canon_v, canon_sl, canon_clo, canon_ptr, need_refl, elems_sl, sf_v, sf_sl, sf_ptr, sf_ptrh, sf_clo, sf_dead, sf_nil, sf_full, sf_fr, need_true, ibeq, beq_ba, nbeq, nble, nblt, AM.nth, List.getD_cons_succ, List.getD_cons_zero, Option.bind_some, Option.bind_none, Option.map_some, onBool, AM.onG, onFn, seqK, retK, Ex.outOf, cond_true, cond_false, bin_lss, bin_leq, bin_gtr, bin_geq, bin_eql, bin_neq, bin_add, bin_sub, bin_mul, un_not, str_eql, str_neq, app_push, app_stk, app_tk, app_lp, load_app, load_app0, load_fp, store_app, store_app0, leave_app, leave_app0, AM.ownPut, AM.cellsOf, AM.shift, aPick, fin_v, fin_sl, beq_true, okSz, List.length_cons, List.length_nil, Nat.zero_add, Nat.add_zero, Nat.reduceAdd, decide_true, decide_false, Bool.and_true, Bool.true_and, Bool.and_self, Bool.not_true, Bool.not_false, List.getElem?_cons_zero, List.getElem?_cons_succ, List.nil_append, List.cons_append, hpp_app, hpp_stk, hpp_tk, hpp_lp, hpp_hp, app_lpadd, hload, hload0, hloadh, hstore, hstore0, hleave, hleave0, hfin_v, hfin_sl, hback, hloop, hsetlp, max_int, min_int, hstore_v, hstore_v0, hstore_s, hstore_d, modify_concat, part1, hbackt, hbackl, hback0, List.take_succ_cons, List.take_left, List.take_zero, List.take_nil]
  | succ k ih =>
    intro hk a0 l hll
    have hk1 : ((k + 1 : Nat) : Int) > 0 := by omega
    have hk2 : IntKind.i64.wrap (((k + 1 : Nat) : Int) - 1) = (k : Int) := by rw [IntWalk.i64_in _ (by omega)]; omega
    obtain ⟨rw, a1, l1, hw1, hw2, h5⟩ := (stmt_ok nums hn 3 (by decide)).2 a0 l (by omega)
    obtain ⟨xs, a9, l9, hl3, hl4, hl5, h3⟩ := ih (by omega) a1 l1 (by omega)
    refine ⟨⟨rw, 0, 0⟩ :: xs, a9, l9, by simp [hl3], by omega, by simp; omega, fun Q N T Lb b B M hB q2 y0 y1 y2 y3 acc c tk ho hlen => ?_⟩
    have h5 := h5 Q N T Lb b M
    try rw [show ((2 : Nat) : Int) = 2 from rfl] at h5
    try rw [show ((3 : Nat) : Int) = 3 from rfl] at h5
    have ok : ∀ l : List Th, okSz 3 (l.map Th.enc) = true := okSz_map Th.enc fun _ => rfl
    have ho' : Own (Q a1 l1) tk c (acc.map Th.enc).length 3 := own_congr (by rw [M.hT, M.hT]) ho
    obtain ⟨c1, tk1, e1, o1⟩ := app_own (ys := [⟨rw, 0, 0⟩].map Th.enc) (bytes := 40) ho' (by simp only [List.length_map, maxLenB, List.length_cons, List.length_nil]; omega) (ok _) (ok _) (by decide) (by decide)
    rw [← List.map_append] at e1 o1
    obtain ⟨c2, tk2, h4⟩ := h3 Q N T Lb b B M hB q2 y0 y1 y2 y3 (acc ++ [⟨rw, 0, 0⟩]) c1 tk1 o1 (by simp; omega)
    refine ⟨c2, tk2, ?_⟩
    rw [show acc ++ (⟨rw, 0, 0⟩ : Th) :: xs = acc ++ [⟨rw, 0, 0⟩] ++ xs by simp, ← h4]
    refine it_step ?_
    have b1 : rBuild [(0, 1), (1, 1), (2, 1)] [.sl [] .nil, .v (.int .i64 0), .v (.int .i64 0)] [(0, .sl (sencs rw) .dead)] = some (.agg [.sl (sencs rw) .dead, int 0, int 0]) := rfl
    have b2 : rBuildSlice 3 [.sl [] .nil, .v (.int .i64 0), .v (.int .i64 0)] 1 [(0, .agg [.sl (sencs rw) .dead, int 0, int 0])] = some (.sl ([⟨rw, 0, 0⟩].map Th.enc) .full) := rfl
    generalize acc ++ [(⟨rw, 0, 0⟩ : Th)] = A at *
    generalize ((k + 1 : Nat) : Int) = K at hk1 hk2
    have sb := fun a l sz off v bl tk lp => sto_b M hB a l sz off v bl tk lp
    have pt : ∀ c0 c1 c2 c3 : PV, AM.part false 1 3 [c0, c1, c2, c3] = some c3 := fun _ _ _ _ => rfl
    have ld : ∀ c0 c1 c2 c3 v : PV, laid [c0, c1, c2, c3] 3 [v] = [c0, c1, c2, v] := fun _ _ _ _ _ => rfl
    simp only [S8.b2, canon_v, canon_sl, canon_clo, canon_ptr, need_refl, elems_sl, sf_v, sf_sl, sf_ptr, sf_ptrh, sf_clo, sf_dead, sf_nil, sf_full, sf_fr, need_true, ibeq, beq_ba, nbeq, nble, nblt, AM.nth, List.getD_cons_succ, List.getD_cons_zero, Option.bind_some, Option.bind_none, Option.map_some, onBool, AM.onG, onFn, seqK, retK, Ex.outOf, cond_true, cond_false, bin_lss, bin_leq, bin_gtr, bin_geq, bin_eql, bin_neq, bin_add, bin_sub, bin_mul, un_not, str_eql, str_neq, app_push, app_stk, app_tk, app_lp, load_app, load_app0, load_fp, store_app, store_app0, leave_app, leave_app0, AM.ownPut, AM.cellsOf, AM.shift, aPick, fin_v, fin_sl, beq_true, okSz, List.length_cons, List.length_nil, Nat.zero_add, Nat.add_zero, Nat.reduceAdd, decide_true, decide_false, Bool.and_true, Bool.true_and, Bool.and_self, Bool.not_true, Bool.not_false, List.getElem?_cons_zero, List.getElem?_cons_succ, List.nil_append, List.cons_append, hpp_app, hpp_stk, hpp_tk, hpp_lp, hpp_hp, app_lpadd, hload, hload0, hloadh, hstore, hstore0, hleave, hleave0, hfin_v, hfin_sl, hback, hloop, hsetlp, max_int, min_int, hstore_v, hstore_v0, hstore_s, hstore_d, modify_concat, part1, hbackt, hbackl, hback0, List.take_succ_cons, List.take_left, List.take_zero, List.take_nil, hk1, hk2, M.own0, pt, h5, b1, b2, e1, sb, okCells, ld, Nat.reduceLeDiff, Option.map_some, need_refl, List.modify_zero_cons, Nat.reduceSucc, decide_true, Nat.le_refl]
    rfl
end
end Go.Proofs.Ytkbhejcfejembaa.S

/- Trees: the maker of programs. No condition. -/
namespace Go.Proofs.Ytkbhejcfejembaa.S
open Go Go.AM Go.Proofs
set_option linter.unusedVariables false
set_option linter.unusedSimpArgs false
set_option maxHeartbeats 4000000

def csz (l : List (List S)) : Nat := (l.map cnts).sum
def bsz (l : List (List S)) : Nat := (l.map sszs).sum
theorem make_ev (nums : List Int) (hn : nums.length ≤ 400) : ∃ p : Pg, p.funs.length ≤ 3 ∧ p.threads.length ≤ 4 ∧ (bsz p.bodies ≤ 6000 ∧ csz p.bodies ≤ 60) ∧ ∀ st : St, E L (.func 8) [.sl (ints nums) .dead] st = some (.agg p.enc, st) := by
  obtain ⟨r1, a1, r10, r11, h1⟩ := pick_ev nums hn 0 60 3 (by decide) (by decide)
  obtain ⟨rs, a2, l2, rl, rl2, rl3, h2⟩ := recs_loop nums hn r1.toNat (by omega) a1 60 (by decide)
  subst rl3
  obtain ⟨gs, a3, h3⟩ := names_mk nums hn 4 (by decide) (by decide) a2 60
  obtain ⟨r4, a4, r40, r41, h4⟩ := pick_ev nums hn a3 60 3 (by decide) (by decide)
  obtain ⟨fs, a5, l5, fl, fl2, fl3, h5⟩ := funs_loop nums hn r4.toNat (by omega) a4 60 (by decide)
  obtain ⟨r6, a6, r60, r61, h6⟩ := pick_ev nums hn a5 l5 4 (by decide) (by decide)
  obtain ⟨ts, a7, l7, tl, tl2, tl3, h7⟩ := thrs_loop nums hn r6.toNat (by omega) a6 l5 (by omega)
  have c1 : (r1.toNat : Int) = r1 := by omega
  have c4 : (r4.toNat : Int) = r4 := by omega
  have c6 : (r6.toNat : Int) = r6 := by omega
  refine ⟨⟨rs.map Rc.enc, nms gs, fs, ts⟩, by show fs.length ≤ 3; omega, by show ts.length ≤ 4; omega, ?_, fun st => ?_⟩
  · simp only [bsz, csz, Pg.bodies, List.map_append, List.sum_append, List.map_map]
    have e1 : (fs.map (sszs ∘ Fu.body)).sum = (fs.map fun f => sszs f.body).sum := rfl
    have e2 : (ts.map (sszs ∘ Th.body)).sum = (ts.map fun f => sszs f.body).sum := rfl
    have e3 : (fs.map (cnts ∘ Fu.body)).sum = (fs.map fun f => cnts f.body).sum := rfl
    have e4 : (ts.map (cnts ∘ Th.body)).sum = (ts.map fun f => cnts f.body).sum := rfl
    omega
  obtain ⟨s, rfl⟩ : ∃ s : St, st = s.app [] [] [] := ⟨st, (app_nil st).symm⟩
  let Q : Nat → Nat → St := fun a l => s.app [⟨[.sl [] .nil, .sl [] .nil, .sl [] .nil, .sl [] .nil], []⟩, ⟨[.sl (ints nums) .dead, int a, int l], []⟩] [] []
  have hQ : ∀ a l bl tk lp, (Q a l).app bl tk lp = s.app (⟨[.sl [] .nil, .sl [] .nil, .sl [] .nil, .sl [] .nil], []⟩ :: ⟨[.sl (ints nums) .dead, int a, int l], []⟩ :: bl) tk lp := fun a l bl tk lp => by simp [Q, St.app]
  have M : Mk nums Q (s.stk.length + 2) s.tk.length s.lp.length (s.stk.length + 1) :=
    { hN := fun a l => by simp [Q, app_stk]
      hT := fun a l => by simp [Q, app_tk]
      hL := fun a l => by simp [Q, app_lp]
      hb := by omega
      ld := fun a l => by simp only [Q, app_blk]; rfl
      st := fun a l a' l' => by simp only [Q, setBlk_app]; rfl }
  let Z : Blk := ⟨[.sl [] .nil, .sl [] .nil, .sl [] .nil, .sl [] .nil], []⟩
  have h1 := h1 Q _ _ _ _ M [Z] []
  obtain ⟨k2, t2, h2⟩ := h2 Q _ _ _ _ s.stk.length M (by omega) (.ptr false s.stk.length 0) .u (.sl [] .nil) (.sl [] .nil) (.sl [] .nil) [] .nil [] (Own.nil ..) (by simp; omega)
  rw [c1, List.nil_append] at h2
  have h3 := h3 Q _ _ _ _ M [⟨[.sl (rs.map Rc.enc) k2, .sl [] .nil, .sl [] .nil, .sl [] .nil], []⟩] t2
  have h4 := h4 Q _ _ _ _ M [⟨[.sl (rs.map Rc.enc) k2, .sl (nms gs) .dead, .sl [] .nil, .sl [] .nil], []⟩] t2
  obtain ⟨k5, t5, h5⟩ := h5 Q _ _ _ _ s.stk.length M (by omega) (.ptr false s.stk.length 0) (.sl (rs.map Rc.enc) k2) (.sl (nms gs) .dead) .u (.sl [] .nil) [] .nil t2 (Own.nil ..) (by simp; omega)
  rw [c4, List.nil_append] at h5
  have h6 := h6 Q _ _ _ _ M [⟨[.sl (rs.map Rc.enc) k2, .sl (nms gs) .dead, .sl (fs.map Fu.enc) k5, .sl [] .nil], []⟩] t5
  obtain ⟨k7, t7, h7⟩ := h7 Q _ _ _ _ s.stk.length M (by omega) (.ptr false s.stk.length 0) (.sl (rs.map Rc.enc) k2) (.sl (nms gs) .dead) (.sl (fs.map Fu.enc) k5) .u [] .nil t5 (Own.nil ..) (by simp; omega)
  rw [c6, List.nil_append] at h7
  simp only [hQ, List.map_nil] at h1 h2 h3 h4 h5 h6 h7
  rw [show ((0 : Nat) : Int) = 0 from rfl, show ((60 : Nat) : Int) = 60 from rfl] at h1
  rw [show ((60 : Nat) : Int) = 60 from rfl] at h2 h3 h4 h5
  rw [show ((4 : Nat) : Int) = 4 from rfl] at h3
  have b0 : rBuild [(0, 1), (1, 1), (2, 1)] [.sl [] .nil, .v (.int .i64 0), .v (.int .i64 0)] [(0, .sl (ints nums) .dead), (2, PV.v (.int .i64 60))] = some (.agg [.sl (ints nums) .dead, int 0, int 60]) := rfl
  have ld1 : ∀ c0 c1 c2 c3 v : PV, laid [c0, c1, c2, c3] 1 [v] = [c0, v, c2, c3] := fun _ _ _ _ _ => rfl
  have ld4 : ∀ c0 c1 c2 c3 d0 d1 d2 d3 : PV, laid [c0, c1, c2, c3] 0 [d0, d1, d2, d3] = [d0, d1, d2, d3] := fun _ _ _ _ _ _ _ _ => rfl
  have wh : ∀ c0 c1 c2 c3 : PV, AM.part true 4 0 [c0, c1, c2, c3] = some (.agg [c0, c1, c2, c3]) := fun _ _ _ _ => rfl
  clear hQ M
  simp only [Z] at *
  rw [S8_eq]
  simp [S8, canon_v, canon_sl, canon_clo, canon_ptr, need_refl, elems_sl, sf_v, sf_sl, sf_ptr, sf_ptrh, sf_clo, sf_dead, sf_nil, sf_full, sf_fr, need_true, ibeq, beq_ba, nbeq, nble, nblt, AM.nth, List.getD_cons_succ, List.getD_cons_zero, Option.bind_some, Option.bind_none, Option.map_some, onBool, AM.onG, onFn, seqK, retK, Ex.outOf, cond_true, cond_false, bin_lss, bin_leq, bin_gtr, bin_geq, bin_eql, bin_neq, bin_add, bin_sub, bin_mul, un_not, str_eql, str_neq, app_push, app_stk, app_tk, app_lp, load_app, load_app0, load_fp, store_app, store_app0, leave_app, leave_app0, AM.ownPut, AM.cellsOf, AM.shift, aPick, fin_v, fin_sl, beq_true, okSz, List.length_cons, List.length_nil, Nat.zero_add, Nat.add_zero, Nat.reduceAdd, decide_true, decide_false, Bool.and_true, Bool.true_and, Bool.and_self, Bool.not_true, Bool.not_false, List.getElem?_cons_zero, List.getElem?_cons_succ, List.nil_append, List.cons_append, hpp_app, hpp_stk, hpp_tk, hpp_lp, hpp_hp, app_lpadd, hload, hload0, hloadh, hstore, hstore0, hleave, hleave0, hfin_v, hfin_sl, hback, hloop, hsetlp, max_int, min_int, hstore_v, hstore_v0, hstore_s, hstore_d, modify_concat, part1, hbackt, hbackl, hback0, List.take_succ_cons, List.take_left, List.take_zero, List.take_nil, b0, h1, h2, h3, okCells, ld1, h4, h5, h6, h7, wh, ld4, fin_agg, flatC, canonC_sl, Pg.enc]
end Go.Proofs.Ytkbhejcfejembaa.S
