/- Trees: the maker's arguments of a call. No condition. -/
import Derived.Test.YtkbhejcfejembaaEnc3
set_option linter.all false
namespace Go.Proofs.Ytkbhejcfejembaa.S
open Go Go.AM Go.Proofs
set_option linter.unusedVariables false
set_option linter.unusedSimpArgs false

mutual
def S.cnt : S → Nat
  | ⟨_, _, _, _, _, _, _, b, c, _, _⟩ => cnts b + cnts c + 1
def cnts : List S → Nat
  | [] => 0
  | x :: xs => x.cnt + cnts xs
end
theorem S.cnt_eq (x : S) : x.cnt = cnts x.body + cnts x.els + 1 := by cases x; rfl
mutual
theorem S.flat_cnt : ∀ (x : S) (d : Int), (x.flat d).length = x.cnt
  | ⟨op, name, right, place, e, n, args, body, els, l, c⟩, d => by
    have := flats_cnt body (d + 1)
    have := flats_cnt els (d + 1)
    simp [S.flat, S.cnt]; omega
theorem flats_cnt : ∀ (xs : List S) (d : Int), (flats xs d).length = cnts xs
  | [], d => by simp [flats, cnts]
  | x :: xs, d => by
    have := S.flat_cnt x d
    have := flats_cnt xs d
    simp [flats, cnts]; omega
end
theorem own_congr {s s' : St} (h : s.tk.length = s'.tk.length) {tk : List (Nat × Nat)} {c : Cap} {n sz : Nat} (o : Own s tk c n sz) : Own s' tk c n sz := by
  rcases o with o | ⟨j, rfl, hj⟩
  · exact .inl o
  · exact .inr ⟨j, by rw [h], hj⟩
theorem encs_ok (l : List X) : okSz 9 (encs l) = true := by rw [encs_map]; exact okSz_map _ X.len l
theorem encs_app (l m : List X) : encs l ++ encs m = encs (l ++ m) := by simp only [encs_map]; exact (List.map_append ..).symm
theorem part_laid {cs : List PV} {off : Nat} (h : off < cs.length) (v : PV) : AM.part false 1 off (laid cs off [v]) = some v := by
  simp only [AM.part, laid]
  simp [h]
theorem In.z {cs : List PV} {x : S} (h : In cs x) : laid Zs 0 cs = cs := laid0 _ _ (by rw [Zs_len, h.len])
section
variable (nums : List Int) (hn : nums.length ≤ 400)
include hn
theorem args_mk : ∀ (k : Nat), k ≤ 10 → ∀ a l : Nat, ∃ (es : List X) (a' : Nat), szs es ≤ 3 * k ∧ ∀ (Q : Nat → Nat → St) (N T Lb b : Nat), Mk nums Q N T Lb b → ∀ (t4 : Blk) (cs : List PV) (x : S) (c : Cap) (tk : List (Nat × Nat)), In cs x → AM.part false 1 53 cs = some (.sl (encs x.args) c) →
    Own (Q a l) tk c (encs x.args).length 9 → x.args.length + k ≤ 1000 → ∃ cs' tk', In cs' (x.wArgs (x.args ++ es)) ∧ itE (S44.b0 (E L) itE N Lb) [.ptr false b 0, .ptr false N 0, .ptr false (N + 1) 0, int k] ((Q a l).app [t4, ⟨cs, []⟩] tk []) =
      some (.exit 1, [.ptr false b 0, .ptr false N 0, .ptr false (N + 1) 0, int 0], (Q a' l).app [t4, ⟨cs', []⟩] tk' []) := by
  intro k
  induction k with
  | zero =>
    intro _ a l
    refine ⟨[], a, by simp [szs], fun Q N T Lb b M t4 cs x c tk hi hp ho hlen => ⟨cs, tk, ?_, ?_⟩⟩
    · rw [List.append_nil]; cases x; exact hi
    · refine it_exit ?_
      simp [S44.b0, canon_v, canon_sl, canon_clo, canon_ptr, need_refl, elems_sl, sf_v, sf_sl, sf_ptr, sf_ptrh, sf_clo, sf_dead, sf_nil, sf_full, sf_fr, need_true, ibeq, beq_ba, nbeq, nble, nblt, AM.nth, List.getD_cons_succ, List.getD_cons_zero, Option.bind_some, Option.bind_none, Option.map_some, onBool, AM.onG, onFn, seqK, retK, Ex.outOf, cond_true, cond_false, bin_lss, bin_leq, bin_gtr, bin_geq, bin_eql, bin_neq, bin_add, bin_sub, bin_mul, un_not, str_eql, str_neq, app_push, app_stk, app_tk, app_lp, load_app, load_app0, load_fp, store_app, store_app0, leave_app, leave_app0, AM.ownPut, AM.cellsOf, AM.shift, aPick, fin_v, fin_sl, beq_true, okSz, List.length_cons, List.length_nil, Nat.zero_add, Nat.add_zero, Nat.reduceAdd, decide_true, decide_false, Bool.and_true, Bool.true_and, Bool.and_self, Bool.not_true, Bool.not_false, List.getElem?_cons_zero, List.getElem?_cons_succ, List.nil_append, List.cons_append, hpp_app, hpp_stk, hpp_tk, hpp_lp, hpp_hp, app_lpadd, hload, hload0, hloadh, hstore, hstore0, hleave, hleave0, hfin_v, hfin_sl, hback, hloop, hsetlp, max_int, min_int, hstore_v, hstore_v0, hstore_s, hstore_d, modify_concat, part1, hbackt, hbackl, hback0, List.take_succ_cons, List.take_left, List.take_zero, List.take_nil]
  | succ k ih =>
    intro hk a l
    obtain ⟨y, a1, hz, hy⟩ := expr_mk nums hn 1 (by decide) a l
    obtain ⟨es, a2, hzs, hes⟩ := ih (by omega) a1 l
    refine ⟨y :: es, a2, by simp [szs] at hz ⊢; omega, fun Q N T Lb b M t4 cs x c tk hi hp ho hlen => ?_⟩
    have hy := hy Q N T Lb b M
    rw [show ((1 : Nat) : Int) = 1 from rfl] at hy
    have ho' : Own (Q a1 l) tk c (encs x.args).length 9 := own_congr (by rw [M.hT, M.hT]) ho
    obtain ⟨c1, tk1, e1, o1⟩ := app_own (ys := encs [y]) (bytes := 104) ho' (by simp only [encs_length, maxLenB, List.length_cons, List.length_nil]; omega) (encs_ok _) (encs_ok _) (by decide) (by decide)
    rw [encs_app] at e1 o1
    have hi1 := hi.args (x.args ++ [y]) c1
    have hlen1 : (x.wArgs (x.args ++ [y])).args = x.args ++ [y] := rfl
    obtain ⟨cs2, tk2, hi2, h2⟩ := hes Q N T Lb b M t4 (laid cs 53 [.sl (encs (x.args ++ [y])) c1]) (x.wArgs (x.args ++ [y])) c1 tk1 hi1 (part_laid (by rw [hi.len]; decide) _) o1 (by rw [hlen1, List.length_append, List.length_singleton]; omega)
    refine ⟨cs2, tk2, by rw [hlen1, List.append_assoc] at hi2; exact hi2, ?_⟩
    rw [← h2]
    refine it_step ?_
    have hk1 : ((k + 1 : Nat) : Int) > 0 := by omega
    have hk2 : IntKind.i64.wrap (((k + 1 : Nat) : Int) - 1) = (k : Int) := by rw [IntWalk.i64_in _ (by omega)]; omega
    generalize ((k + 1 : Nat) : Int) = K at hk1 hk2
    generalize x.args ++ [y] = A at *
    have hl := hi.len
    have hpok : okCells cs = true := hi.ok
    simp [S44.b0, canon_v, canon_sl, canon_clo, canon_ptr, need_refl, elems_sl, sf_v, sf_sl, sf_ptr, sf_ptrh, sf_clo, sf_dead, sf_nil, sf_full, sf_fr, need_true, ibeq, beq_ba, nbeq, nble, nblt, AM.nth, List.getD_cons_succ, List.getD_cons_zero, Option.bind_some, Option.bind_none, Option.map_some, onBool, AM.onG, onFn, seqK, retK, Ex.outOf, cond_true, cond_false, bin_lss, bin_leq, bin_gtr, bin_geq, bin_eql, bin_neq, bin_add, bin_sub, bin_mul, un_not, str_eql, str_neq, app_push, app_stk, app_tk, app_lp, load_app, load_app0, load_fp, store_app, store_app0, leave_app, leave_app0, AM.ownPut, AM.cellsOf, AM.shift, aPick, fin_v, fin_sl, beq_true, okSz, List.length_cons, List.length_nil, Nat.zero_add, Nat.add_zero, Nat.reduceAdd, decide_true, decide_false, Bool.and_true, Bool.true_and, Bool.and_self, Bool.not_true, Bool.not_false, List.getElem?_cons_zero, List.getElem?_cons_succ, List.nil_append, List.cons_append, hpp_app, hpp_stk, hpp_tk, hpp_lp, hpp_hp, app_lpadd, hload, hload0, hloadh, hstore, hstore0, hleave, hleave0, hfin_v, hfin_sl, hback, hloop, hsetlp, max_int, min_int, hstore_v, hstore_v0, hstore_s, hstore_d, modify_concat, part1, hbackt, hbackl, hback0, List.take_succ_cons, List.take_left, List.take_zero, List.take_nil, hk1, M.own, hp, hy, X.lit1, e1, M.sto, okCells, hl, hk2, need_true]
end
end Go.Proofs.Ytkbhejcfejembaa.S
