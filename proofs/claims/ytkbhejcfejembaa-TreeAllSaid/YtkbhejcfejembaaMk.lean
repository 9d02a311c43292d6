/- Trees: the maker of programs: numbers, names, kinds. No condition. -/
import Derived.Test.YtkbhejcfejembaaCt
set_option linter.all false
namespace Go.Proofs.Ytkbhejcfejembaa.S
open Go Go.AM Go.Proofs
set_option linter.unusedVariables false
set_option linter.unusedSimpArgs false

/-- States that hold a maker of these numbers: where it stands, and how many statements are left. -/
structure Mk (nums : List Int) (Q : Nat → Nat → St) (N T Lb b : Nat) : Prop where
  hN : ∀ a l, (Q a l).stk.length = N
  hT : ∀ a l, (Q a l).tk.length = T
  hL : ∀ a l, (Q a l).lp.length = Lb
  hb : b < N
  ld : ∀ a l, (Q a l).blk false b = some [.sl (ints nums) .dead, int a, int l]
  st : ∀ a l a' l' : Nat, (Q a l).setBlk false b [.sl (ints nums) .dead, int a', int l'] = Q a' l'

theorem app_app (s : St) (bl bl' : List Blk) (tk tk' : List (Nat × Nat)) (lp lp' : List Aux) : (s.app bl tk lp).app bl' tk' lp' = s.app (bl ++ bl') (tk ++ tk') (lp ++ lp') := by simp [St.app]
theorem setBlk_old {s : St} {b : Nat} (h : b < s.stk.length) (cs : List PV) (bl : List Blk) (tk : List (Nat × Nat)) (lp : List Aux) : (s.app bl tk lp).setBlk false b cs = (s.setBlk false b cs).app bl tk lp := by
  simp only [St.setBlk, St.upB, St.app]
  congr 1
  apply List.ext_getElem?
  intro i
  rw [List.getElem?_modify, List.getElem?_append, List.getElem?_append, List.getElem?_modify, List.length_modify]
  by_cases hi : i < s.stk.length
  · rw [if_pos hi, if_pos hi]
  · rw [if_neg hi, if_neg hi]
    have : b ≠ i := by omega
    simp [this]
section
variable {nums : List Int} {Q : Nat → Nat → St} {N T Lb b : Nat} (M : Mk nums Q N T Lb b)
include M
theorem Mk.app (bl : List Blk) (tk : List (Nat × Nat)) : Mk nums (fun a l => (Q a l).app bl tk []) (N + bl.length) (T + tk.length) Lb b where
  hN a l := by rw [app_stk, M.hN]
  hT a l := by rw [app_tk, M.hT]
  hL a l := by rw [app_lp, M.hL]; rfl
  hb := by have := M.hb; omega
  ld a l := by rw [app_blk_old (by rw [M.hN]; exact M.hb), M.ld]
  st a l a' l' := by rw [setBlk_old (by rw [M.hN]; exact M.hb), M.st]
theorem Mk.ld0 (a l : Nat) (bl : List Blk) (tk : List (Nat × Nat)) (lp : List Aux) : aLoad false 1 (.ptr false b 0) ((Q a l).app bl tk lp) = some (.sl (ints nums) .dead) := by
  rw [load_old (by rw [M.hN]; exact M.hb), aLoad, M.ld]; rfl
theorem Mk.ld1 (a l : Nat) (bl : List Blk) (tk : List (Nat × Nat)) (lp : List Aux) : aLoad false 1 (.ptr false b 1) ((Q a l).app bl tk lp) = some (int a) := by
  rw [load_old (by rw [M.hN]; exact M.hb), aLoad, M.ld]; rfl
theorem Mk.ld2 (a l : Nat) (bl : List Blk) (tk : List (Nat × Nat)) (lp : List Aux) : aLoad false 1 (.ptr false b 2) ((Q a l).app bl tk lp) = some (int l) := by
  rw [load_old (by rw [M.hN]; exact M.hb), aLoad, M.ld]; rfl
theorem Mk.put (base : Nat) (a l : Nat) (bl : List Blk) (tk : List (Nat × Nat)) (lp : List Aux) (off : Nat) (v : Value) (ho : off < 3) : aStore base 1 (.ptr false b off) (.v v) ((Q a l).app bl tk lp) = some (((Q a l).setBlk false b (laid [.sl (ints nums) .dead, int a, int l] off [.v v])).app bl tk lp) := by
  have h : ((Q a l).app bl tk lp).blk false b = some [.sl (ints nums) .dead, int a, int l] := by rw [app_blk_old (by rw [M.hN]; exact M.hb), M.ld]
  have hle : Nat.ble (off + 1) 3 = true := by rw [Nat.ble_eq]; exact ho
  have h1 := fun cs => setBlk_old (s := Q a l) (b := b) (by rw [M.hN]; exact M.hb) cs bl tk lp
  simp only [aStore, AM.cellsOf, Option.bind_some, putCells, h, List.length_cons, List.length_nil, Nat.zero_add, nbeq, Nat.reduceAdd, hle, okCells, moveCs, moveC, h1]
  cases Nat.blt b base <;> rfl
theorem Mk.st1 (base : Nat) (a a' l : Nat) (bl : List Blk) (tk : List (Nat × Nat)) (lp : List Aux) : aStore base 1 (.ptr false b 1) (int a') ((Q a l).app bl tk lp) = some ((Q a' l).app bl tk lp) := by
  rw [M.put base a l bl tk lp 1 _ (by decide)]
  exact congrArg (fun x => some (x.app bl tk lp)) (M.st a l a' l)
theorem Mk.st2 (base : Nat) (a l l' : Nat) (bl : List Blk) (tk : List (Nat × Nat)) (lp : List Aux) : aStore base 1 (.ptr false b 2) (int l') ((Q a l).app bl tk lp) = some ((Q a l').app bl tk lp) := by
  rw [M.put base a l bl tk lp 2 _ (by decide)]
  exact congrArg (fun x => some (x.app bl tk lp)) (M.st a l a l')
theorem Mk.own (a l : Nat) (agg : Bool) (sz off j : Nat) (bl : List Blk) (tk : List (Nat × Nat)) (lp : List Aux) : aLoad agg sz (.ptr false (N + j) off) ((Q a l).app bl tk lp) = ((bl[j]?).map Blk.cs).bind (AM.part agg sz off) := by
  have := load_app agg sz off j (Q a l) bl tk lp
  rwa [M.hN] at this
theorem Mk.own0 (a l : Nat) (agg : Bool) (sz off : Nat) (bl : List Blk) (tk : List (Nat × Nat)) (lp : List Aux) : aLoad agg sz (.ptr false N off) ((Q a l).app bl tk lp) = ((bl[0]?).map Blk.cs).bind (AM.part agg sz off) := M.own a l agg sz off 0 bl tk lp
theorem Mk.sto (a l : Nat) (sz off j : Nat) (v : PV) (bl : List Blk) (tk : List (Nat × Nat)) (lp : List Aux) : aStore N sz (.ptr false (N + j) off) v ((Q a l).app bl tk lp) = (ownPut bl j off sz v).map fun bl => (Q a l).app bl tk lp := by
  have := store_app sz off j v (Q a l) bl tk lp
  rwa [M.hN] at this
theorem Mk.sto0 (a l : Nat) (sz off : Nat) (v : PV) (bl : List Blk) (tk : List (Nat × Nat)) (lp : List Aux) : aStore N sz (.ptr false N off) v ((Q a l).app bl tk lp) = (ownPut bl 0 off sz v).map fun bl => (Q a l).app bl tk lp := M.sto a l sz off 0 v bl tk lp
theorem Mk.fv (a l : Nat) (x : Value) (bl : List Blk) (tk : List (Nat × Nat)) (lp : List Aux) : fin N T Lb [.v x] ((Q a l).app bl tk lp) = some (.v x, (Q a l).app [] [] []) := by
  have := fin_v (Q a l) bl tk lp x
  rwa [M.hN, M.hT, M.hL] at this
theorem Mk.fs (a l : Nat) (es : List (List PV)) (c : Cap) (bl : List Blk) (tk : List (Nat × Nat)) (lp : List Aux) : fin N T Lb [.sl es c] ((Q a l).app bl tk lp) = some (.sl es .dead, (Q a l).app [] [] []) := by
  have := fin_sl (Q a l) bl tk lp es c
  rwa [M.hN, M.hT, M.hL] at this
theorem Mk.fa (a l : Nat) {cs : List PV} (h : cs.all flatC = true) (bl : List Blk) (tk : List (Nat × Nat)) (lp : List Aux) : fin N T Lb [.agg cs] ((Q a l).app bl tk lp) = some (.agg (cs.map canonC), (Q a l).app [] [] []) := by
  have := fin_agg (Q a l) bl tk lp h
  rwa [M.hN, M.hT, M.hL] at this
end

/-- What a maker's function comes to, wherever the maker lies. -/
def Does (nums : List Int) (f : FuncId) (args : List PV) (a l : Nat) (v : PV) (a' l' : Nat) : Prop := ∀ (Q : Nat → Nat → St) (N T Lb b : Nat), Mk nums Q N T Lb b → ∀ (bl : List Blk) (tk : List (Nat × Nat)), E L (.func f) (.ptr false b 0 :: args) ((Q a l).app bl tk []) = some (v, (Q a' l').app bl tk [])
theorem Does.of {nums : List Int} {f : FuncId} {args : List PV} {a l : Nat} {v : PV} {a' l' : Nat} (h : ∀ (Q : Nat → Nat → St) (N T Lb b : Nat), Mk nums Q N T Lb b → E L (.func f) (.ptr false b 0 :: args) ((Q a l).app [] [] []) = some (v, (Q a' l').app [] [] [])) : Does nums f args a l v a' l' :=
  fun Q N T Lb b M bl tk => by
    have := h _ _ _ _ _ (M.app bl tk)
    simpa only [app_nil] using this

theorem rem_u64 (P : Program) (c : Bool) (t : TypeId) (x y : Int) (h : 0 < y) : aBin P c .rem t (.v (.int .u64 x)) (.v (.int .u64 y)) = some (.v (.int .u64 (x.tmod y))) := by
  show flatRes (pureIn P (Op.intDiv .rem .u64 x y)) = _
  have : ¬ y = 0 := by omega
  simp only [Op.intDiv, this, if_false]
  exact flat_pure P (.int .u64 (x.tmod y)) rfl
theorem wrap_u64_nonneg (n : Int) : 0 ≤ IntKind.u64.wrap n := by
  simp only [IntKind.wrap, IntKind.bits, IntKind.signed]; simp; omega

theorem pick_ev (nums : List Int) (hn : nums.length ≤ 400) (a l : Nat) (k : Int) (h1 : 0 < k) (h2 : k ≤ 1000) : ∃ r a', 0 ≤ r ∧ r < k ∧ Does nums 22 [int k] a l (int r) a' l := by
  by_cases ha : a < nums.length
  · have h0 := wrap_u64_nonneg (nums[a]'ha)
    have hk : IntKind.u64.wrap k = k := IntWalk.u64_in _ (by omega)
    have hr := rem_u64 Try.prog false 59 (IntKind.u64.wrap (nums[a]'ha)) k h1
    have e : (IntKind.u64.wrap (nums[a]'ha)).tmod k = IntKind.u64.wrap (nums[a]'ha) % k := Int.tmod_eq_emod_of_nonneg h0
    have b0 := Int.emod_nonneg (IntKind.u64.wrap (nums[a]'ha)) (show k ≠ 0 by omega)
    have b1 := Int.emod_lt_of_pos (IntKind.u64.wrap (nums[a]'ha)) h1
    rw [e] at hr
    have hg : (ints nums)[a]? = some [int (nums[a]'ha)] := by simp [ints, ha]
    generalize hv : IntKind.u64.wrap (nums[a]'ha) = v at *
    have hw : IntKind.i64.wrap (v % k) = v % k := IntWalk.i64_in _ (by omega)
    generalize v % k = r at *
    refine ⟨r, a + 1, b0, b1, Does.of fun Q N T Lb b M => ?_⟩
    have hge : ¬ (a : Int) ≥ nums.length := by omega
    have w1 : IntKind.i64.wrap ((a : Int) + 1) = ((a + 1 : Nat) : Int) := by rw [IntWalk.i64_in _ (by omega)]; rfl
    have w2 : IntKind.i64.wrap (((a + 1 : Nat) : Int) - 1) = (a : Int) := by rw [IntWalk.i64_in _ (by omega)]; omega
    have hin : inRange (a : Int) nums.length = true := by simp [inRange]; omega
    rw [S22_eq]
    simp only [S22, canon_v, canon_sl, canon_clo, canon_ptr, need_refl, elems_sl, sf_v, sf_sl, sf_ptr, sf_ptrh, sf_clo, sf_dead, sf_nil, sf_full, sf_fr, need_true, ibeq, beq_ba, nbeq, nble, nblt, AM.nth, List.getD_cons_succ, List.getD_cons_zero, Option.bind_some, Option.bind_none, Option.map_some, onBool, AM.onG, onFn, seqK, retK, Ex.outOf, cond_true, cond_false, bin_lss, bin_leq, bin_gtr, bin_geq, bin_eql, bin_neq, bin_add, bin_sub, bin_mul, un_not, str_eql, str_neq, app_push, app_stk, app_tk, app_lp, load_app, load_app0, load_fp, store_app, store_app0, leave_app, leave_app0, AM.ownPut, AM.cellsOf, AM.shift, aPick, fin_v, fin_sl, beq_true, okSz, List.length_cons, List.length_nil, Nat.zero_add, Nat.add_zero, Nat.reduceAdd, decide_true, decide_false, Bool.and_true, Bool.true_and, Bool.and_self, Bool.not_true, Bool.not_false, List.getElem?_cons_zero, List.getElem?_cons_succ, List.nil_append, List.cons_append, hpp_app, hpp_stk, hpp_tk, hpp_lp, hpp_hp, app_lpadd, hload, hload0, hloadh, hstore, hstore0, hleave, hleave0, hfin_v, hfin_sl, hback, hloop, hsetlp, max_int, min_int, hstore_v, hstore_v0, hstore_s, hstore_d, modify_concat, part1, hbackt, hbackl, hback0, List.take_succ_cons, List.take_left, List.take_zero, List.take_nil, aNilCheck, M.ld0, M.ld1, len_22, ints_len, hge, M.hN, M.hT, M.hL, M.fv, w1, M.st1, w2, ia_22, hin, Int.toNat_natCast, hg, part1, conv_3_59, conv_59_3, hv, hk, hr, hw]
  · refine ⟨0, a, Int.le_refl _, h1, Does.of fun Q N T Lb b M => ?_⟩
    have hge : (a : Int) ≥ nums.length := by omega
    rw [S22_eq]
    simp [S22, canon_v, canon_sl, canon_clo, canon_ptr, need_refl, elems_sl, sf_v, sf_sl, sf_ptr, sf_ptrh, sf_clo, sf_dead, sf_nil, sf_full, sf_fr, need_true, ibeq, beq_ba, nbeq, nble, nblt, AM.nth, List.getD_cons_succ, List.getD_cons_zero, Option.bind_some, Option.bind_none, Option.map_some, onBool, AM.onG, onFn, seqK, retK, Ex.outOf, cond_true, cond_false, bin_lss, bin_leq, bin_gtr, bin_geq, bin_eql, bin_neq, bin_add, bin_sub, bin_mul, un_not, str_eql, str_neq, app_push, app_stk, app_tk, app_lp, load_app, load_app0, load_fp, store_app, store_app0, leave_app, leave_app0, AM.ownPut, AM.cellsOf, AM.shift, aPick, fin_v, fin_sl, beq_true, okSz, List.length_cons, List.length_nil, Nat.zero_add, Nat.add_zero, Nat.reduceAdd, decide_true, decide_false, Bool.and_true, Bool.true_and, Bool.and_self, Bool.not_true, Bool.not_false, List.getElem?_cons_zero, List.getElem?_cons_succ, List.nil_append, List.cons_append, hpp_app, hpp_stk, hpp_tk, hpp_lp, hpp_hp, app_lpadd, hload, hload0, hloadh, hstore, hstore0, hleave, hleave0, hfin_v, hfin_sl, hback, hloop, hsetlp, max_int, min_int, hstore_v, hstore_v0, hstore_s, hstore_d, modify_concat, part1, hbackt, hbackl, hback0, List.take_succ_cons, List.take_left, List.take_zero, List.take_nil, aNilCheck, M.ld0, M.ld1, len_22, ints_len, hge, M.hN, M.hT, M.hL, M.fv]
end Go.Proofs.Ytkbhejcfejembaa.S
