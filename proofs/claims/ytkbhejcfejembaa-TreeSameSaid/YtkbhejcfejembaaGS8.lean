/- Trees: the reference's text of a program. No condition. -/
import Derived.Test.YtkbhejcfejembaaGS7
import Derived.KernelRfl
set_option linter.all false
namespace Go.Proofs.Ytkbhejcfejembaa.S
open Go Go.AM Go.Proofs
set_option linter.unusedVariables false
set_option linter.unusedSimpArgs false
set_option maxHeartbeats 4000000

/-- A loop over so many rounds, each of which is left as it was foreseen. -/
theorem it_all {σ : Type} {b : List PV → St → Option (Ex × List PV × St)} {n : Nat} {P : Nat → σ → Prop} {vs : Nat → σ → List PV} {st : Nat → σ → St} {e : Nat}
    (step : ∀ i a, i < n → P i a → ∃ a', P (i + 1) a' ∧ b (vs i a) (st i a) = some (.normal, vs (i + 1) a', st (i + 1) a'))
    (stop : ∀ a, P n a → b (vs n a) (st n a) = some (.exit e, vs n a, st n a)) (a : σ) (h : P 0 a) : ∃ a', P n a' ∧ itE b (vs 0 a) (st 0 a) = some (.exit e, vs n a', st n a') := by
  have go : ∀ k i a, i + k = n → P i a → ∃ a', P n a' ∧ itE b (vs i a) (st i a) = some (.exit e, vs n a', st n a') := by
    intro k
    induction k with
    | zero =>
      intro i a hi ha
      obtain rfl : i = n := by omega
      exact ⟨a, ha, it_exit (stop a ha)⟩
    | succ k ih =>
      intro i a hi ha
      obtain ⟨a1, h1, h2⟩ := step i a (by omega) ha
      obtain ⟨a2, h3, h4⟩ := ih (i + 1) a1 (by omega) h1
      exact ⟨a2, h3, by rw [it_step h2, h4]⟩
  exact go n 0 a (by omega) h
theorem fm_succ {α β : Type} (f : α → List β) (l : List α) (i : Nat) (h : i < l.length) : (l.take (i + 1)).flatMap f = (l.take i).flatMap f ++ f l[i] := by
  rw [List.take_succ_eq_append_getElem h, List.flatMap_append]; simp
theorem fm_le {α β : Type} (f : α → List β) (l : List α) (i : Nat) (h : i < l.length) : ((l.take i).flatMap f).length + (f l[i]).length ≤ (l.flatMap f).length := by
  rw [← List.length_append, ← fm_succ f l i h]
  have e : l.flatMap f = (l.take (i + 1)).flatMap f ++ (l.drop (i + 1)).flatMap f := by rw [← List.flatMap_append, List.take_append_drop]
  rw [e, List.length_append]; omega
theorem inRn {n i : Nat} (h : i < n) : inRange (i : Int) n = true := by simp [inRange]; omega

def nmT (n : Nm) : List ByteArray := [n.name, numT n.kd, n.rc]
def namedT (l : List Nm) : List ByteArray := numT l.length :: l.flatMap nmT
theorem namedT_len (l : List Nm) : (namedT l).length = 1 + 3 * l.length := by
  have : (l.flatMap nmT).length = 3 * l.length := by
    induction l with
    | nil => rfl
    | cons x l ih => simp only [List.flatMap_cons, List.length_append, ih, List.length_cons]; simp [nmT]; omega
  simp only [namedT, List.length_cons, this]; omega
theorem named_ev (l : List Nm) (hl : l.length ≤ 1000000) (st : St) : E L (.func 38) [.sl (nms l) .dead] st = some (.sl (strs (namedT l)) .dead, st) := by
  obtain ⟨s, rfl⟩ : ∃ s : St, st = s.app [] [] [] := ⟨st, (app_nil st).symm⟩
  have hT := namedT_len l
  obtain ⟨⟨c, tk⟩, ho, hit⟩ := it_all (b := S38.b0 (E L) itE s.stk.length s.lp.length) (n := l.length) (e := 0) (P := fun i a => Own s a.2 a.1 (strs (numT l.length :: (l.take i).flatMap nmT)).length 1)
    (vs := fun i a => [.sl (strs (numT l.length :: (l.take i).flatMap nmT)) a.1, .sl (nms l) .dead, int l.length, int i]) (st := fun i a => s.app [] a.2 [])
    (fun i a hi ho => by
      obtain ⟨c, tk⟩ := a
      have hlt : (i : Int) < (l.length : Int) := by omega
      have g1 : (nms l)[i]? = some (l[i]).enc := by simp [nms, hi]
      have w1 : IntKind.i64.wrap ((i : Int) + 1) = ((i + 1 : Nat) : Int) := IntWalk.i64_in _ (by omega)
      have hle := fm_le nmT l i hi
      have hlT : (l.flatMap nmT).length = 3 * l.length := by simp only [namedT, List.length_cons] at hT; omega
      obtain ⟨c1, tk1, e1, o1⟩ := app_own (ys := strs (nmT l[i])) (bytes := 16) ho (by simp only [strs_len, List.length_cons, maxLenB]; omega) (strs_ok _) (strs_ok _) (by decide) (by decide)
      rw [strs_app, List.cons_append, ← fm_succ nmT l i hi] at e1 o1
      refine ⟨(c1, tk1), o1, ?_⟩
      have el : (l[i]).enc.length = 5 := rfl
      have ew : AM.part true 5 0 (l[i]).enc = some (.agg (l[i]).enc) := rfl
      have eo : okCells (l[i]).enc = true := rfl
      have p0 : AM.part false 1 0 (l[i]).enc = some (str (l[i]).name) := rfl
      have p1 : AM.part false 1 1 (l[i]).enc = some (int (l[i]).kd) := rfl
      have p2 : AM.part false 1 2 (l[i]).enc = some (str (l[i]).rc) := rfl
      have hb : rBuildSlice 1 [.v (.string ⟨#[]⟩)] 3 [(0, str (l[i]).name), (1, str (numT (l[i]).kd)), (2, str (l[i]).rc)] = some (.sl (strs (nmT l[i])) .full) := rfl
      have rr := inRn hi
      generalize numT l.length :: (l.take (i + 1)).flatMap nmT = A at *
      generalize numT l.length :: (l.take i).flatMap nmT = B at *
      simp [S38.b0, canon_v, canon_sl, canon_clo, canon_ptr, need_refl, elems_sl, sf_v, sf_sl, sf_ptr, sf_ptrh, sf_clo, sf_dead, sf_nil, sf_full, sf_fr, need_true, ibeq, beq_ba, nbeq, nble, nblt, AM.nth, List.getD_cons_succ, List.getD_cons_zero, Option.bind_some, Option.bind_none, Option.map_some, onBool, AM.onG, onFn, seqK, retK, Ex.outOf, cond_true, cond_false, bin_lss, bin_leq, bin_gtr, bin_geq, bin_eql, bin_neq, bin_add, bin_sub, bin_mul, un_not, str_eql, str_neq, app_push, app_stk, app_tk, app_lp, load_app, load_app0, load_fp, store_app, store_app0, leave_app, leave_app0, AM.ownPut, AM.cellsOf, AM.shift, aPick, fin_v, fin_sl, beq_true, okSz, List.length_cons, List.length_nil, Nat.zero_add, Nat.add_zero, Nat.reduceAdd, decide_true, decide_false, Bool.and_true, Bool.true_and, Bool.and_self, Bool.not_true, Bool.not_false, List.getElem?_cons_zero, List.getElem?_cons_succ, List.nil_append, List.cons_append, hpp_app, hpp_stk, hpp_tk, hpp_lp, hpp_hp, app_lpadd, hload, hload0, hloadh, hstore, hstore0, hleave, hleave0, hfin_v, hfin_sl, hback, hloop, hsetlp, max_int, min_int, hstore_v, hstore_v0, hstore_s, hstore_d, modify_concat, part1, hbackt, hbackl, hback0, List.take_succ_cons, List.take_left, List.take_zero, List.take_nil, hlt, ia_25, nms_len, rr, g1, el, ew, eo, laid0, p0, p1, p2, text_ev, hb, e1, w1, o1.sfc])
    (fun a ho => by
      obtain ⟨c, tk⟩ := a
      simp [S38.b0, canon_v, canon_sl, canon_clo, canon_ptr, need_refl, elems_sl, sf_v, sf_sl, sf_ptr, sf_ptrh, sf_clo, sf_dead, sf_nil, sf_full, sf_fr, need_true, ibeq, beq_ba, nbeq, nble, nblt, AM.nth, List.getD_cons_succ, List.getD_cons_zero, Option.bind_some, Option.bind_none, Option.map_some, onBool, AM.onG, onFn, seqK, retK, Ex.outOf, cond_true, cond_false, bin_lss, bin_leq, bin_gtr, bin_geq, bin_eql, bin_neq, bin_add, bin_sub, bin_mul, un_not, str_eql, str_neq, app_push, app_stk, app_tk, app_lp, load_app, load_app0, load_fp, store_app, store_app0, leave_app, leave_app0, AM.ownPut, AM.cellsOf, AM.shift, aPick, fin_v, fin_sl, beq_true, okSz, List.length_cons, List.length_nil, Nat.zero_add, Nat.add_zero, Nat.reduceAdd, decide_true, decide_false, Bool.and_true, Bool.true_and, Bool.and_self, Bool.not_true, Bool.not_false, List.getElem?_cons_zero, List.getElem?_cons_succ, List.nil_append, List.cons_append, hpp_app, hpp_stk, hpp_tk, hpp_lp, hpp_hp, app_lpadd, hload, hload0, hloadh, hstore, hstore0, hleave, hleave0, hfin_v, hfin_sl, hback, hloop, hsetlp, max_int, min_int, hstore_v, hstore_v0, hstore_s, hstore_d, modify_concat, part1, hbackt, hbackl, hback0, List.take_succ_cons, List.take_left, List.take_zero, List.take_nil, Own.sfc ho]) (.full, []) (Own.full ..)
  simp only [List.take_zero, List.flatMap_nil, List.take_length] at hit
  rw [show ((0 : Nat) : Int) = 0 from rfl] at hit
  rw [S38_eq]
  have hb : rBuildSlice 1 [.v (.string ⟨#[]⟩)] 1 [(0, str (numT l.length))] = some (.sl (strs [numT l.length]) .full) := rfl
  simp [S38, canon_v, canon_sl, canon_clo, canon_ptr, need_refl, elems_sl, sf_v, sf_sl, sf_ptr, sf_ptrh, sf_clo, sf_dead, sf_nil, sf_full, sf_fr, need_true, ibeq, beq_ba, nbeq, nble, nblt, AM.nth, List.getD_cons_succ, List.getD_cons_zero, Option.bind_some, Option.bind_none, Option.map_some, onBool, AM.onG, onFn, seqK, retK, Ex.outOf, cond_true, cond_false, bin_lss, bin_leq, bin_gtr, bin_geq, bin_eql, bin_neq, bin_add, bin_sub, bin_mul, un_not, str_eql, str_neq, app_push, app_stk, app_tk, app_lp, load_app, load_app0, load_fp, store_app, store_app0, leave_app, leave_app0, AM.ownPut, AM.cellsOf, AM.shift, aPick, fin_v, fin_sl, beq_true, okSz, List.length_cons, List.length_nil, Nat.zero_add, Nat.add_zero, Nat.reduceAdd, decide_true, decide_false, Bool.and_true, Bool.true_and, Bool.and_self, Bool.not_true, Bool.not_false, List.getElem?_cons_zero, List.getElem?_cons_succ, List.nil_append, List.cons_append, hpp_app, hpp_stk, hpp_tk, hpp_lp, hpp_hp, app_lpadd, hload, hload0, hloadh, hstore, hstore0, hleave, hleave0, hfin_v, hfin_sl, hback, hloop, hsetlp, max_int, min_int, hstore_v, hstore_v0, hstore_s, hstore_d, modify_concat, part1, hbackt, hbackl, hback0, List.take_succ_cons, List.take_left, List.take_zero, List.take_nil, len_25, nms_len, text_ev, hb, hit, namedT]

def Rc.tx (r : Rc) : List ByteArray := r.name :: namedT r.fields
def Fu.tx (r : Fu) : List ByteArray := r.name :: (namedT r.params ++ rowT r.body)
def Th.tx (r : Th) : List ByteArray := rowT r.body
def Pg.hd (p : Pg) : List ByteArray := [numT p.recs.length, numT p.funs.length, numT p.threads.length]
def Pg.tx (p : Pg) : List ByteArray := p.hd ++ p.recs.flatMap Rc.tx ++ namedT p.globals ++ p.funs.flatMap Fu.tx ++ p.threads.flatMap Th.tx
theorem fm_bound {α β : Type} (f : α → List β) (k : Nat) : ∀ (l : List α), (∀ x ∈ l, (f x).length ≤ k) → (l.flatMap f).length ≤ l.length * k
  | [], _ => by simp
  | x :: l, h => by
    have h1 := h x List.mem_cons_self
    have h2 := fm_bound f k l fun y hy => h y (List.mem_cons_of_mem _ hy)
    simp only [List.flatMap_cons, List.length_append, List.length_cons, Nat.add_mul]; omega

theorem recs_tx (s : St) (pb : Blk) (hpb : pb.cs.all (sf true (s.stk.length + 1) 4) = true) (l : List Rc) (hb : ∀ x ∈ l, x.fields.length ≤ 1000000) (hl : l.length ≤ 1000) (A : List ByteArray) (hA : A.length ≤ 1000) (c0 : Cap) (tk0 : List (Nat × Nat)) (h0 : Own s tk0 c0 (strs A).length 1) :
    ∃ c tk, Own s tk c (strs (A ++ l.flatMap Rc.tx)).length 1 ∧ itE (S14.b0 (E L) itE s.stk.length s.lp.length) [.ptr false s.stk.length 0, .sl (strs A) c0, .sl (l.map Rc.enc) .dead, int l.length, int 0] (s.app [pb] tk0 []) =
      some (.exit 0, [.ptr false s.stk.length 0, .sl (strs (A ++ l.flatMap Rc.tx)) c, .sl (l.map Rc.enc) .dead, int l.length, int l.length], s.app [pb] tk []) := by
  have hT : (l.flatMap Rc.tx).length ≤ l.length * 3000002 := fm_bound _ _ _ fun x hx => by have := hb x hx; have := namedT_len x.fields; simp only [Rc.tx, List.length_cons]; omega
  obtain ⟨⟨c, tk⟩, ho, hit⟩ := it_all (b := S14.b0 (E L) itE s.stk.length s.lp.length) (n := l.length) (e := 0) (P := fun i a => Own s a.2 a.1 (strs (A ++ (l.take i).flatMap Rc.tx)).length 1)
    (vs := fun i a => [.ptr false s.stk.length 0, .sl (strs (A ++ (l.take i).flatMap Rc.tx)) a.1, .sl (l.map Rc.enc) .dead, int l.length, int i]) (st := fun i a => s.app [pb] a.2 [])
    (fun i a hi ho => by
      obtain ⟨c, tk⟩ := a
      have hlt : (i : Int) < (l.length : Int) := by omega
      have g1 : (l.map Rc.enc)[i]? = some (l[i]).enc := by simp [hi]
      have w1 : IntKind.i64.wrap ((i : Int) + 1) = ((i + 1 : Nat) : Int) := IntWalk.i64_in _ (by omega)
      have hle := fm_le Rc.tx l i hi
      have hlx : (Rc.tx l[i]).length = 1 + (namedT (l[i]).fields).length := by simp only [Rc.tx, List.length_cons]; omega
      obtain ⟨c1, tk1, e1, o1⟩ := app_own (ys := strs [(l[i]).name]) (bytes := 16) ho (by simp only [strs_len, List.length_append, List.length_cons, List.length_nil, maxLenB]; omega) (strs_ok _) (strs_ok _) (by decide) (by decide)
      rw [strs_app] at e1 o1
      obtain ⟨c2, tk2, e2, o2⟩ := app_own (ys := strs (namedT (l[i]).fields)) (bytes := 16) o1 (by simp only [strs_len, List.length_append, List.length_cons, List.length_nil, maxLenB]; omega) (strs_ok _) (strs_ok _) (by decide) (by decide)
      have ex : A ++ (l.take i).flatMap Rc.tx ++ [(l[i]).name] ++ namedT (l[i]).fields = A ++ (l.take (i + 1)).flatMap Rc.tx := by rw [fm_succ _ _ _ hi]; simp [Rc.tx]
      rw [strs_app, ex] at e2 o2
      refine ⟨(c2, tk2), o2, ?_⟩
      have el : (l[i]).enc.length = 4 := rfl
      have ew : AM.part true 4 0 (l[i]).enc = some (.agg (l[i]).enc) := rfl
      have eo : okCells (l[i]).enc = true := rfl
      have p0 : AM.part false 1 0 (l[i]).enc = some (str (l[i]).name) := rfl
      have p1 : AM.part false 1 1 (l[i]).enc = some (.sl (nms (l[i]).fields) .dead) := rfl
      have hbs : rBuildSlice 1 [.v (.string ⟨#[]⟩)] 1 [(0, str (l[i]).name)] = some (.sl (strs [(l[i]).name]) .full) := rfl
      have rr := inRn hi
      have nm := named_ev (l[i]).fields (hb _ (List.getElem_mem hi))
      generalize A ++ (l.take (i + 1)).flatMap Rc.tx = B at *
      generalize A ++ (l.take i).flatMap Rc.tx ++ [(l[i]).name] = D at *
      generalize A ++ (l.take i).flatMap Rc.tx = B' at *
      simp [S14.b0, canon_v, canon_sl, canon_clo, canon_ptr, need_refl, elems_sl, sf_v, sf_sl, sf_ptr, sf_ptrh, sf_clo, sf_dead, sf_nil, sf_full, sf_fr, need_true, ibeq, beq_ba, nbeq, nble, nblt, AM.nth, List.getD_cons_succ, List.getD_cons_zero, Option.bind_some, Option.bind_none, Option.map_some, onBool, AM.onG, onFn, seqK, retK, Ex.outOf, cond_true, cond_false, bin_lss, bin_leq, bin_gtr, bin_geq, bin_eql, bin_neq, bin_add, bin_sub, bin_mul, un_not, str_eql, str_neq, app_push, app_stk, app_tk, app_lp, load_app, load_app0, load_fp, store_app, store_app0, leave_app, leave_app0, AM.ownPut, AM.cellsOf, AM.shift, aPick, fin_v, fin_sl, beq_true, okSz, List.length_cons, List.length_nil, Nat.zero_add, Nat.add_zero, Nat.reduceAdd, decide_true, decide_false, Bool.and_true, Bool.true_and, Bool.and_self, Bool.not_true, Bool.not_false, List.getElem?_cons_zero, List.getElem?_cons_succ, List.nil_append, List.cons_append, hpp_app, hpp_stk, hpp_tk, hpp_lp, hpp_hp, app_lpadd, hload, hload0, hloadh, hstore, hstore0, hleave, hleave0, hfin_v, hfin_sl, hback, hloop, hsetlp, max_int, min_int, hstore_v, hstore_v0, hstore_s, hstore_d, modify_concat, part1, hbackt, hbackl, hback0, List.take_succ_cons, List.take_left, List.take_zero, List.take_nil, hlt, ia_24, rr, g1, el, ew, eo, laid0, p0, p1, nm, hbs, e1, e2, w1, o2.sfc, hpb])
    (fun a ho => by
      obtain ⟨c, tk⟩ := a
      simp [S14.b0, canon_v, canon_sl, canon_clo, canon_ptr, need_refl, elems_sl, sf_v, sf_sl, sf_ptr, sf_ptrh, sf_clo, sf_dead, sf_nil, sf_full, sf_fr, need_true, ibeq, beq_ba, nbeq, nble, nblt, AM.nth, List.getD_cons_succ, List.getD_cons_zero, Option.bind_some, Option.bind_none, Option.map_some, onBool, AM.onG, onFn, seqK, retK, Ex.outOf, cond_true, cond_false, bin_lss, bin_leq, bin_gtr, bin_geq, bin_eql, bin_neq, bin_add, bin_sub, bin_mul, un_not, str_eql, str_neq, app_push, app_stk, app_tk, app_lp, load_app, load_app0, load_fp, store_app, store_app0, leave_app, leave_app0, AM.ownPut, AM.cellsOf, AM.shift, aPick, fin_v, fin_sl, beq_true, okSz, List.length_cons, List.length_nil, Nat.zero_add, Nat.add_zero, Nat.reduceAdd, decide_true, decide_false, Bool.and_true, Bool.true_and, Bool.and_self, Bool.not_true, Bool.not_false, List.getElem?_cons_zero, List.getElem?_cons_succ, List.nil_append, List.cons_append, hpp_app, hpp_stk, hpp_tk, hpp_lp, hpp_hp, app_lpadd, hload, hload0, hloadh, hstore, hstore0, hleave, hleave0, hfin_v, hfin_sl, hback, hloop, hsetlp, max_int, min_int, hstore_v, hstore_v0, hstore_s, hstore_d, modify_concat, part1, hbackt, hbackl, hback0, List.take_succ_cons, List.take_left, List.take_zero, List.take_nil, Own.sfc ho, hpb]) (c0, tk0) (by simpa using h0)
  simp only [List.take_zero, List.flatMap_nil, List.take_length, List.append_nil] at hit ho
  rw [show ((0 : Nat) : Int) = 0 from rfl] at hit
  exact ⟨c, tk, ho, hit⟩

theorem funs_tx (s : St) (pb : Blk) (hpb : pb.cs.all (sf true (s.stk.length + 1) 4) = true) (l : List Fu) (hb : ∀ x ∈ l, x.params.length ≤ 1000000) (hb2 : ∀ x ∈ l, sszs x.body ≤ 1000000) (hl : l.length ≤ 1000) (A : List ByteArray) (hA : A.length ≤ 10000000000) (c0 : Cap) (tk0 : List (Nat × Nat)) (h0 : Own s tk0 c0 (strs A).length 1) :
    ∃ c tk, Own s tk c (strs (A ++ l.flatMap Fu.tx)).length 1 ∧ itE (S14.b1 (E L) itE s.stk.length s.lp.length) [.ptr false s.stk.length 0, .sl (strs A) c0, .sl (l.map Fu.enc) .dead, int l.length, int 0] (s.app [pb] tk0 []) =
      some (.exit 2, [.ptr false s.stk.length 0, .sl (strs (A ++ l.flatMap Fu.tx)) c, .sl (l.map Fu.enc) .dead, int l.length, int l.length], s.app [pb] tk []) := by
  have hT : (l.flatMap Fu.tx).length ≤ l.length * 50000000 := fm_bound _ _ _ fun x hx => by
    have := hb x hx; have := hb2 x hx; have := namedT_len x.params; have := stxs_len x.body; have := rowT_len x.body
    simp only [Fu.tx, List.length_cons, List.length_append]; omega
  obtain ⟨⟨c, tk⟩, ho, hit⟩ := it_all (b := S14.b1 (E L) itE s.stk.length s.lp.length) (n := l.length) (e := 2) (P := fun i a => Own s a.2 a.1 (strs (A ++ (l.take i).flatMap Fu.tx)).length 1)
    (vs := fun i a => [.ptr false s.stk.length 0, .sl (strs (A ++ (l.take i).flatMap Fu.tx)) a.1, .sl (l.map Fu.enc) .dead, int l.length, int i]) (st := fun i a => s.app [pb] a.2 [])
    (fun i a hi ho => by
      obtain ⟨c, tk⟩ := a
      have hlt : (i : Int) < (l.length : Int) := by omega
      have g1 : (l.map Fu.enc)[i]? = some (l[i]).enc := by simp [hi]
      have w1 : IntKind.i64.wrap ((i : Int) + 1) = ((i + 1 : Nat) : Int) := IntWalk.i64_in _ (by omega)
      have hle := fm_le Fu.tx l i hi
      have hlx : (Fu.tx l[i]).length = 1 + (namedT (l[i]).params).length + (rowT (l[i]).body).length := by simp only [Fu.tx, List.length_cons, List.length_append]; omega
      obtain ⟨c1, tk1, e1, o1⟩ := app_own (ys := strs [(l[i]).name]) (bytes := 16) ho (by simp only [strs_len, List.length_append, List.length_cons, List.length_nil, maxLenB]; omega) (strs_ok _) (strs_ok _) (by decide) (by decide)
      rw [strs_app] at e1 o1
      obtain ⟨c2, tk2, e2, o2⟩ := app_own (ys := strs (namedT (l[i]).params)) (bytes := 16) o1 (by simp only [strs_len, List.length_append, List.length_cons, List.length_nil, maxLenB]; omega) (strs_ok _) (strs_ok _) (by decide) (by decide)
      rw [strs_app] at e2 o2
      obtain ⟨c3, tk3, e3, o3⟩ := app_own (ys := strs (rowT (l[i]).body)) (bytes := 16) o2 (by simp only [strs_len, List.length_append, List.length_cons, List.length_nil, maxLenB]; omega) (strs_ok _) (strs_ok _) (by decide) (by decide)
      have ex : A ++ (l.take i).flatMap Fu.tx ++ [(l[i]).name] ++ namedT (l[i]).params ++ rowT (l[i]).body = A ++ (l.take (i + 1)).flatMap Fu.tx := by rw [fm_succ _ _ _ hi]; simp [Fu.tx]
      rw [strs_app, ex] at e3 o3
      refine ⟨(c3, tk3), o3, ?_⟩
      have el : (l[i]).enc.length = 5 := rfl
      have ew : AM.part true 5 0 (l[i]).enc = some (.agg (l[i]).enc) := rfl
      have eo : okCells (l[i]).enc = true := rfl
      have p0 : AM.part false 1 0 (l[i]).enc = some (str (l[i]).name) := rfl
      have p1 : AM.part false 1 1 (l[i]).enc = some (.sl (nms (l[i]).params) .dead) := rfl
      have p2 : AM.part false 1 2 (l[i]).enc = some (.sl (sencs (l[i]).body) .dead) := rfl
      have hbs : rBuildSlice 1 [.v (.string ⟨#[]⟩)] 1 [(0, str (l[i]).name)] = some (.sl (strs [(l[i]).name]) .full) := rfl
      have rr := inRn hi
      have nm := named_ev (l[i]).params (hb _ (List.getElem_mem hi))
      have rv := row_ev _ (l[i]).body (Nat.le_refl _) (hb2 _ (List.getElem_mem hi))
      generalize A ++ (l.take (i + 1)).flatMap Fu.tx = B at *
      generalize A ++ (l.take i).flatMap Fu.tx ++ [(l[i]).name] ++ namedT (l[i]).params = D2 at *
      generalize A ++ (l.take i).flatMap Fu.tx ++ [(l[i]).name] = D at *
      generalize A ++ (l.take i).flatMap Fu.tx = B' at *
      simp [S14.b1, canon_v, canon_sl, canon_clo, canon_ptr, need_refl, elems_sl, sf_v, sf_sl, sf_ptr, sf_ptrh, sf_clo, sf_dead, sf_nil, sf_full, sf_fr, need_true, ibeq, beq_ba, nbeq, nble, nblt, AM.nth, List.getD_cons_succ, List.getD_cons_zero, Option.bind_some, Option.bind_none, Option.map_some, onBool, AM.onG, onFn, seqK, retK, Ex.outOf, cond_true, cond_false, bin_lss, bin_leq, bin_gtr, bin_geq, bin_eql, bin_neq, bin_add, bin_sub, bin_mul, un_not, str_eql, str_neq, app_push, app_stk, app_tk, app_lp, load_app, load_app0, load_fp, store_app, store_app0, leave_app, leave_app0, AM.ownPut, AM.cellsOf, AM.shift, aPick, fin_v, fin_sl, beq_true, okSz, List.length_cons, List.length_nil, Nat.zero_add, Nat.add_zero, Nat.reduceAdd, decide_true, decide_false, Bool.and_true, Bool.true_and, Bool.and_self, Bool.not_true, Bool.not_false, List.getElem?_cons_zero, List.getElem?_cons_succ, List.nil_append, List.cons_append, hpp_app, hpp_stk, hpp_tk, hpp_lp, hpp_hp, app_lpadd, hload, hload0, hloadh, hstore, hstore0, hleave, hleave0, hfin_v, hfin_sl, hback, hloop, hsetlp, max_int, min_int, hstore_v, hstore_v0, hstore_s, hstore_d, modify_concat, part1, hbackt, hbackl, hback0, List.take_succ_cons, List.take_left, List.take_zero, List.take_nil, hlt, ia_26, rr, g1, el, ew, eo, laid0, p0, p1, p2, nm, rv, hbs, e1, e2, e3, w1, o3.sfc, hpb])
    (fun a ho => by
      obtain ⟨c, tk⟩ := a
      simp [S14.b1, canon_v, canon_sl, canon_clo, canon_ptr, need_refl, elems_sl, sf_v, sf_sl, sf_ptr, sf_ptrh, sf_clo, sf_dead, sf_nil, sf_full, sf_fr, need_true, ibeq, beq_ba, nbeq, nble, nblt, AM.nth, List.getD_cons_succ, List.getD_cons_zero, Option.bind_some, Option.bind_none, Option.map_some, onBool, AM.onG, onFn, seqK, retK, Ex.outOf, cond_true, cond_false, bin_lss, bin_leq, bin_gtr, bin_geq, bin_eql, bin_neq, bin_add, bin_sub, bin_mul, un_not, str_eql, str_neq, app_push, app_stk, app_tk, app_lp, load_app, load_app0, load_fp, store_app, store_app0, leave_app, leave_app0, AM.ownPut, AM.cellsOf, AM.shift, aPick, fin_v, fin_sl, beq_true, okSz, List.length_cons, List.length_nil, Nat.zero_add, Nat.add_zero, Nat.reduceAdd, decide_true, decide_false, Bool.and_true, Bool.true_and, Bool.and_self, Bool.not_true, Bool.not_false, List.getElem?_cons_zero, List.getElem?_cons_succ, List.nil_append, List.cons_append, hpp_app, hpp_stk, hpp_tk, hpp_lp, hpp_hp, app_lpadd, hload, hload0, hloadh, hstore, hstore0, hleave, hleave0, hfin_v, hfin_sl, hback, hloop, hsetlp, max_int, min_int, hstore_v, hstore_v0, hstore_s, hstore_d, modify_concat, part1, hbackt, hbackl, hback0, List.take_succ_cons, List.take_left, List.take_zero, List.take_nil, Own.sfc ho, hpb]) (c0, tk0) (by simpa using h0)
  simp only [List.take_zero, List.flatMap_nil, List.take_length, List.append_nil] at hit ho
  rw [show ((0 : Nat) : Int) = 0 from rfl] at hit
  exact ⟨c, tk, ho, hit⟩

theorem thrs_tx (s : St) (pb : Blk) (hpb : pb.cs.all (sf true (s.stk.length + 1) 4) = true) (l : List Th) (hb2 : ∀ x ∈ l, sszs x.body ≤ 1000000) (hl : l.length ≤ 1000) (A : List ByteArray) (hA : A.length ≤ 100000000000) (c0 : Cap) (tk0 : List (Nat × Nat)) (h0 : Own s tk0 c0 (strs A).length 1) :
    ∃ c tk, Own s tk c (strs (A ++ l.flatMap Th.tx)).length 1 ∧ itE (S14.b2 (E L) itE s.stk.length s.lp.length) [.sl (strs A) c0, .sl (l.map Th.enc) .dead, int l.length, int 0] (s.app [pb] tk0 []) =
      some (.exit 4, [.sl (strs (A ++ l.flatMap Th.tx)) c, .sl (l.map Th.enc) .dead, int l.length, int l.length], s.app [pb] tk []) := by
  have hT : (l.flatMap Th.tx).length ≤ l.length * 50000000 := fm_bound _ _ _ fun x hx => by
    have := hb2 x hx; have := stxs_len x.body; have := rowT_len x.body
    simp only [Th.tx]; omega
  obtain ⟨⟨c, tk⟩, ho, hit⟩ := it_all (b := S14.b2 (E L) itE s.stk.length s.lp.length) (n := l.length) (e := 4) (P := fun i a => Own s a.2 a.1 (strs (A ++ (l.take i).flatMap Th.tx)).length 1)
    (vs := fun i a => [.sl (strs (A ++ (l.take i).flatMap Th.tx)) a.1, .sl (l.map Th.enc) .dead, int l.length, int i]) (st := fun i a => s.app [pb] a.2 [])
    (fun i a hi ho => by
      obtain ⟨c, tk⟩ := a
      have hlt : (i : Int) < (l.length : Int) := by omega
      have g1 : (l.map Th.enc)[i]? = some (l[i]).enc := by simp [hi]
      have w1 : IntKind.i64.wrap ((i : Int) + 1) = ((i + 1 : Nat) : Int) := IntWalk.i64_in _ (by omega)
      have hle := fm_le Th.tx l i hi
      have hlx : (Th.tx l[i]).length = (rowT (l[i]).body).length := rfl
      obtain ⟨c3, tk3, e3, o3⟩ := app_own (ys := strs (rowT (l[i]).body)) (bytes := 16) ho (by simp only [strs_len, List.length_append, List.length_cons, List.length_nil, maxLenB]; omega) (strs_ok _) (strs_ok _) (by decide) (by decide)
      have ex : A ++ (l.take i).flatMap Th.tx ++ rowT (l[i]).body = A ++ (l.take (i + 1)).flatMap Th.tx := by rw [fm_succ _ _ _ hi]; simp [Th.tx]
      rw [strs_app, ex] at e3 o3
      refine ⟨(c3, tk3), o3, ?_⟩
      have el : (l[i]).enc.length = 3 := rfl
      have ew : AM.part true 3 0 (l[i]).enc = some (.agg (l[i]).enc) := rfl
      have eo : okCells (l[i]).enc = true := rfl
      have p2 : AM.part false 1 0 (l[i]).enc = some (.sl (sencs (l[i]).body) .dead) := rfl
      have rr := inRn hi
      have rv := row_ev _ (l[i]).body (Nat.le_refl _) (hb2 _ (List.getElem_mem hi))
      generalize A ++ (l.take (i + 1)).flatMap Th.tx = B at *
      generalize A ++ (l.take i).flatMap Th.tx = B' at *
      simp [S14.b2, canon_v, canon_sl, canon_clo, canon_ptr, need_refl, elems_sl, sf_v, sf_sl, sf_ptr, sf_ptrh, sf_clo, sf_dead, sf_nil, sf_full, sf_fr, need_true, ibeq, beq_ba, nbeq, nble, nblt, AM.nth, List.getD_cons_succ, List.getD_cons_zero, Option.bind_some, Option.bind_none, Option.map_some, onBool, AM.onG, onFn, seqK, retK, Ex.outOf, cond_true, cond_false, bin_lss, bin_leq, bin_gtr, bin_geq, bin_eql, bin_neq, bin_add, bin_sub, bin_mul, un_not, str_eql, str_neq, app_push, app_stk, app_tk, app_lp, load_app, load_app0, load_fp, store_app, store_app0, leave_app, leave_app0, AM.ownPut, AM.cellsOf, AM.shift, aPick, fin_v, fin_sl, beq_true, okSz, List.length_cons, List.length_nil, Nat.zero_add, Nat.add_zero, Nat.reduceAdd, decide_true, decide_false, Bool.and_true, Bool.true_and, Bool.and_self, Bool.not_true, Bool.not_false, List.getElem?_cons_zero, List.getElem?_cons_succ, List.nil_append, List.cons_append, hpp_app, hpp_stk, hpp_tk, hpp_lp, hpp_hp, app_lpadd, hload, hload0, hloadh, hstore, hstore0, hleave, hleave0, hfin_v, hfin_sl, hback, hloop, hsetlp, max_int, min_int, hstore_v, hstore_v0, hstore_s, hstore_d, modify_concat, part1, hbackt, hbackl, hback0, List.take_succ_cons, List.take_left, List.take_zero, List.take_nil, hlt, ia_27, rr, g1, el, ew, eo, laid0, p2, rv, e3, w1, o3.sfc, hpb])
    (fun a ho => by
      obtain ⟨c, tk⟩ := a
      simp [S14.b2, canon_v, canon_sl, canon_clo, canon_ptr, need_refl, elems_sl, sf_v, sf_sl, sf_ptr, sf_ptrh, sf_clo, sf_dead, sf_nil, sf_full, sf_fr, need_true, ibeq, beq_ba, nbeq, nble, nblt, AM.nth, List.getD_cons_succ, List.getD_cons_zero, Option.bind_some, Option.bind_none, Option.map_some, onBool, AM.onG, onFn, seqK, retK, Ex.outOf, cond_true, cond_false, bin_lss, bin_leq, bin_gtr, bin_geq, bin_eql, bin_neq, bin_add, bin_sub, bin_mul, un_not, str_eql, str_neq, app_push, app_stk, app_tk, app_lp, load_app, load_app0, load_fp, store_app, store_app0, leave_app, leave_app0, AM.ownPut, AM.cellsOf, AM.shift, aPick, fin_v, fin_sl, beq_true, okSz, List.length_cons, List.length_nil, Nat.zero_add, Nat.add_zero, Nat.reduceAdd, decide_true, decide_false, Bool.and_true, Bool.true_and, Bool.and_self, Bool.not_true, Bool.not_false, List.getElem?_cons_zero, List.getElem?_cons_succ, List.nil_append, List.cons_append, hpp_app, hpp_stk, hpp_tk, hpp_lp, hpp_hp, app_lpadd, hload, hload0, hloadh, hstore, hstore0, hleave, hleave0, hfin_v, hfin_sl, hback, hloop, hsetlp, max_int, min_int, hstore_v, hstore_v0, hstore_s, hstore_d, modify_concat, part1, hbackt, hbackl, hback0, List.take_succ_cons, List.take_left, List.take_zero, List.take_nil, Own.sfc ho, hpb]) (c0, tk0) (by simpa using h0)
  simp only [List.take_zero, List.flatMap_nil, List.take_length, List.append_nil] at hit ho
  rw [show ((0 : Nat) : Int) = 0 from rfl] at hit
  exact ⟨c, tk, ho, hit⟩

theorem prog_ev (p : Pg) (h : p.small) (st : St) : E L (.func 14) [.agg p.enc] st = some (.sl (strs p.tx) .dead, st) := by
  obtain ⟨s, rfl⟩ : ∃ s : St, st = s.app [] [] [] := ⟨st, (app_nil st).symm⟩
  have hpb : (⟨p.enc, []⟩ : Blk).cs.all (sf true (s.stk.length + 1) 4) = true := rfl
  have hT1 : (p.recs.flatMap Rc.tx).length ≤ p.recs.length * 3000002 := fm_bound _ _ _ fun x hx => by have := h.rr x hx; have := namedT_len x.fields; simp only [Rc.tx, List.length_cons]; omega
  have hT2 : (p.funs.flatMap Fu.tx).length ≤ p.funs.length * 50000000 := fm_bound _ _ _ fun x hx => by
    have := h.fp x hx; have := h.fb x hx; have := namedT_len x.params; have := stxs_len x.body; have := rowT_len x.body
    simp only [Fu.tx, List.length_cons, List.length_append]; omega
  have hl1 := h.rl
  have hl2 := h.fl
  have hl3 := h.gl
  have hgl := namedT_len p.globals
  obtain ⟨c1, k1, o1, e1⟩ := recs_tx s ⟨p.enc, []⟩ hpb p.recs h.rr h.rl p.hd (by show 3 ≤ 1000; decide) .full [] (Own.full ..)
  obtain ⟨c2, k2, e2, o2⟩ := app_own (ys := strs (namedT p.globals)) (bytes := 16) o1 (by simp only [strs_len, List.length_append, List.length_cons, List.length_nil, maxLenB]; have : p.hd.length = 3 := rfl; omega) (strs_ok _) (strs_ok _) (by decide) (by decide)
  rw [strs_app] at e2 o2
  obtain ⟨c3, k3, o3, e3⟩ := funs_tx s ⟨p.enc, []⟩ hpb p.funs h.fp h.fb h.fl _ (by simp only [List.length_append]; have : p.hd.length = 3 := rfl; omega) c2 k2 o2
  obtain ⟨c4, k4, o4, e4⟩ := thrs_tx s ⟨p.enc, []⟩ hpb p.threads h.tb h.tl _ (by simp only [List.length_append]; have : p.hd.length = 3 := rfl; omega) c3 k3 o3
  have hbs : rBuildSlice 1 [.v (.string ⟨#[]⟩)] 3 [(0, str (numT p.recs.length)), (1, str (numT p.funs.length)), (2, str (numT p.threads.length))] = some (.sl (strs p.hd) .full) := rfl
  have p0 : AM.part false 1 0 p.enc = some (.sl (p.recs.map Rc.enc) .dead) := rfl
  have p1 : AM.part false 1 1 p.enc = some (.sl (nms p.globals) .dead) := rfl
  have p2 : AM.part false 1 2 p.enc = some (.sl (p.funs.map Fu.enc) .dead) := rfl
  have p3 : AM.part false 1 3 p.enc = some (.sl (p.threads.map Th.enc) .dead) := rfl
  have nm := named_ev p.globals (by have := h.gl; omega)
  rw [S14_eq, show Pg.tx p = p.hd ++ p.recs.flatMap Rc.tx ++ namedT p.globals ++ p.funs.flatMap Fu.tx ++ p.threads.flatMap Th.tx from rfl]
  generalize p.hd ++ p.recs.flatMap Rc.tx ++ namedT p.globals ++ p.funs.flatMap Fu.tx ++ p.threads.flatMap Th.tx = A4 at *
  generalize p.hd ++ p.recs.flatMap Rc.tx ++ namedT p.globals ++ p.funs.flatMap Fu.tx = A3 at *
  generalize p.hd ++ p.recs.flatMap Rc.tx ++ namedT p.globals = A2 at *
  generalize p.hd ++ p.recs.flatMap Rc.tx = A1 at *
  simp [S14, canon_v, canon_sl, canon_clo, canon_ptr, need_refl, elems_sl, sf_v, sf_sl, sf_ptr, sf_ptrh, sf_clo, sf_dead, sf_nil, sf_full, sf_fr, need_true, ibeq, beq_ba, nbeq, nble, nblt, AM.nth, List.getD_cons_succ, List.getD_cons_zero, Option.bind_some, Option.bind_none, Option.map_some, onBool, AM.onG, onFn, seqK, retK, Ex.outOf, cond_true, cond_false, bin_lss, bin_leq, bin_gtr, bin_geq, bin_eql, bin_neq, bin_add, bin_sub, bin_mul, un_not, str_eql, str_neq, app_push, app_stk, app_tk, app_lp, load_app, load_app0, load_fp, store_app, store_app0, leave_app, leave_app0, AM.ownPut, AM.cellsOf, AM.shift, aPick, fin_v, fin_sl, beq_true, okSz, List.length_cons, List.length_nil, Nat.zero_add, Nat.add_zero, Nat.reduceAdd, decide_true, decide_false, Bool.and_true, Bool.true_and, Bool.and_self, Bool.not_true, Bool.not_false, List.getElem?_cons_zero, List.getElem?_cons_succ, List.nil_append, List.cons_append, hpp_app, hpp_stk, hpp_tk, hpp_lp, hpp_hp, app_lpadd, hload, hload0, hloadh, hstore, hstore0, hleave, hleave0, hfin_v, hfin_sl, hback, hloop, hsetlp, max_int, min_int, hstore_v, hstore_v0, hstore_s, hstore_d, modify_concat, part1, hbackt, hbackl, hback0, List.take_succ_cons, List.take_left, List.take_zero, List.take_nil, p0, p1, p2, p3, len_24, len_26, len_27, text_ev, hbs, e1, nm, e2, e3, e4]
end Go.Proofs.Ytkbhejcfejembaa.S

/- Trees: the statements' first question. No condition. -/
namespace Go.Proofs.Ytkbhejcfejembaa.S
open Go Go.AM Go.Proofs
set_option linter.unusedVariables false
set_option linter.unusedSimpArgs false
set_option maxHeartbeats 4000000

theorem plain_fl : ∀ {cs : List PV}, cs.all flatC = true → plainCs cs = some (cs.map canonC)
  | [], _ => rfl
  | c :: cs, h => by
    simp only [List.all_cons, Bool.and_eq_true] at h
    have h1 : plainC c = some (canonC c) := by cases c <;> simp_all [flatC, plainC, canonC]
    simp only [plainCs, h1, plain_fl h.2, Option.bind_some, List.map_cons]
theorem In.lit {cs : List PV} {x : S} (h : In cs x) : rBuildSlice 58 Zs 1 [(0, .agg cs)] = some (.sl (sencs [x]) .full) := by
  have := lit1 Zs_len h.len (plain_fl h.fl) (by rw [List.length_map, h.len])
  rw [this, h.can]; rfl
def aX : X := ⟨1, 0, 1, 0, ⟨#[]⟩, ⟨#[]⟩, [], 0, 0⟩
def aXc : List PV := [int 1, int 0, .v (.int .u64 1), int 0, str ⟨#[]⟩, str ⟨#[]⟩, .sl [] .nil, int 0, int 0]
def aS5 (l : Int) : S := ⟨5, ⟨#[]⟩, Rt0, Pl0, X0, 0, [], [], [], l, 0⟩
def aS6 (l : Int) : S := ⟨6, ⟨#[]⟩, Rt0, Pl0, aX, 0, [], [aS5 l], [], 0, 0⟩
theorem in5 : In (laid (Cz 5) 56 [int 7]) (aS5 7) := (In.zero 5).put 56 _ rfl (by
  have := laidB ([int (S0 5).op, str (S0 5).name] ++ (S0 5).right.enc ++ (S0 5).place.enc ++ (S0 5).e.enc ++ [int (S0 5).n, .sl (encs (S0 5).args) .dead, .sl (sencs (S0 5).body) .dead, .sl (sencs (S0 5).els) .dead]) [int (S0 5).line] [int (S0 5).col] [int 7] rfl
  rw [List.length_append, hd_len] at this
  rw [S.encP, S.encP]
  simp only [List.append_assoc, List.cons_append, List.nil_append] at this ⊢
  exact this)
theorem in5' : In (Cz 5) (aS5 0) := In.zero 5
theorem in6 (l : Int) (c : Cap) : In (laid (laid (Cz 6) 43 aXc) 54 [.sl (sencs [aS5 l]) c]) (aS6 l) := by
  have h := ((In.zero 6).put (y := (S0 6).wE aX) 43 aXc rfl (by
    have : aXc.map canonC = aX.enc := by simp [aXc, canonC, aX, X.enc, encs]
    rw [this]; exact S.l43 _ _)).body [aS5 l] c
  exact h
theorem alive_ev (s : St) (hs : List Blk) : ∃ hs', E L (.func 7) [] ((s.hpp hs).app [] [] []) = some (.v (.bool true), (s.hpp hs').app [] [] []) := by
  let pg : Pg := ⟨[], [], [], [⟨[aS6 7], 0, 0⟩]⟩
  have hbd : pg.bodies = [[aS6 7]] := rfl
  have fl : flats [aS6 7] 0 = [(aS6 7, 0), (aS5 7, 1)] := by simp [flats, S.flat, aS6, aS5]
  obtain ⟨hs', hc⟩ := count_ev pg (by decide) (by decide) (by rw [hbd]; intro b hb; simp at hb; subst hb; decide) (by rw [hbd]; simp [tot, fl]) s hs
  have ht : tot pg.bodies = 2 := by rw [hbd]; simp [tot, fl]
  have hm : mxs pg.bodies (-1) = 1 := by rw [hbd]; simp [mxs, fl, mx]
  rw [ht, hm] at hc
  refine ⟨hs', ?_⟩
  have s1 := fun st => stmts_ev [aS6 7] [aS6 0] (by decide) st
  have s2 := fun st => stmts_ev [aS6 7] [] (by decide) st
  have e1 : ssames [aS6 7] [aS6 0] = true := by decide
  have e2 : ssames [aS6 7] [] = false := rfl
  rw [e1] at s1
  rw [e2] at s2
  have b1 : rBuild [(0, 1), (1, 1), (2, 1), (3, 2), (5, 1), (6, 1), (7, 1), (8, 1)] [.v (.int .i64 0), .v (.int .i64 0), .v (.int .u64 0), .v (.int .i64 0), .v (.string ⟨#[]⟩), .v (.string ⟨#[]⟩), .sl [] .nil, .v (.int .i64 0), .v (.int .i64 0)] [(0, PV.v (.int .i64 1)), (2, PV.v (.int .u64 1))] = some (.agg aXc) := rfl
  have b2 : rBuild [(0, 1), (1, 1), (2, 27), (29, 14), (43, 9), (52, 1), (53, 1), (54, 1), (55, 1), (56, 1), (57, 1)] Zs [(0, PV.v (.int .i64 5)), (9, PV.v (.int .i64 7))] = some (.agg (laid (Cz 5) 56 [int 7])) := rfl
  have b3 : rBuild [(0, 1), (1, 1), (2, 27), (29, 14), (43, 9), (52, 1), (53, 1), (54, 1), (55, 1), (56, 1), (57, 1)] Zs [(0, PV.v (.int .i64 5))] = some (.agg (Cz 5)) := rfl
  have b4 : ∀ l, rBuild [(0, 1), (1, 1), (2, 27), (29, 14), (43, 9), (52, 1), (53, 1), (54, 1), (55, 1), (56, 1), (57, 1)] Zs [(0, PV.v (.int .i64 6)), (4, .agg aXc), (7, .sl (sencs [aS5 l]) .full)] = some (.agg (laid (laid (Cz 6) 43 aXc) 54 [.sl (sencs [aS5 l]) .full])) := fun _ => rfl
  have b5 : rBuild [(0, 1), (1, 1), (2, 1)] [.sl [] .nil, .v (.int .i64 0), .v (.int .i64 0)] [(0, .sl (sencs [aS6 7]) .full)] = some (.agg [.sl (sencs [aS6 7]) .full, int 0, int 0]) := rfl
  have b6 : rBuildSlice 3 [.sl [] .nil, .v (.int .i64 0), .v (.int .i64 0)] 1 [(0, .agg [.sl (sencs [aS6 7]) .full, int 0, int 0])] = some (.sl (pg.threads.map Th.enc) .full) := rfl
  have b7 : rBuild [(0, 1), (1, 1), (2, 1), (3, 1)] [.sl [] .nil, .sl [] .nil, .sl [] .nil, .sl [] .nil] [(3, .sl (pg.threads.map Th.enc) .full)] = some (.agg [.sl [] .nil, .sl [] .nil, .sl [] .nil, .sl (pg.threads.map Th.enc) .full]) := rfl
  have hcan : canon (.agg [.sl [] .nil, .sl [] .nil, .sl [] .nil, .sl (pg.threads.map Th.enc) .full]) = .agg pg.enc := rfl
  have e0 : sencs [] = [] := rfl
  rw [e0] at s2
  rw [show ((2 : Nat) : Int) = 2 from rfl] at hc
  rw [S7_eq]
  simp only [S7, Zc, b1, b2, in5.lit, b4, (in6 7 .full).lit, b3, in5'.lit, (in6 0 .full).lit, b5, b6, b7, hcan, hc, canon_v, canon_sl, canon_clo, canon_ptr, need_refl, elems_sl, sf_v, sf_sl, sf_ptr, sf_ptrh, sf_clo, sf_dead, sf_nil, sf_full, sf_fr, need_true, ibeq, beq_ba, nbeq, nble, nblt, AM.nth, List.getD_cons_succ, List.getD_cons_zero, Option.bind_some, Option.bind_none, Option.map_some, onBool, AM.onG, onFn, seqK, retK, Ex.outOf, cond_true, cond_false, bin_lss, bin_leq, bin_gtr, bin_geq, bin_eql, bin_neq, bin_add, bin_sub, bin_mul, un_not, str_eql, str_neq, app_push, app_stk, app_tk, app_lp, load_app, load_app0, load_fp, store_app, store_app0, leave_app, leave_app0, AM.ownPut, AM.cellsOf, AM.shift, aPick, fin_v, fin_sl, beq_true, okSz, List.length_cons, List.length_nil, Nat.zero_add, Nat.add_zero, Nat.reduceAdd, decide_true, decide_false, Bool.and_true, Bool.true_and, Bool.and_self, Bool.not_true, Bool.not_false, List.getElem?_cons_zero, List.getElem?_cons_succ, List.nil_append, List.cons_append, hpp_app, hpp_stk, hpp_tk, hpp_lp, hpp_hp, app_lpadd, hload, hload0, hloadh, hstore, hstore0, hleave, hleave0, hfin_v, hfin_sl, hback, hloop, hsetlp, max_int, min_int, hstore_v, hstore_v0, hstore_s, hstore_d, modify_concat, part1, hbackt, hbackl, hback0, List.take_succ_cons, List.take_left, List.take_zero, List.take_nil, aExtract, s1, s2]
end Go.Proofs.Ytkbhejcfejembaa.S

/- Trees: what it is to be the same; the statements' parts. No condition. -/
namespace Go.Proofs.Ytkbhejcfejembaa.S
open Go Go.AM Go.Proofs
set_option linter.unusedVariables false
set_option linter.unusedSimpArgs false
set_option maxHeartbeats 4000000

theorem dc {α : Type} [DecidableEq α] (a b : α) : decide (a = b) = decide (b = a) := by
  by_cases h : a = b
  · subst h; rfl
  · have : ¬ b = a := fun e => h e.symm
    simp [h, this]
mutual
theorem X.same_refl : ∀ x : X, x.same x = true
  | ⟨op, bin, n, kd, rc, name, ks, l, c⟩ => by
    have := sames_refl ks
    simp [X.same, X.op, X.bin, X.n, X.kd, X.rc, X.name, X.kids, this, beq_ba]
theorem sames_refl : ∀ xs : List X, sames xs xs = true
  | [] => rfl
  | x :: xs => by simp [sames, X.same_refl x, sames_refl xs]
end
mutual
theorem X.same_symm : ∀ x y : X, x.same y = y.same x
  | ⟨op, bin, n, kd, rc, name, ks, l, c⟩, y => by
    have h : sames (X.mk op bin n kd rc name ks l c).kids y.kids = sames y.kids (X.mk op bin n kd rc name ks l c).kids := sames_symm ks y.kids
    rw [X.same_eq, X.same_eq, h]
    generalize X.mk op bin n kd rc name ks l c = x
    simp only [ibeq, beq_ba]
    rw [dc x.op y.op, dc x.bin y.bin, dc x.n y.n, dc x.kd y.kd, dc x.rc y.rc, dc x.name y.name]
theorem sames_symm : ∀ xs ys : List X, sames xs ys = sames ys xs
  | [], [] => rfl
  | [], y :: ys => by simp [sames]
  | x :: xs, [] => by simp [sames]
  | x :: xs, y :: ys => by simp only [sames, X.same_symm x y, sames_symm xs ys]
end
theorem Pl.same_refl (x : Pl) : x.same x = true := by simp [Pl.same, X.same_refl]
theorem Rt.same_refl (x : Rt) : x.same x = true := by simp [Rt.same, X.same_refl, Pl.same_refl]
theorem Pl.same_symm (x y : Pl) : x.same y = y.same x := by
  simp only [Pl.same, X.same_symm x.index y.index]
  rw [dc x.op y.op, dc x.base y.base, dc x.field y.field]
theorem Rt.same_symm (x y : Rt) : x.same y = y.same x := by
  simp only [Rt.same, X.same_symm x.e y.e, Pl.same_symm x.place y.place]
  rw [dc x.op y.op, dc x.name y.name]
mutual
theorem S.same_refl : ∀ x : S, x.same x = true
  | ⟨op, name, right, place, e, n, args, body, els, l, c⟩ => by
    have h1 := ssames_refl body
    have h2 := ssames_refl els
    simp [S.same, S.op, S.name, S.right, S.place, S.e, S.n, S.args, S.body, S.els, h1, h2, Rt.same_refl, Pl.same_refl, X.same_refl, sames_refl]
theorem ssames_refl : ∀ xs : List S, ssames xs xs = true
  | [] => rfl
  | x :: xs => by simp [ssames, S.same_refl x, ssames_refl xs]
end
mutual
theorem S.same_symm : ∀ x y : S, x.same y = y.same x
  | ⟨op, name, right, place, e, n, args, body, els, l, c⟩, y => by
    have h1 : ssames (S.mk op name right place e n args body els l c).body y.body = ssames y.body (S.mk op name right place e n args body els l c).body := ssames_symm body y.body
    have h2 : ssames (S.mk op name right place e n args body els l c).els y.els = ssames y.els (S.mk op name right place e n args body els l c).els := ssames_symm els y.els
    rw [S.same_eq, S.same_eq, h1, h2]
    generalize S.mk op name right place e n args body els l c = x
    rw [dc x.op y.op, dc x.name y.name, dc x.n y.n, Rt.same_symm x.right, Pl.same_symm x.place, X.same_symm x.e, sames_symm x.args]
theorem ssames_symm : ∀ xs ys : List S, ssames xs ys = ssames ys xs
  | [], [] => rfl
  | [], y :: ys => by simp [ssames]
  | x :: xs, [] => by simp [ssames]
  | x :: xs, y :: ys => by simp only [ssames, S.same_symm x y, ssames_symm xs ys]
end
theorem ssames_app : ∀ {xs ys : List S} {xs' ys' : List S}, xs.length = ys.length → ssames (xs ++ xs') (ys ++ ys') = (ssames xs ys && ssames xs' ys')
  | [], [], _, _, _ => by simp [ssames]
  | x :: xs, y :: ys, _, _, h => by simp only [List.cons_append, ssames, ssames_app (show xs.length = ys.length by simpa using h), Bool.and_assoc]
theorem ssames_true_len {xs ys : List S} (h : ssames xs ys = true) : xs.length = ys.length := by
  cases Nat.decEq xs.length ys.length with
  | isTrue e => exact e
  | isFalse e => rw [ssames_len xs ys e] at h; cases h
theorem rows_law {x y : List S} (h : ssames x y = true) : ssames (x ++ y) (y ++ x) = true := by
  rw [ssames_app (ssames_true_len h), h, ssames_symm y x, h]; rfl

theorem cnts_app : ∀ xs ys : List S, cnts (xs ++ ys) = cnts xs + cnts ys
  | [], ys => by simp [cnts]
  | x :: xs, ys => by simp [cnts, cnts_app xs ys]; omega
theorem bsz_mem {l : List (List S)} {b : List S} (h : b ∈ l) : sszs b ≤ bsz l ∧ cnts b ≤ csz l := by
  induction l with
  | nil => cases h
  | cons c l ih =>
    simp only [bsz, csz, List.map_cons, List.sum_cons] at ih ⊢
    rcases List.mem_cons.1 h with rfl | h
    · omega
    · have := ih h; omega
/-- The watcher, at any state. -/
theorem gone_st (xs : List S) (hz : sszs xs ≤ 100000) (most : Int) (st : St) :
    E L (.func 9) [.sl (sencs xs) .dead, int most] st = some (.tup [int (min (cnts xs) most.toNat : Nat), .v (.bool true)], st.hpp [⟨[.sl (sencs xs) .dead], []⟩]) := by
  have := gone_ev xs hz most st []
  rw [flats_cnt] at this
  simpa [hpp_nil, app_nil] using this
theorem alive_st (st : St) : ∃ hs', E L (.func 7) [] st = some (.v (.bool true), st.hpp hs') := by
  obtain ⟨hs', h⟩ := alive_ev st []
  exact ⟨hs', by simpa [hpp_nil, app_nil] using h⟩
end Go.Proofs.Ytkbhejcfejembaa.S

/- Trees: the statement TreeRows, as the machine reckons it, case by case. No condition. -/
namespace Go.Proofs.Ytkbhejcfejembaa.S
open Go Go.AM Go.Proofs
set_option linter.unusedVariables false
set_option linter.unusedSimpArgs false
set_option maxHeartbeats 8000000

theorem bind_step {α β : Type} (a : α) (f : α → Option β) : (some a).bind f = f a := by
  cases h : f a with
  | none => exact h
  | some b => exact h
theorem bind_stop {α β : Type} {x y : Option α} (f : α → Option β) (h : x = y) : x.bind f = y.bind f := by rw [h]
theorem lit58_0 : rBuildSlice 58 Zs 0 [] = some (.sl (sencs []) .full) := rfl
section
variable {a b : List Int} {s : St} {hs : List Blk} (ha : E L (.func 7) [] s = some (.v (.bool true), (s.hpp hs).app [] [] []))
include ha
theorem tr1 (hla : (a.length : Int) > 400) : E L (.func 3) [.sl (ints a) .dead, .sl (ints b) .dead] s = some (.v (.bool true), (s.hpp hs).app [] [] []) := by
  rw [S3_eq]
  simp [S3, ha, canon_v, canon_sl, canon_clo, canon_ptr, need_refl, elems_sl, sf_v, sf_sl, sf_ptr, sf_ptrh, sf_clo, sf_dead, sf_nil, sf_full, sf_fr, need_true, ibeq, beq_ba, nbeq, nble, nblt, AM.nth, List.getD_cons_succ, List.getD_cons_zero, Option.bind_some, Option.bind_none, Option.map_some, onBool, AM.onG, onFn, seqK, retK, Ex.outOf, cond_true, cond_false, bin_lss, bin_leq, bin_gtr, bin_geq, bin_eql, bin_neq, bin_add, bin_sub, bin_mul, un_not, str_eql, str_neq, app_push, app_stk, app_tk, app_lp, load_app, load_app0, load_fp, store_app, store_app0, leave_app, leave_app0, AM.ownPut, AM.cellsOf, AM.shift, aPick, fin_v, fin_sl, beq_true, okSz, List.length_cons, List.length_nil, Nat.zero_add, Nat.add_zero, Nat.reduceAdd, decide_true, decide_false, Bool.and_true, Bool.true_and, Bool.and_self, Bool.not_true, Bool.not_false, List.getElem?_cons_zero, List.getElem?_cons_succ, List.nil_append, List.cons_append, hpp_app, hpp_stk, hpp_tk, hpp_lp, hpp_hp, app_lpadd, hload, hload0, hloadh, hstore, hstore0, hleave, hleave0, hfin_v, hfin_sl, hback, hloop, hsetlp, max_int, min_int, hstore_v, hstore_v0, hstore_s, hstore_d, modify_concat, part1, hbackt, hbackl, hback0, List.take_succ_cons, List.take_left, List.take_zero, List.take_nil, len_22, ints_len, hla]
theorem tr2 (hla : ¬ (a.length : Int) > 400) (hlb : (b.length : Int) > 400) : E L (.func 3) [.sl (ints a) .dead, .sl (ints b) .dead] s = some (.v (.bool true), (s.hpp hs).app [] [] []) := by
  rw [S3_eq]
  simp [S3, ha, canon_v, canon_sl, canon_clo, canon_ptr, need_refl, elems_sl, sf_v, sf_sl, sf_ptr, sf_ptrh, sf_clo, sf_dead, sf_nil, sf_full, sf_fr, need_true, ibeq, beq_ba, nbeq, nble, nblt, AM.nth, List.getD_cons_succ, List.getD_cons_zero, Option.bind_some, Option.bind_none, Option.map_some, onBool, AM.onG, onFn, seqK, retK, Ex.outOf, cond_true, cond_false, bin_lss, bin_leq, bin_gtr, bin_geq, bin_eql, bin_neq, bin_add, bin_sub, bin_mul, un_not, str_eql, str_neq, app_push, app_stk, app_tk, app_lp, load_app, load_app0, load_fp, store_app, store_app0, leave_app, leave_app0, AM.ownPut, AM.cellsOf, AM.shift, aPick, fin_v, fin_sl, beq_true, okSz, List.length_cons, List.length_nil, Nat.zero_add, Nat.add_zero, Nat.reduceAdd, decide_true, decide_false, Bool.and_true, Bool.true_and, Bool.and_self, Bool.not_true, Bool.not_false, List.getElem?_cons_zero, List.getElem?_cons_succ, List.nil_append, List.cons_append, hpp_app, hpp_stk, hpp_tk, hpp_lp, hpp_hp, app_lpadd, hload, hload0, hloadh, hstore, hstore0, hleave, hleave0, hfin_v, hfin_sl, hback, hloop, hsetlp, max_int, min_int, hstore_v, hstore_v0, hstore_s, hstore_d, modify_concat, part1, hbackt, hbackl, hback0, List.take_succ_cons, List.take_left, List.take_zero, List.take_nil, len_22, ints_len, hla, hlb]
variable {P Q : List PV} (hla : ¬ (a.length : Int) > 400) (hlb : ¬ (b.length : Int) > 400) (hp : ∀ st, E L (.func 8) [.sl (ints a) .dead] st = some (.agg P, st)) (hq : ∀ st, E L (.func 8) [.sl (ints b) .dead] st = some (.agg Q, st))
  (pok : okCells P = true) (qok : okCells Q = true) (pl : P.length = 4) (ql : Q.length = 4)
include hla hlb hp hq pok qok pl ql
theorem tr3 (p3 : AM.part false 1 3 P = some (.sl [] .dead)) : E L (.func 3) [.sl (ints a) .dead, .sl (ints b) .dead] s = some (.v (.bool true), (s.hpp hs).app [] [] []) := by
  rw [S3_eq]
  simp [S3, ha, canon_v, canon_sl, canon_clo, canon_ptr, need_refl, elems_sl, sf_v, sf_sl, sf_ptr, sf_ptrh, sf_clo, sf_dead, sf_nil, sf_full, sf_fr, need_true, ibeq, beq_ba, nbeq, nble, nblt, AM.nth, List.getD_cons_succ, List.getD_cons_zero, Option.bind_some, Option.bind_none, Option.map_some, onBool, AM.onG, onFn, seqK, retK, Ex.outOf, cond_true, cond_false, bin_lss, bin_leq, bin_gtr, bin_geq, bin_eql, bin_neq, bin_add, bin_sub, bin_mul, un_not, str_eql, str_neq, app_push, app_stk, app_tk, app_lp, load_app, load_app0, load_fp, store_app, store_app0, leave_app, leave_app0, AM.ownPut, AM.cellsOf, AM.shift, aPick, fin_v, fin_sl, beq_true, okSz, List.length_cons, List.length_nil, Nat.zero_add, Nat.add_zero, Nat.reduceAdd, decide_true, decide_false, Bool.and_true, Bool.true_and, Bool.and_self, Bool.not_true, Bool.not_false, List.getElem?_cons_zero, List.getElem?_cons_succ, List.nil_append, List.cons_append, hpp_app, hpp_stk, hpp_tk, hpp_lp, hpp_hp, app_lpadd, hload, hload0, hloadh, hstore, hstore0, hleave, hleave0, hfin_v, hfin_sl, hback, hloop, hsetlp, max_int, min_int, hstore_v, hstore_v0, hstore_s, hstore_d, modify_concat, part1, hbackt, hbackl, hback0, List.take_succ_cons, List.take_left, List.take_zero, List.take_nil, len_22, ints_len, hla, hlb, hp, hq, pl, pok, laid0, ql, qok, p3, len_27]
theorem tr4 {t : List PV} {ts : List (List PV)} (p3 : AM.part false 1 3 P = some (.sl (t :: ts) .dead)) (q3 : AM.part false 1 3 Q = some (.sl [] .dead)) : E L (.func 3) [.sl (ints a) .dead, .sl (ints b) .dead] s = some (.v (.bool true), (s.hpp hs).app [] [] []) := by
  have n0 : ∀ n : Nat, ((n : Int) + 1 = 0) = False := fun n => by simp; omega
  rw [S3_eq]
  simp [S3, ha, canon_v, canon_sl, canon_clo, canon_ptr, need_refl, elems_sl, sf_v, sf_sl, sf_ptr, sf_ptrh, sf_clo, sf_dead, sf_nil, sf_full, sf_fr, need_true, ibeq, beq_ba, nbeq, nble, nblt, AM.nth, List.getD_cons_succ, List.getD_cons_zero, Option.bind_some, Option.bind_none, Option.map_some, onBool, AM.onG, onFn, seqK, retK, Ex.outOf, cond_true, cond_false, bin_lss, bin_leq, bin_gtr, bin_geq, bin_eql, bin_neq, bin_add, bin_sub, bin_mul, un_not, str_eql, str_neq, app_push, app_stk, app_tk, app_lp, load_app, load_app0, load_fp, store_app, store_app0, leave_app, leave_app0, AM.ownPut, AM.cellsOf, AM.shift, aPick, fin_v, fin_sl, beq_true, okSz, List.length_cons, List.length_nil, Nat.zero_add, Nat.add_zero, Nat.reduceAdd, decide_true, decide_false, Bool.and_true, Bool.true_and, Bool.and_self, Bool.not_true, Bool.not_false, List.getElem?_cons_zero, List.getElem?_cons_succ, List.nil_append, List.cons_append, hpp_app, hpp_stk, hpp_tk, hpp_lp, hpp_hp, app_lpadd, hload, hload0, hloadh, hstore, hstore0, hleave, hleave0, hfin_v, hfin_sl, hback, hloop, hsetlp, max_int, min_int, hstore_v, hstore_v0, hstore_s, hstore_d, modify_concat, part1, hbackt, hbackl, hback0, List.take_succ_cons, List.take_left, List.take_zero, List.take_nil, len_22, ints_len, hla, hlb, hp, hq, pl, pok, laid0, ql, qok, p3, q3, len_27, n0]
end
end Go.Proofs.Ytkbhejcfejembaa.S

/- Trees: a program's text tells the program, but for places. No condition. -/
namespace Go.Proofs.Ytkbhejcfejembaa.S
open Go Go.AM Go.Proofs
set_option linter.all false

theorem fm_inj {α : Type} {f : α → List ByteArray} {same : α → α → Bool} {ok : α → Prop} (h : ∀ x y r r', ok x → ok y → f x ++ r = f y ++ r' → same x y = true ∧ r = r') :
    ∀ (xs ys : List α) (r r' : List ByteArray), xs.length = ys.length → (∀ x ∈ xs, ok x) → (∀ y ∈ ys, ok y) → xs.flatMap f ++ r = ys.flatMap f ++ r' → eqf same xs ys = true ∧ r = r'
  | [], [], r, r', _, _, _, e => ⟨rfl, by simpa using e⟩
  | x :: xs, y :: ys, r, r', hl, hx, hy, e => by
    simp only [List.flatMap_cons, List.append_assoc] at e
    obtain ⟨k1, k2⟩ := h x y _ _ (hx x List.mem_cons_self) (hy y List.mem_cons_self) e
    obtain ⟨k3, k4⟩ := fm_inj h xs ys r r' (by simpa using hl) (fun z hz => hx z (List.mem_cons_of_mem _ hz)) (fun z hz => hy z (List.mem_cons_of_mem _ hz)) k2
    exact ⟨by simp [eqf, k1, k3], k4⟩
theorem fm_of {α : Type} {f : α → List ByteArray} {same : α → α → Bool} (h : ∀ x y, same x y = true → f x = f y) : ∀ (xs ys : List α), eqf same xs ys = true → xs.length = ys.length ∧ xs.flatMap f = ys.flatMap f
  | [], [], _ => ⟨rfl, rfl⟩
  | [], y :: ys, e => by simp [eqf] at e
  | x :: xs, [], e => by simp [eqf] at e
  | x :: xs, y :: ys, e => by
    simp only [eqf, Bool.and_eq_true] at e
    obtain ⟨k1, k2⟩ := fm_of h xs ys e.2
    exact ⟨by simp [k1], by simp only [List.flatMap_cons, h x y e.1, k2]⟩
theorem nmT_inj (x y : Nm) (r r' : List ByteArray) (hx : I64 x.kd) (hy : I64 y.kd) (h : nmT x ++ r = nmT y ++ r') : x.same y = true ∧ r = r' := by
  simp only [nmT, List.cons_append, List.nil_append, List.cons.injEq] at h
  obtain ⟨h1, h2, h3, h4⟩ := h
  exact ⟨by simp only [Nm.same, h1, num_i hx hy h2, h3, beq_self_eq_true, decide_true, Bool.and_self, beq_ba], h4⟩
theorem nmT_of (x y : Nm) (h : x.same y = true) : nmT x = nmT y := by
  simp only [Nm.same, Bool.and_eq_true, beq_iff_eq, decide_eq_true_eq, beq_ba, and_true] at h
  simp only [nmT, h.1, h.2.1, h.2.2]
theorem len_num {a b : Nat} (ha : a ≤ 1000000) (hb : b ≤ 1000000) (h : numT a = numT b) : a = b := by
  have := num_i (a := a) (b := b) (by unfold I64; omega) (by unfold I64; omega) h
  omega
theorem namedT_inj (x y : List Nm) (r r' : List ByteArray) (hx : nrngs x) (hy : nrngs y) (h : namedT x ++ r = namedT y ++ r') : eqf Nm.same x y = true ∧ r = r' := by
  simp only [namedT, List.cons_append, List.cons.injEq] at h
  exact fm_inj (ok := fun x => I64 x.kd) nmT_inj x y r r' (len_num hx.1 hy.1 h.1) hx.2 hy.2 h.2
theorem namedT_of (x y : List Nm) (h : eqf Nm.same x y = true) : namedT x = namedT y := by
  obtain ⟨k1, k2⟩ := fm_of nmT_of x y h
  simp only [namedT, k1, k2]
theorem rowT_inj (x y : List S) (r r' : List ByteArray) (hx : x.length ≤ 1000000 ∧ srngs x) (hy : y.length ≤ 1000000 ∧ srngs y) (h : rowT x ++ r = rowT y ++ r') : ssames x y = true ∧ r = r' := by
  simp only [rowT, List.cons_append, List.nil_append, List.cons.injEq, true_and] at h
  exact stxs_inj x y r r' (len_num hx.1 hy.1 h.1) hx.2 hy.2 h.2
theorem rowT_of (x y : List S) (h : ssames x y = true) : rowT x = rowT y := by
  obtain ⟨k1, k2⟩ := stxs_of x y h
  simp only [rowT, k1, k2]
theorem row_iff (x y : List S) (hx : x.length ≤ 1000000 ∧ srngs x) (hy : y.length ≤ 1000000 ∧ srngs y) : decide (rowT x = rowT y) = ssames x y := by
  cases h : ssames x y with
  | true => exact decide_eq_true (rowT_of x y h)
  | false =>
    refine decide_eq_false fun e => ?_
    have := (rowT_inj x y [] [] hx hy (by rw [e])).1
    rw [h] at this; cases this
theorem x_iff (x y : X) (hx : x.rng) (hy : y.rng) : decide (x.text = y.text) = x.same y := by
  cases h : x.same y with
  | true => exact decide_eq_true (X.text_of x y h)
  | false =>
    refine decide_eq_false fun e => ?_
    have := (X.text_inj x y [] [] hx hy (by rw [e])).1
    rw [h] at this; cases this
theorem pg_iff (p q : Pg) (hp : p.rng) (hq : q.rng) (sp : p.small) (sq : q.small) : decide (p.tx = q.tx) = p.same q := by
  have lp : p.recs.length ≤ 1000000 := by have := sp.rl; omega
  have lq : q.recs.length ≤ 1000000 := by have := sq.rl; omega
  have fp : p.funs.length ≤ 1000000 := by have := sp.fl; omega
  have fq : q.funs.length ≤ 1000000 := by have := sq.fl; omega
  have tp : p.threads.length ≤ 1000000 := by have := sp.tl; omega
  have tq : q.threads.length ≤ 1000000 := by have := sq.tl; omega
  cases h : p.same q with
  | true =>
    refine decide_eq_true ?_
    simp only [Pg.same, Bool.and_eq_true] at h
    obtain ⟨h1, h2, h3, h4⟩ := h
    obtain ⟨a1, b1⟩ := fm_of (f := Rc.tx) (fun x y h => by
      simp only [Rc.same, Bool.and_eq_true, decide_eq_true_eq] at h
      simp only [Rc.tx, h.1, namedT_of _ _ h.2]) _ _ h1
    obtain ⟨a3, b3⟩ := fm_of (f := Fu.tx) (fun x y h => by
      simp only [Fu.same, Bool.and_eq_true, decide_eq_true_eq] at h
      simp only [Fu.tx, h.1, namedT_of _ _ h.2.1, rowT_of _ _ h.2.2]) _ _ h3
    obtain ⟨a4, b4⟩ := fm_of (f := Th.tx) (fun x y h => rowT_of _ _ h) _ _ h4
    simp only [Pg.tx, Pg.hd, a1, b1, a3, b3, a4, b4, namedT_of _ _ h2]
  | false =>
    refine decide_eq_false fun e => ?_
    have : p.same q = true := by
      have e : p.tx ++ [] = q.tx ++ [] := by rw [e]
      simp only [Pg.tx, Pg.hd, List.append_assoc, List.cons_append, List.nil_append, List.cons.injEq] at e
      obtain ⟨e1, e2, e3, e⟩ := e
      obtain ⟨k1, e⟩ := fm_inj (f := Rc.tx) (same := Rc.same) (ok := Rc.rng) (fun x y r r' hx hy h => by
        simp only [Rc.tx, List.cons_append, List.cons.injEq] at h
        obtain ⟨j1, j2⟩ := namedT_inj _ _ _ _ hx hy h.2
        exact ⟨by simp only [Rc.same, h.1, j1, decide_true, Bool.and_self], j2⟩) _ _ _ _ (len_num lp lq e1) hp.1 hq.1 e
      obtain ⟨k2, e⟩ := namedT_inj _ _ _ _ hp.2.1 hq.2.1 e
      obtain ⟨k3, e⟩ := fm_inj (f := Fu.tx) (same := Fu.same) (ok := Fu.rng) (fun x y r r' hx hy h => by
        simp only [Fu.tx, List.cons_append, List.append_assoc, List.cons.injEq] at h
        obtain ⟨j1, j2⟩ := namedT_inj _ _ _ _ hx.1 hy.1 h.2
        obtain ⟨j3, j4⟩ := rowT_inj _ _ _ _ hx.2 hy.2 j2
        exact ⟨by simp only [Fu.same, h.1, j1, j3, decide_true, Bool.and_self], j4⟩) _ _ _ _ (len_num fp fq e2) hp.2.2.1 hq.2.2.1 e
      obtain ⟨k4, e⟩ := fm_inj (f := Th.tx) (same := Th.same) (ok := Th.rng) (fun x y r r' hx hy h => rowT_inj _ _ _ _ hx hy h) _ _ _ _ (len_num tp tq e3) hp.2.2.2 hq.2.2.2 e
      simp only [Pg.same, k1, k2, k3, k4, Bool.and_self]
    rw [h] at this; cases this
theorem Nm.same_refl (x : Nm) : x.same x = true := by simp [Nm.same, beq_ba]
theorem Pg.same_refl (p : Pg) : p.same p = true := by
  have h : ∀ l : List Nm, eqf Nm.same l l = true := fun l => eqf_refl _ _ fun x _ => x.same_refl
  simp only [Pg.same, Bool.and_eq_true]
  exact ⟨eqf_refl _ _ fun x _ => by simp [Rc.same, h], h _, eqf_refl _ _ fun x _ => by simp [Fu.same, h, ssames_refl], eqf_refl _ _ fun x _ => ssames_refl _⟩
end Go.Proofs.Ytkbhejcfejembaa.S

/- Trees: the statement TreeSame, as the machine reckons it. No condition. -/
namespace Go.Proofs.Ytkbhejcfejembaa.S
open Go Go.AM Go.Proofs
set_option linter.unusedVariables false
set_option linter.unusedSimpArgs false
set_option maxHeartbeats 8000000
set_option maxRecDepth 100000

theorem sl1 (xs : List S) (x : S) : aSlice Try.prog 31 (.sl (sencs (x :: xs)) .dead) none (some (int 1)) none = some (.sl (sencs [x]) (sliceCap .dead 1 (sencs (x :: xs)).length false)) := by
  have h0 : sencs (x :: xs) = x.enc :: sencs xs := rfl
  have h1 : (1 : Int) ≤ (((sencs (x :: xs)).length : Nat) : Int) := by rw [sencs_length]; simp only [List.length_cons]; omega
  have h2 : bnd (some (int 1)) (sencs (x :: xs)).length (sencs (x :: xs)).length = some 1 := by simp only [bnd, h1]; rfl
  rw [slc_31, h2]
  simp only [Option.bind_some, bnd, sencs_ok, Bool.not_true, cond_false]
  rfl
theorem rng_head {x : S} {xs : List S} (h : (x :: xs).length ≤ 1000000 ∧ srngs (x :: xs)) : x.e.rng := by
  have := h.2.1
  rw [S.rng_eq] at this
  exact this.2.2.2.2.2.2.1

theorem inner_loop (s : St) (hs : List Blk) (p q : Pg) (t : Th) (ht : sszs t.body ≤ 100000) (htr : Th.rng t) (i : Nat) (P0 : List (List PV)) (np : Int) (hq : ∀ u ∈ q.threads, sszs u.body ≤ 100000) (hqr : ∀ u ∈ q.threads, Th.rng u) (hl : q.threads.length ≤ 1000) :
    ∃ a : Unit, True ∧ itE (S4.b1 (E L) itE s.stk.length s.lp.length) [.v (.bool false), .ptr false (s.stk.length + 1) 0, int i, .ptr false (s.stk.length + 2) 0, .sl P0 .dead, int np, int i, .sl (q.threads.map Th.enc) .dead, int q.threads.length, int (0 : Nat)] ((s.hpp hs).app [⟨p.enc, []⟩, ⟨q.enc, []⟩, ⟨t.enc, []⟩] [] []) =
      some (.exit 2, [.v (.bool false), .ptr false (s.stk.length + 1) 0, int i, .ptr false (s.stk.length + 2) 0, .sl P0 .dead, int np, int i, .sl (q.threads.map Th.enc) .dead, int q.threads.length, int q.threads.length], (s.hpp hs).app [⟨p.enc, []⟩, ⟨q.enc, []⟩, ⟨t.enc, []⟩] [] []) := by
  have hpb : ∀ (p : Pg) m, p.enc.all (sf true m 4) = true := fun _ _ => rfl
  have htb : ∀ (t : Th) m, t.enc.all (sf true m 4) = true := fun _ _ => rfl
  refine it_all (b := S4.b1 (E L) itE s.stk.length s.lp.length) (n := q.threads.length) (e := 2) (P := fun _ _ => True)
    (vs := fun k _ => [.v (.bool false), .ptr false (s.stk.length + 1) 0, int i, .ptr false (s.stk.length + 2) 0, .sl P0 .dead, int np, int i, .sl (q.threads.map Th.enc) .dead, int q.threads.length, int k]) (st := fun _ _ => (s.hpp hs).app [⟨p.enc, []⟩, ⟨q.enc, []⟩, ⟨t.enc, []⟩] [] [])
    (fun k a hk _ => ⟨(), trivial, ?_⟩) (fun a _ => ?_) () trivial
  · have hlt : (k : Int) < (q.threads.length : Int) := by omega
    have g1 : (q.threads.map Th.enc)[k]? = some (q.threads[k]).enc := by simp [hk]
    have w1 : IntKind.i64.wrap ((k : Int) + 1) = ((k + 1 : Nat) : Int) := IntWalk.i64_in _ (by omega)
    have hu := hq _ (List.getElem_mem hk)
    have hur := hqr _ (List.getElem_mem hk)
    generalize q.threads[k] = u at *
    have rr := inRn hk
    have el : ∀ x : Th, x.enc.length = 3 := fun _ => rfl
    have ew : ∀ x : Th, AM.part true 3 0 x.enc = some (.agg x.enc) := fun _ => rfl
    have eo : ∀ x : Th, okCells x.enc = true := fun _ => rfl
    have p0 : ∀ x : Th, AM.part false 1 0 x.enc = some (.sl (sencs x.body) .dead) := fun _ => rfl
    have c1 := stmts_ev t.body u.body (by omega)
    have c2 := row_ev _ t.body (Nat.le_refl _) (by omega)
    have c3 := row_ev _ u.body (Nat.le_refl _) (by omega)
    have hr1 := rowT_len t.body
    have hr2 := stxs_len t.body
    have c4 := ssm_ev (rowT t.body) (rowT u.body) (by omega)
    rw [row_iff _ _ htr hur] at c4
    cases hb : t.body with
    | nil =>
      rw [hb] at c1 c2 c4
      have lz : (sencs []).length = 0 := rfl
      by_cases hik : (i : Int) = (k : Int)
      · simp [S4.b1, canon_v, canon_sl, canon_clo, canon_ptr, need_refl, elems_sl, sf_v, sf_sl, sf_ptr, sf_ptrh, sf_clo, sf_dead, sf_nil, sf_full, sf_fr, need_true, ibeq, beq_ba, nbeq, nble, nblt, AM.nth, List.getD_cons_succ, List.getD_cons_zero, bind_step, Option.bind_none, Option.map_some, onBool, AM.onG, onFn, seqK, retK, Ex.outOf, cond_true, cond_false, bin_lss, bin_leq, bin_gtr, bin_geq, bin_eql, bin_neq, bin_add, bin_sub, bin_mul, un_not, str_eql, str_neq, app_push, app_stk, app_tk, app_lp, load_app, load_app0, load_fp, store_app, store_app0, leave_app, leave_app0, AM.ownPut, AM.cellsOf, AM.shift, aPick, fin_v, fin_sl, beq_true, okSz, List.length_cons, List.length_nil, Nat.zero_add, Nat.add_zero, Nat.reduceAdd, decide_true, decide_false, Bool.and_true, Bool.true_and, Bool.and_self, Bool.not_true, Bool.not_false, List.getElem?_cons_zero, List.getElem?_cons_succ, List.nil_append, List.cons_append, hpp_app, hpp_stk, hpp_tk, hpp_lp, hpp_hp, app_lpadd, hload, hload0, hloadh, hstore, hstore0, hleave, hleave0, hfin_v, hfin_sl, hback, hloop, hsetlp, max_int, min_int, hstore_v, hstore_v0, hstore_s, hstore_d, modify_concat, part1, hbackt, hbackl, hback0, List.take_succ_cons, List.take_left, List.take_zero, List.take_nil, -Option.bind_some, bne_4, hlt, ia_27, rr, g1, el, ew, eo, laid0, p0, hb, c1, c2, c3, c4, len_31, lz, w1, hpb, htb, hik]
      · simp [S4.b1, canon_v, canon_sl, canon_clo, canon_ptr, need_refl, elems_sl, sf_v, sf_sl, sf_ptr, sf_ptrh, sf_clo, sf_dead, sf_nil, sf_full, sf_fr, need_true, ibeq, beq_ba, nbeq, nble, nblt, AM.nth, List.getD_cons_succ, List.getD_cons_zero, bind_step, Option.bind_none, Option.map_some, onBool, AM.onG, onFn, seqK, retK, Ex.outOf, cond_true, cond_false, bin_lss, bin_leq, bin_gtr, bin_geq, bin_eql, bin_neq, bin_add, bin_sub, bin_mul, un_not, str_eql, str_neq, app_push, app_stk, app_tk, app_lp, load_app, load_app0, load_fp, store_app, store_app0, leave_app, leave_app0, AM.ownPut, AM.cellsOf, AM.shift, aPick, fin_v, fin_sl, beq_true, okSz, List.length_cons, List.length_nil, Nat.zero_add, Nat.add_zero, Nat.reduceAdd, decide_true, decide_false, Bool.and_true, Bool.true_and, Bool.and_self, Bool.not_true, Bool.not_false, List.getElem?_cons_zero, List.getElem?_cons_succ, List.nil_append, List.cons_append, hpp_app, hpp_stk, hpp_tk, hpp_lp, hpp_hp, app_lpadd, hload, hload0, hloadh, hstore, hstore0, hleave, hleave0, hfin_v, hfin_sl, hback, hloop, hsetlp, max_int, min_int, hstore_v, hstore_v0, hstore_s, hstore_d, modify_concat, part1, hbackt, hbackl, hback0, List.take_succ_cons, List.take_left, List.take_zero, List.take_nil, -Option.bind_some, bne_4, hlt, ia_27, rr, g1, el, ew, eo, laid0, p0, hb, c1, c2, c3, c4, len_31, lz, w1, hpb, htb, hik]
    | cons x xs =>
    cases hd : u.body with
    | nil =>
      rw [hb, hd] at c1 c4
      rw [hb] at c2
      rw [hd] at c3
      have lz : (sencs []).length = 0 := rfl
      have lx : 0 < (sencs (x :: xs)).length := by rw [sencs_length]; simp only [List.length_cons]; omega
      generalize hxx : sencs (x :: xs) = XS at *
      by_cases hik : (i : Int) = (k : Int)
      · simp [S4.b1, canon_v, canon_sl, canon_clo, canon_ptr, need_refl, elems_sl, sf_v, sf_sl, sf_ptr, sf_ptrh, sf_clo, sf_dead, sf_nil, sf_full, sf_fr, need_true, ibeq, beq_ba, nbeq, nble, nblt, AM.nth, List.getD_cons_succ, List.getD_cons_zero, bind_step, Option.bind_none, Option.map_some, onBool, AM.onG, onFn, seqK, retK, Ex.outOf, cond_true, cond_false, bin_lss, bin_leq, bin_gtr, bin_geq, bin_eql, bin_neq, bin_add, bin_sub, bin_mul, un_not, str_eql, str_neq, app_push, app_stk, app_tk, app_lp, load_app, load_app0, load_fp, store_app, store_app0, leave_app, leave_app0, AM.ownPut, AM.cellsOf, AM.shift, aPick, fin_v, fin_sl, beq_true, okSz, List.length_cons, List.length_nil, Nat.zero_add, Nat.add_zero, Nat.reduceAdd, decide_true, decide_false, Bool.and_true, Bool.true_and, Bool.and_self, Bool.not_true, Bool.not_false, List.getElem?_cons_zero, List.getElem?_cons_succ, List.nil_append, List.cons_append, hpp_app, hpp_stk, hpp_tk, hpp_lp, hpp_hp, app_lpadd, hload, hload0, hloadh, hstore, hstore0, hleave, hleave0, hfin_v, hfin_sl, hback, hloop, hsetlp, max_int, min_int, hstore_v, hstore_v0, hstore_s, hstore_d, modify_concat, part1, hbackt, hbackl, hback0, List.take_succ_cons, List.take_left, List.take_zero, List.take_nil, -Option.bind_some, bne_4, hlt, ia_27, rr, g1, el, ew, eo, laid0, p0, hb, hd, hxx, c1, c2, c3, c4, len_31, lz, lx, w1, hpb, htb, hik]
      · simp [S4.b1, canon_v, canon_sl, canon_clo, canon_ptr, need_refl, elems_sl, sf_v, sf_sl, sf_ptr, sf_ptrh, sf_clo, sf_dead, sf_nil, sf_full, sf_fr, need_true, ibeq, beq_ba, nbeq, nble, nblt, AM.nth, List.getD_cons_succ, List.getD_cons_zero, bind_step, Option.bind_none, Option.map_some, onBool, AM.onG, onFn, seqK, retK, Ex.outOf, cond_true, cond_false, bin_lss, bin_leq, bin_gtr, bin_geq, bin_eql, bin_neq, bin_add, bin_sub, bin_mul, un_not, str_eql, str_neq, app_push, app_stk, app_tk, app_lp, load_app, load_app0, load_fp, store_app, store_app0, leave_app, leave_app0, AM.ownPut, AM.cellsOf, AM.shift, aPick, fin_v, fin_sl, beq_true, okSz, List.length_cons, List.length_nil, Nat.zero_add, Nat.add_zero, Nat.reduceAdd, decide_true, decide_false, Bool.and_true, Bool.true_and, Bool.and_self, Bool.not_true, Bool.not_false, List.getElem?_cons_zero, List.getElem?_cons_succ, List.nil_append, List.cons_append, hpp_app, hpp_stk, hpp_tk, hpp_lp, hpp_hp, app_lpadd, hload, hload0, hloadh, hstore, hstore0, hleave, hleave0, hfin_v, hfin_sl, hback, hloop, hsetlp, max_int, min_int, hstore_v, hstore_v0, hstore_s, hstore_d, modify_concat, part1, hbackt, hbackl, hback0, List.take_succ_cons, List.take_left, List.take_zero, List.take_nil, -Option.bind_some, bne_4, hlt, ia_27, rr, g1, el, ew, eo, laid0, p0, hb, hd, hxx, c1, c2, c3, c4, len_31, lz, lx, w1, hpb, htb, hik]
    | cons y ys =>
      have hzx : x.sz ≤ 100000 := by have := ht; rw [hb] at this; simp only [sszs] at this; omega
      have hzy : y.sz ≤ 100000 := by have := hu; rw [hd] at this; simp only [sszs] at this; omega
      have hex := S.sz_eq x
      have hey := S.sz_eq y
      have d1 := same_ev x.e.sz x.e (Nat.le_refl _) (by omega) y.e
      have d2 := expr_ev x.e.sz x.e (Nat.le_refl _) (by omega)
      have d3 := expr_ev y.e.sz y.e (Nat.le_refl _) (by omega)
      have hxl := X.text_len x.e
      have d4 := ssm_ev x.e.text y.e.text (by omega)
      rw [x_iff _ _ (by unfold Th.rng at htr; rw [hb] at htr; exact rng_head htr) (by unfold Th.rng at hur; rw [hd] at hur; exact rng_head hur)] at d4
      have d5 := ssame_ev x.sz x (Nat.le_refl _) (by omega) y
      have d6 := stmts_ev [x] [y] (by simp [sszs]; omega)
      rw [show ssames [x] [y] = x.same y by simp [ssames]] at d6
      have f1 := sl1 xs x
      have f2 := sl1 ys y
      rw [hb, hd] at c1 c4
      rw [hb] at c2
      rw [hd] at c3
      have lx : 0 < (sencs (x :: xs)).length := by rw [sencs_length]; simp only [List.length_cons]; omega
      have ly : 0 < (sencs (y :: ys)).length := by rw [sencs_length]; simp only [List.length_cons]; omega
      have ix : inRange 0 (sencs (x :: xs)).length = true := by simp [inRange]; omega
      have iy : inRange 0 (sencs (y :: ys)).length = true := by simp [inRange]; omega
      have gx : (sencs (x :: xs))[0]? = some x.enc := by simp [sencs]
      have gy : (sencs (y :: ys))[0]? = some y.enc := by simp [sencs]
      have ax : ∀ (x : S) (xs : List S), aIndexAddr Try.prog 31 (.sl (sencs (x :: xs)) .dead) (.v (.int .i64 0)) = some (.fp x.enc 0) := fun x xs => by
        have gx : (sencs (x :: xs))[(0 : Int).toNat]? = some x.enc := rfl
        have ix : inRange 0 (sencs (x :: xs)).length = true := by rw [sencs_length]; simp [inRange]
        rw [ia_31, ix, gx]; simp only [cond_true, Option.bind_some, S.len]; rfl
      have ax1 := ax x xs
      have ay1 := ax y ys
      clear ax ix iy gx gy
      generalize hxx : sencs (x :: xs) = XS at *
      generalize hyy : sencs (y :: ys) = YS at *
      generalize sencs [x] = X1 at *
      generalize sencs [y] = Y1 at *
      by_cases hik : (i : Int) = (k : Int)
      · simp [S4.b1, canon_v, canon_sl, canon_clo, canon_ptr, need_refl, elems_sl, sf_v, sf_sl, sf_ptr, sf_ptrh, sf_clo, sf_dead, sf_nil, sf_full, sf_fr, need_true, ibeq, beq_ba, nbeq, nble, nblt, AM.nth, List.getD_cons_succ, List.getD_cons_zero, bind_step, Option.bind_none, Option.map_some, onBool, AM.onG, onFn, seqK, retK, Ex.outOf, cond_true, cond_false, bin_lss, bin_leq, bin_gtr, bin_geq, bin_eql, bin_neq, bin_add, bin_sub, bin_mul, un_not, str_eql, str_neq, app_push, app_stk, app_tk, app_lp, load_app, load_app0, load_fp, store_app, store_app0, leave_app, leave_app0, AM.ownPut, AM.cellsOf, AM.shift, aPick, fin_v, fin_sl, beq_true, okSz, List.length_cons, List.length_nil, Nat.zero_add, Nat.add_zero, Nat.reduceAdd, decide_true, decide_false, Bool.and_true, Bool.true_and, Bool.and_self, Bool.not_true, Bool.not_false, List.getElem?_cons_zero, List.getElem?_cons_succ, List.nil_append, List.cons_append, hpp_app, hpp_stk, hpp_tk, hpp_lp, hpp_hp, app_lpadd, hload, hload0, hloadh, hstore, hstore0, hleave, hleave0, hfin_v, hfin_sl, hback, hloop, hsetlp, max_int, min_int, hstore_v, hstore_v0, hstore_s, hstore_d, modify_concat, part1, hbackt, hbackl, hback0, List.take_succ_cons, List.take_left, List.take_zero, List.take_nil, -Option.bind_some, bne_4, hlt, ia_27, ax1, ay1, rr, g1, el, ew, eo, laid0, p0, hb, hd, hxx, hyy, c1, c2, c3, c4, len_31, lx, ly, S.len, S.p43_9a, S.whole, X.can, S.can, d1, d2, d3, d4, d5, d6, f1, f2, w1, hpb, htb, hik]
      · simp [S4.b1, canon_v, canon_sl, canon_clo, canon_ptr, need_refl, elems_sl, sf_v, sf_sl, sf_ptr, sf_ptrh, sf_clo, sf_dead, sf_nil, sf_full, sf_fr, need_true, ibeq, beq_ba, nbeq, nble, nblt, AM.nth, List.getD_cons_succ, List.getD_cons_zero, bind_step, Option.bind_none, Option.map_some, onBool, AM.onG, onFn, seqK, retK, Ex.outOf, cond_true, cond_false, bin_lss, bin_leq, bin_gtr, bin_geq, bin_eql, bin_neq, bin_add, bin_sub, bin_mul, un_not, str_eql, str_neq, app_push, app_stk, app_tk, app_lp, load_app, load_app0, load_fp, store_app, store_app0, leave_app, leave_app0, AM.ownPut, AM.cellsOf, AM.shift, aPick, fin_v, fin_sl, beq_true, okSz, List.length_cons, List.length_nil, Nat.zero_add, Nat.add_zero, Nat.reduceAdd, decide_true, decide_false, Bool.and_true, Bool.true_and, Bool.and_self, Bool.not_true, Bool.not_false, List.getElem?_cons_zero, List.getElem?_cons_succ, List.nil_append, List.cons_append, hpp_app, hpp_stk, hpp_tk, hpp_lp, hpp_hp, app_lpadd, hload, hload0, hloadh, hstore, hstore0, hleave, hleave0, hfin_v, hfin_sl, hback, hloop, hsetlp, max_int, min_int, hstore_v, hstore_v0, hstore_s, hstore_d, modify_concat, part1, hbackt, hbackl, hback0, List.take_succ_cons, List.take_left, List.take_zero, List.take_nil, -Option.bind_some, bne_4, hlt, ia_27, ax1, ay1, rr, g1, el, ew, eo, laid0, p0, hb, hd, hxx, hyy, c1, c2, c3, c4, len_31, lx, ly, S.len, S.p43_9a, S.whole, X.can, S.can, d1, d2, d3, d4, d5, d6, f1, f2, w1, hpb, htb, hik]
  · simp [S4.b1, canon_v, canon_sl, canon_clo, canon_ptr, need_refl, elems_sl, sf_v, sf_sl, sf_ptr, sf_ptrh, sf_clo, sf_dead, sf_nil, sf_full, sf_fr, need_true, ibeq, beq_ba, nbeq, nble, nblt, AM.nth, List.getD_cons_succ, List.getD_cons_zero, bind_step, Option.bind_none, Option.map_some, onBool, AM.onG, onFn, seqK, retK, Ex.outOf, cond_true, cond_false, bin_lss, bin_leq, bin_gtr, bin_geq, bin_eql, bin_neq, bin_add, bin_sub, bin_mul, un_not, str_eql, str_neq, app_push, app_stk, app_tk, app_lp, load_app, load_app0, load_fp, store_app, store_app0, leave_app, leave_app0, AM.ownPut, AM.cellsOf, AM.shift, aPick, fin_v, fin_sl, beq_true, okSz, List.length_cons, List.length_nil, Nat.zero_add, Nat.add_zero, Nat.reduceAdd, decide_true, decide_false, Bool.and_true, Bool.true_and, Bool.and_self, Bool.not_true, Bool.not_false, List.getElem?_cons_zero, List.getElem?_cons_succ, List.nil_append, List.cons_append, hpp_app, hpp_stk, hpp_tk, hpp_lp, hpp_hp, app_lpadd, hload, hload0, hloadh, hstore, hstore0, hleave, hleave0, hfin_v, hfin_sl, hback, hloop, hsetlp, max_int, min_int, hstore_v, hstore_v0, hstore_s, hstore_d, modify_concat, part1, hbackt, hbackl, hback0, List.take_succ_cons, List.take_left, List.take_zero, List.take_nil, -Option.bind_some, bne_4, hpb, htb]

theorem outer_loop (s : St) (hs : List Blk) (p q : Pg) (hp : ∀ u ∈ p.threads, sszs u.body ≤ 100000) (hpr : ∀ u ∈ p.threads, Th.rng u) (hlp : p.threads.length ≤ 1000) (hq : ∀ u ∈ q.threads, sszs u.body ≤ 100000) (hqr : ∀ u ∈ q.threads, Th.rng u) (hl : q.threads.length ≤ 1000) :
    ∃ a : Unit, True ∧ itE (S4.b0 (E L) itE s.stk.length s.lp.length) [.v (.bool false), .ptr false (s.stk.length + 1) 0, .sl (p.threads.map Th.enc) .dead, int p.threads.length, int (0 : Nat)] ((s.hpp hs).app [⟨p.enc, []⟩, ⟨q.enc, []⟩] [] []) =
      some (.exit 0, [.v (.bool false), .ptr false (s.stk.length + 1) 0, .sl (p.threads.map Th.enc) .dead, int p.threads.length, int p.threads.length], (s.hpp hs).app [⟨p.enc, []⟩, ⟨q.enc, []⟩] [] []) := by
  have hpb : ∀ (p : Pg) m, p.enc.all (sf true m 4) = true := fun _ _ => rfl
  refine it_all (b := S4.b0 (E L) itE s.stk.length s.lp.length) (n := p.threads.length) (e := 0) (P := fun _ _ => True)
    (vs := fun k _ => [.v (.bool false), .ptr false (s.stk.length + 1) 0, .sl (p.threads.map Th.enc) .dead, int p.threads.length, int k]) (st := fun _ _ => (s.hpp hs).app [⟨p.enc, []⟩, ⟨q.enc, []⟩] [] [])
    (fun k a hk _ => ⟨(), trivial, ?_⟩) (fun a _ => ?_) () trivial
  · have hlt : (k : Int) < (p.threads.length : Int) := by omega
    have g1 : (p.threads.map Th.enc)[k]? = some (p.threads[k]).enc := by simp [hk]
    have w1 : IntKind.i64.wrap ((k : Int) + 1) = ((k + 1 : Nat) : Int) := IntWalk.i64_in _ (by omega)
    have hu := hp _ (List.getElem_mem hk)
    have hur := hpr _ (List.getElem_mem hk)
    generalize p.threads[k] = t at *
    have rr := inRn hk
    have el : ∀ x : Th, x.enc.length = 3 := fun _ => rfl
    have ew : ∀ x : Th, AM.part true 3 0 x.enc = some (.agg x.enc) := fun _ => rfl
    have eo : ∀ x : Th, okCells x.enc = true := fun _ => rfl
    have q3 : AM.part false 1 3 q.enc = some (.sl (q.threads.map Th.enc) .dead) := rfl
    obtain ⟨_, _, hin⟩ := inner_loop s hs p q t hu hur k (p.threads.map Th.enc) p.threads.length hq hqr hl
    rw [show ((0 : Nat) : Int) = 0 from rfl] at hin
    simp [S4.b0, canon_v, canon_sl, canon_clo, canon_ptr, need_refl, elems_sl, sf_v, sf_sl, sf_ptr, sf_ptrh, sf_clo, sf_dead, sf_nil, sf_full, sf_fr, need_true, ibeq, beq_ba, nbeq, nble, nblt, AM.nth, List.getD_cons_succ, List.getD_cons_zero, bind_step, Option.bind_none, Option.map_some, onBool, AM.onG, onFn, seqK, retK, Ex.outOf, cond_true, cond_false, bin_lss, bin_leq, bin_gtr, bin_geq, bin_eql, bin_neq, bin_add, bin_sub, bin_mul, un_not, str_eql, str_neq, app_push, app_stk, app_tk, app_lp, load_app, load_app0, load_fp, store_app, store_app0, leave_app, leave_app0, AM.ownPut, AM.cellsOf, AM.shift, aPick, fin_v, fin_sl, beq_true, okSz, List.length_cons, List.length_nil, Nat.zero_add, Nat.add_zero, Nat.reduceAdd, decide_true, decide_false, Bool.and_true, Bool.true_and, Bool.and_self, Bool.not_true, Bool.not_false, List.getElem?_cons_zero, List.getElem?_cons_succ, List.nil_append, List.cons_append, hpp_app, hpp_stk, hpp_tk, hpp_lp, hpp_hp, app_lpadd, hload, hload0, hloadh, hstore, hstore0, hleave, hleave0, hfin_v, hfin_sl, hback, hloop, hsetlp, max_int, min_int, hstore_v, hstore_v0, hstore_s, hstore_d, modify_concat, part1, hbackt, hbackl, hback0, List.take_succ_cons, List.take_left, List.take_zero, List.take_nil, -Option.bind_some, hlt, ia_27, rr, g1, el, ew, eo, laid0, q3, len_27, hin, w1, hpb]
  · simp [S4.b0, canon_v, canon_sl, canon_clo, canon_ptr, need_refl, elems_sl, sf_v, sf_sl, sf_ptr, sf_ptrh, sf_clo, sf_dead, sf_nil, sf_full, sf_fr, need_true, ibeq, beq_ba, nbeq, nble, nblt, AM.nth, List.getD_cons_succ, List.getD_cons_zero, bind_step, Option.bind_none, Option.map_some, onBool, AM.onG, onFn, seqK, retK, Ex.outOf, cond_true, cond_false, bin_lss, bin_leq, bin_gtr, bin_geq, bin_eql, bin_neq, bin_add, bin_sub, bin_mul, un_not, str_eql, str_neq, app_push, app_stk, app_tk, app_lp, load_app, load_app0, load_fp, store_app, store_app0, leave_app, leave_app0, AM.ownPut, AM.cellsOf, AM.shift, aPick, fin_v, fin_sl, beq_true, okSz, List.length_cons, List.length_nil, Nat.zero_add, Nat.add_zero, Nat.reduceAdd, decide_true, decide_false, Bool.and_true, Bool.true_and, Bool.and_self, Bool.not_true, Bool.not_false, List.getElem?_cons_zero, List.getElem?_cons_succ, List.nil_append, List.cons_append, hpp_app, hpp_stk, hpp_tk, hpp_lp, hpp_hp, app_lpadd, hload, hload0, hloadh, hstore, hstore0, hleave, hleave0, hfin_v, hfin_sl, hback, hloop, hsetlp, max_int, min_int, hstore_v, hstore_v0, hstore_s, hstore_d, modify_concat, part1, hbackt, hbackl, hback0, List.take_succ_cons, List.take_left, List.take_zero, List.take_nil, -Option.bind_some, hpb]

theorem TreeSame_ev (a b : List Int) (s : St) : ∃ st', E L (.func 4) [.sl (ints a) .dead, .sl (ints b) .dead] s = some (.v (.bool true), st') := by
  obtain ⟨hs, ha⟩ := alive_st s
  rw [← app_nil (s.hpp hs)] at ha
  by_cases hla : (a.length : Int) > 400
  · refine ⟨(s.hpp hs).app [] [] [], ?_⟩
    rw [S4_eq]
    simp [S4, ha, canon_v, canon_sl, canon_clo, canon_ptr, need_refl, elems_sl, sf_v, sf_sl, sf_ptr, sf_ptrh, sf_clo, sf_dead, sf_nil, sf_full, sf_fr, need_true, ibeq, beq_ba, nbeq, nble, nblt, AM.nth, List.getD_cons_succ, List.getD_cons_zero, bind_step, Option.bind_none, Option.map_some, onBool, AM.onG, onFn, seqK, retK, Ex.outOf, cond_true, cond_false, bin_lss, bin_leq, bin_gtr, bin_geq, bin_eql, bin_neq, bin_add, bin_sub, bin_mul, un_not, str_eql, str_neq, app_push, app_stk, app_tk, app_lp, load_app, load_app0, load_fp, store_app, store_app0, leave_app, leave_app0, AM.ownPut, AM.cellsOf, AM.shift, aPick, fin_v, fin_sl, beq_true, okSz, List.length_cons, List.length_nil, Nat.zero_add, Nat.add_zero, Nat.reduceAdd, decide_true, decide_false, Bool.and_true, Bool.true_and, Bool.and_self, Bool.not_true, Bool.not_false, List.getElem?_cons_zero, List.getElem?_cons_succ, List.nil_append, List.cons_append, hpp_app, hpp_stk, hpp_tk, hpp_lp, hpp_hp, app_lpadd, hload, hload0, hloadh, hstore, hstore0, hleave, hleave0, hfin_v, hfin_sl, hback, hloop, hsetlp, max_int, min_int, hstore_v, hstore_v0, hstore_s, hstore_d, modify_concat, part1, hbackt, hbackl, hback0, List.take_succ_cons, List.take_left, List.take_zero, List.take_nil, -Option.bind_some, len_22, ints_len, hla]
  by_cases hlb : (b.length : Int) > 400
  · refine ⟨(s.hpp hs).app [] [] [], ?_⟩
    rw [S4_eq]
    simp [S4, ha, canon_v, canon_sl, canon_clo, canon_ptr, need_refl, elems_sl, sf_v, sf_sl, sf_ptr, sf_ptrh, sf_clo, sf_dead, sf_nil, sf_full, sf_fr, need_true, ibeq, beq_ba, nbeq, nble, nblt, AM.nth, List.getD_cons_succ, List.getD_cons_zero, bind_step, Option.bind_none, Option.map_some, onBool, AM.onG, onFn, seqK, retK, Ex.outOf, cond_true, cond_false, bin_lss, bin_leq, bin_gtr, bin_geq, bin_eql, bin_neq, bin_add, bin_sub, bin_mul, un_not, str_eql, str_neq, app_push, app_stk, app_tk, app_lp, load_app, load_app0, load_fp, store_app, store_app0, leave_app, leave_app0, AM.ownPut, AM.cellsOf, AM.shift, aPick, fin_v, fin_sl, beq_true, okSz, List.length_cons, List.length_nil, Nat.zero_add, Nat.add_zero, Nat.reduceAdd, decide_true, decide_false, Bool.and_true, Bool.true_and, Bool.and_self, Bool.not_true, Bool.not_false, List.getElem?_cons_zero, List.getElem?_cons_succ, List.nil_append, List.cons_append, hpp_app, hpp_stk, hpp_tk, hpp_lp, hpp_hp, app_lpadd, hload, hload0, hloadh, hstore, hstore0, hleave, hleave0, hfin_v, hfin_sl, hback, hloop, hsetlp, max_int, min_int, hstore_v, hstore_v0, hstore_s, hstore_d, modify_concat, part1, hbackt, hbackl, hback0, List.take_succ_cons, List.take_left, List.take_zero, List.take_nil, -Option.bind_some, len_22, ints_len, hla, hlb]
  obtain ⟨p, pf, pt, pz, ⟨pr, pl⟩, hp⟩ := make_ev a (by omega)
  obtain ⟨q, qf, qt, qz, ⟨qr, ql⟩, hq⟩ := make_ev b (by omega)
  have bz : ∀ {p : Pg}, bsz p.bodies ≤ 6000 → (∀ x ∈ p.funs, sszs x.body ≤ 6000) ∧ ∀ x ∈ p.threads, sszs x.body ≤ 6000 := fun {p} h =>
    ⟨fun x hx => by have := bsz_mem (l := p.bodies) (b := x.body) (by simp only [Pg.bodies, List.mem_append]; exact .inl (List.mem_map_of_mem hx)); omega,
     fun x hx => by have := bsz_mem (l := p.bodies) (b := x.body) (by simp only [Pg.bodies, List.mem_append]; exact .inr (List.mem_map_of_mem hx)); omega⟩
  have mk : ∀ {p : Pg}, p.rng → p.recs.length ≤ 3 → p.funs.length ≤ 3 → p.threads.length ≤ 4 → bsz p.bodies ≤ 6000 → p.small := fun {p} h h1 h2 h3 h4 =>
    { rl := by omega, rr := fun x hx => (h.1 x hx).1, gl := h.2.1.1, fl := by omega, fp := fun x hx => (h.2.2.1 x hx).1.1, fb := fun x hx => by have := (bz h4).1 x hx; omega, tl := by omega, tb := fun x hx => by have := (bz h4).2 x hx; omega }
  have sp := mk pr pl pf pt pz.1
  have sq := mk qr ql qf qt qz.1
  have e1 := pg_ev p q sp
  have e2 := pg_ev p p sp
  rw [Pg.same_refl] at e2
  have e3 := prog_ev p sp
  have e4 := prog_ev q sq
  have hpt : p.tx.length ≤ 1000000000 := by
    have hT1 : (p.recs.flatMap Rc.tx).length ≤ p.recs.length * 3000002 := fm_bound _ _ _ fun x hx => by have := sp.rr x hx; have := namedT_len x.fields; simp only [Rc.tx, List.length_cons]; omega
    have hT2 : (p.funs.flatMap Fu.tx).length ≤ p.funs.length * 4000000 := fm_bound _ _ _ fun x hx => by
      have := sp.fp x hx; have := (bz pz.1).1 x hx; have := namedT_len x.params; have := stxs_len x.body; have := rowT_len x.body
      simp only [Fu.tx, List.length_cons, List.length_append]; omega
    have hT3 : (p.threads.flatMap Th.tx).length ≤ p.threads.length * 300000 := fm_bound _ _ _ fun x hx => by
      have := (bz pz.1).2 x hx; have := stxs_len x.body; have := rowT_len x.body
      simp only [Th.tx]; omega
    have := namedT_len p.globals
    have := sp.gl
    have : p.hd.length = 3 := rfl
    simp only [Pg.tx, List.length_append]; omega
  have e5 := ssm_ev p.tx q.tx hpt
  rw [pg_iff p q pr qr sp sq] at e5
  obtain ⟨_, _, ho⟩ := outer_loop s hs p q (fun u hu => by have := (bz pz.1).2 u hu; omega) pr.2.2.2 (by omega) (fun u hu => by have := (bz qz.1).2 u hu; omega) qr.2.2.2 (by omega)
  rw [show ((0 : Nat) : Int) = 0 from rfl] at ho
  have pok : ∀ p : Pg, okCells p.enc = true := fun _ => rfl
  have pln : ∀ p : Pg, p.enc.length = 4 := fun _ => rfl
  have p3 : ∀ p : Pg, AM.part false 1 3 p.enc = some (.sl (p.threads.map Th.enc) .dead) := fun _ => rfl
  have whole : ∀ p : Pg, AM.part true 4 0 p.enc = some (.agg p.enc) := fun _ => rfl
  have hcan : ∀ p : Pg, canon (.agg p.enc) = .agg p.enc := fun _ => rfl
  refine ⟨(s.hpp hs).app [] [] [], ?_⟩
  rw [S4_eq]
  simp [S4, ha, canon_v, canon_sl, canon_clo, canon_ptr, need_refl, elems_sl, sf_v, sf_sl, sf_ptr, sf_ptrh, sf_clo, sf_dead, sf_nil, sf_full, sf_fr, need_true, ibeq, beq_ba, nbeq, nble, nblt, AM.nth, List.getD_cons_succ, List.getD_cons_zero, bind_step, Option.bind_none, Option.map_some, onBool, AM.onG, onFn, seqK, retK, Ex.outOf, cond_true, cond_false, bin_lss, bin_leq, bin_gtr, bin_geq, bin_eql, bin_neq, bin_add, bin_sub, bin_mul, un_not, str_eql, str_neq, app_push, app_stk, app_tk, app_lp, load_app, load_app0, load_fp, store_app, store_app0, leave_app, leave_app0, AM.ownPut, AM.cellsOf, AM.shift, aPick, fin_v, fin_sl, beq_true, okSz, List.length_cons, List.length_nil, Nat.zero_add, Nat.add_zero, Nat.reduceAdd, decide_true, decide_false, Bool.and_true, Bool.true_and, Bool.and_self, Bool.not_true, Bool.not_false, List.getElem?_cons_zero, List.getElem?_cons_succ, List.nil_append, List.cons_append, hpp_app, hpp_stk, hpp_tk, hpp_lp, hpp_hp, app_lpadd, hload, hload0, hloadh, hstore, hstore0, hleave, hleave0, hfin_v, hfin_sl, hback, hloop, hsetlp, max_int, min_int, hstore_v, hstore_v0, hstore_s, hstore_d, modify_concat, part1, hbackt, hbackl, hback0, List.take_succ_cons, List.take_left, List.take_zero, List.take_nil, -Option.bind_some, bne_4, len_22, ints_len, hla, hlb, hp, hq, pln, pok, laid0, whole, hcan, e1, e2, e3, e4, e5, p3, len_27, ho]
end Go.Proofs.Ytkbhejcfejembaa.S

/- Trees: the machine's own conditions hold of this program. No condition. -/
namespace Go.Proofs.Ytkbhejcfejembaa.S
open Go Go.AM Go.Proofs
set_option linter.unusedVariables false
theorem names_ok : (Try.prog.funcs.toList.all fun fn => !(fn.name == "runtime.NumGoroutine")) = true := by kernel_rfl
theorem ok : LibOk L where
  name f fn h := by
    have h1 := List.all_eq_true.1 names_ok fn (by
      have h : Try.prog.funcs[f]? = some fn := h
      rw [← Array.getElem?_toList] at h
      exact List.mem_of_getElem? h)
    simpa using h1
  mixed := by
    have h : Try.prog.follows .mixedOrders = true := by kernel_rfl
    exact h
  prim f g h := by cases h
end Go.Proofs.Ytkbhejcfejembaa.S

/- Trees: TreeSame is answered true. No condition. -/
namespace Go.Proofs.Ytkbhejcfejembaa.Pure
open Go Go.AM Go.Proofs
theorem TreeSame_ev (a b : List Int) : ∃ k st', evF S.L k (.func 4) [intsPV .i64 a, intsPV .i64 b] st0 = some (.v (.bool true), st') := by
  obtain ⟨st', h⟩ := S.TreeSame_ev a b st0
  obtain ⟨k, hk⟩ := E_evF h
  exact ⟨k, st', hk⟩
end Go.Proofs.Ytkbhejcfejembaa.Pure
