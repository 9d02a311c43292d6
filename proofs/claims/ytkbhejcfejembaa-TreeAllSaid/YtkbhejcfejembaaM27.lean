/- The abstract machine: how its words are reckoned with. No condition. -/
import Derived.Test.YtkbhejcfejembaaM26
import Derived.IntWalk
set_option linter.all false
set_option linter.unusedVariables false
namespace Go.AM
open Go

theorem nbeq (a b : Nat) : Nat.beq a b = decide (a = b) := by
  cases h : Nat.beq a b with
  | true => rw [Nat.eq_of_beq_eq_true h]; simp
  | false => simp [Nat.ne_of_beq_eq_false h]
theorem ibeq (a b : Int) : (a == b) = decide (a = b) := by
  by_cases h : a = b <;> simp [h]
theorem nble (a b : Nat) : Nat.ble a b = decide (a ≤ b) := by
  cases h : Nat.ble a b with
  | true => simp [Nat.le_of_ble_eq_true h]
  | false =>
    have : ¬ a ≤ b := fun z => by rw [← Nat.ble_eq] at z; rw [z] at h; cases h
    simp [this]
theorem nblt (a b : Nat) : Nat.blt a b = decide (a < b) := by
  rw [Nat.blt, nble]; congr 1
theorem canon_v (x : Value) : canon (.v x) = .v x := rfl
theorem canon_sl (es : List (List PV)) (c : Cap) : canon (.sl es c) = .sl es .dead := rfl
theorem canon_clo (f : Fn) (cs : List PV) : canon (.clo f cs) = .clo f cs := rfl
theorem canon_ptr (h : Bool) (b off : Nat) : canon (.ptr h b off) = .ptr h b off := rfl
theorem canonC_v (x : Value) : canonC (.v x) = .v x := rfl
theorem canonC_sl (es : List (List PV)) (c : Cap) : canonC (.sl es c) = .sl es .dead := rfl
theorem sf_v (own : Bool) (m n : Nat) (x : Value) : sf own m (n + 1) (.v x) = true := rfl
theorem sf_sl (own : Bool) (m n : Nat) (es : List (List PV)) (c : Cap) : sf own m (n + 1) (.sl es c) = c.sf own m := rfl
theorem sf_ptr (own : Bool) (m n b off : Nat) : sf own m (n + 1) (.ptr false b off) = decide (b < m) := nblt b m
theorem sf_ptrh (own : Bool) (m n b off : Nat) : sf own m (n + 1) (.ptr true b off) = true := rfl
theorem sf_clo (own : Bool) (m n : Nat) (g : FuncId) : sf own m (n + 1) (.clo (.func g) []) = true := by cases own <;> rfl
theorem sf_dead (own : Bool) (m : Nat) : Cap.sf own m .dead = true := rfl
theorem sf_nil (own : Bool) (m : Nat) : Cap.sf own m .nil = true := rfl
theorem sf_full (own : Bool) (m : Nat) : Cap.sf own m .full = true := rfl
theorem sf_fr (m t e : Nat) : Cap.sf true m (.own .fr t e) = true := rfl
theorem need_true {β : Type} (x : Option β) : need True x = x := by simp [need]
theorem need_refl {α β : Type} (a : α) (x : Option β) : need (a = a) x = x := by simp [need]
theorem elems_sl (st : St) (es : List (List PV)) (c : Cap) : elemsOf st (.sl es c) = some es := rfl
/-- A state with more on top. -/
def St.app (s : St) (bl : List Blk) (tk : List (Nat × Nat)) (lp : List Aux) : St := ⟨s.stk ++ bl, s.hp, s.tk ++ tk, s.lp ++ lp⟩
theorem app_nil (s : St) : s.app [] [] [] = s := by simp [St.app]
theorem app_push (s : St) (bl : List Blk) (tk : List (Nat × Nat)) (lp : List Aux) (cs : List PV) : (s.app bl tk lp).push cs = s.app (bl ++ [⟨cs, []⟩]) tk lp := by simp [St.app, St.push]
theorem app_stk (s : St) (bl : List Blk) (tk : List (Nat × Nat)) (lp : List Aux) : (s.app bl tk lp).stk.length = s.stk.length + bl.length := by simp [St.app]
theorem app_tk (s : St) (bl : List Blk) (tk : List (Nat × Nat)) (lp : List Aux) : (s.app bl tk lp).tk.length = s.tk.length + tk.length := by simp [St.app]
theorem app_lp (s : St) (bl : List Blk) (tk : List (Nat × Nat)) (lp : List Aux) : (s.app bl tk lp).lp.length = s.lp.length + lp.length := by simp [St.app]
theorem app_back (s : St) (bl : List Blk) (tk : List (Nat × Nat)) (lp : List Aux) : (s.app bl tk lp).back s.stk.length s.tk.length s.lp.length = s := by simp [St.app, St.back]
theorem app_back0 (s : St) (bl : List Blk) (tk : List (Nat × Nat)) (lp : List Aux) : (s.app bl tk lp).back (s.stk.length + 0) (s.tk.length + 0) (s.lp.length + 0) = s := app_back s bl tk lp

theorem app_blk (s : St) (bl : List Blk) (tk : List (Nat × Nat)) (lp : List Aux) (j : Nat) : (s.app bl tk lp).blk false (s.stk.length + j) = (bl[j]?).map Blk.cs := by
  simp only [St.blk, St.bk, St.app]
  rw [List.getElem?_append_right (by omega)]
  congr 2
  omega
theorem app_blk_old {s : St} {b : Nat} (h : b < s.stk.length) (bl : List Blk) (tk : List (Nat × Nat)) (lp : List Aux) : (s.app bl tk lp).blk false b = s.blk false b := by
  simp only [St.blk, St.bk, St.app]
  rw [List.getElem?_append_left h]
theorem app_blk_hp (s : St) (bl : List Blk) (tk : List (Nat × Nat)) (lp : List Aux) (b : Nat) : (s.app bl tk lp).blk true b = s.blk true b := rfl

/-! ### loads and stores -/
theorem load_app (agg : Bool) (sz off j : Nat) (s : St) (bl : List Blk) (tk : List (Nat × Nat)) (lp : List Aux) : aLoad agg sz (.ptr false (s.stk.length + j) off) (s.app bl tk lp) = ((bl[j]?).map Blk.cs).bind (part agg sz off) := by
  simp only [aLoad, app_blk]
theorem load_old {agg : Bool} {sz off b : Nat} {s : St} (h : b < s.stk.length) (bl : List Blk) (tk : List (Nat × Nat)) (lp : List Aux) : aLoad agg sz (.ptr false b off) (s.app bl tk lp) = aLoad agg sz (.ptr false b off) s := by
  simp only [aLoad, app_blk_old h]
theorem load_fp (agg : Bool) (sz off : Nat) (cs : List PV) (s : St) : aLoad agg sz (.fp cs off) s = part agg sz off cs := rfl

theorem setBlk_app (s : St) (bl : List Blk) (tk : List (Nat × Nat)) (lp : List Aux) (j : Nat) (cs : List PV) : (s.app bl tk lp).setBlk false (s.stk.length + j) cs = s.app (bl.modify j fun x => ⟨cs, x.tk⟩) tk lp := by
  simp only [St.setBlk, St.upB, St.app]
  congr 1
  apply List.ext_getElem?
  intro i
  rw [List.getElem?_modify, List.getElem?_append, List.getElem?_append, List.getElem?_modify]
  by_cases h : i < s.stk.length
  · rw [if_pos h, if_pos h]
    have : s.stk.length + j ≠ i := by omega
    simp [this]
  · rw [if_neg h, if_neg h]
    have : (s.stk.length + j = i) = (j = i - s.stk.length) := by apply propext; omega
    simp only [this]

/-- Cells are laid into a block of the frame's own. -/
def ownPut (bl : List Blk) (j off sz : Nat) (v : PV) : Option (List Blk) := (cellsOf v).bind fun cs => (bl[j]?).bind fun old =>
  bif Nat.beq cs.length sz && !Nat.beq sz 0 && (Nat.ble (off + cs.length) old.cs.length && okCells cs) then some (bl.modify j fun x => ⟨laid old.cs off cs, x.tk⟩) else none
theorem store_app (sz off j : Nat) (v : PV) (s : St) (bl : List Blk) (tk : List (Nat × Nat)) (lp : List Aux) : aStore s.stk.length sz (.ptr false (s.stk.length + j) off) v (s.app bl tk lp) = (ownPut bl j off sz v).map fun bl => s.app bl tk lp := by
  simp only [aStore, ownPut, putCells, app_blk]
  cases hc : cellsOf v with
  | none => rfl
  | some cs =>
    simp only [Option.bind_some]
    cases hb : bl[j]? with
    | none => cases Nat.beq cs.length sz && !Nat.beq sz 0 <;> rfl
    | some old =>
      simp only [Option.map_some, Option.bind_some]
      have hlt : Nat.blt (s.stk.length + j) s.stk.length = false := by
        cases h : Nat.blt (s.stk.length + j) s.stk.length with
        | false => rfl
        | true => rw [Nat.blt_eq] at h; omega
      cases Nat.beq cs.length sz && !Nat.beq sz 0 <;> cases Nat.ble (off + cs.length) old.cs.length && okCells cs <;> simp [hlt, setBlk_app]

theorem load_app0 (agg : Bool) (sz off : Nat) (s : St) (bl : List Blk) (tk : List (Nat × Nat)) (lp : List Aux) : aLoad agg sz (.ptr false s.stk.length off) (s.app bl tk lp) = ((bl[0]?).map Blk.cs).bind (part agg sz off) := load_app agg sz off 0 s bl tk lp
theorem store_app0 (sz off : Nat) (v : PV) (s : St) (bl : List Blk) (tk : List (Nat × Nat)) (lp : List Aux) : aStore s.stk.length sz (.ptr false s.stk.length off) v (s.app bl tk lp) = (ownPut bl 0 off sz v).map fun bl => s.app bl tk lp := store_app sz off 0 v s bl tk lp

/-- The end of a round. -/
theorem leave_app (s : St) (n : Nat) (bl : List Blk) (tk : List (Nat × Nat)) (lp : List Aux) (x : Ex) (vs : List PV) : leaveV s.stk.length s.lp.length (s.stk.length + n) x vs (s.app bl tk lp) =
    bif lp.all isIter && vs.all (sf true (s.stk.length + n) 4) && (bl.take n).all (fun b => b.cs.all (sf true (s.stk.length + n) 4)) then some (x, vs, s.app (bl.take n) tk lp) else none := by
  have h1 : (s.app bl tk lp).lp.drop s.lp.length = lp := by simp [St.app]
  have h2 : ((s.app bl tk lp).stk.drop s.stk.length).take (s.stk.length + n - s.stk.length) = bl.take n := by simp [St.app]
  have h3 : ({ s.app bl tk lp with stk := (s.app bl tk lp).stk.take (s.stk.length + n) } : St) = s.app (bl.take n) tk lp := by
    simp only [St.app]
    congr 1
    rw [List.take_append, List.take_of_length_le (by omega)]
    congr 2
    omega
  simp only [leaveV, h1, h2, h3]
theorem leave_app0 (s : St) (bl : List Blk) (tk : List (Nat × Nat)) (lp : List Aux) (x : Ex) (vs : List PV) : leaveV s.stk.length s.lp.length s.stk.length x vs (s.app bl tk lp) =
    bif lp.all isIter && vs.all (sf true s.stk.length 4) then some (x, vs, s.app [] tk lp) else none := by
  have := leave_app s 0 bl tk lp x vs
  simp only [Nat.add_zero, List.take_zero, List.all_nil, Bool.and_true] at this
  exact this

/-! ### numbers -/
theorem flat_pure (P : Program) (x : Value) (h : flatV x = true) : flatRes (pureIn P (pure x)) = some (.v x) := by
  show flatRes (some x) = _
  simp [flatRes, h]
section
variable (P : Program) (cst : Bool) (t : TypeId) (k : IntKind) (a b : Int)
theorem bin_int (op : BinOp) : aBin P cst op t (.v (.int k a)) (.v (.int k b)) = flatRes (pureIn P (binOp op t (.int k a) (.int k b))) := rfl
theorem bin_add : aBin P cst .add t (.v (.int k a)) (.v (.int k b)) = some (.v (.int k (k.wrap (a + b)))) := by rw [bin_int, show binOp .add t (.int k a) (.int k b) = pure (.int k (k.wrap (a + b))) by simp [binOp, Op.intArith]]; exact flat_pure P _ rfl
theorem bin_sub : aBin P cst .sub t (.v (.int k a)) (.v (.int k b)) = some (.v (.int k (k.wrap (a - b)))) := by rw [bin_int, show binOp .sub t (.int k a) (.int k b) = pure (.int k (k.wrap (a - b))) by simp [binOp, Op.intArith]]; exact flat_pure P _ rfl
theorem bin_mul : aBin P cst .mul t (.v (.int k a)) (.v (.int k b)) = some (.v (.int k (k.wrap (a * b)))) := by rw [bin_int, show binOp .mul t (.int k a) (.int k b) = pure (.int k (k.wrap (a * b))) by simp [binOp, Op.intArith]]; exact flat_pure P _ rfl
theorem bin_cmp (op : BinOp) (h : op = .eql ∨ op = .neq ∨ op = .lss ∨ op = .leq ∨ op = .gtr ∨ op = .geq) : aBin P cst op t (.v (.int k a)) (.v (.int k b)) = flatRes (pureIn P (Op.intCmp op a b)) := by
  rw [bin_int]; rcases h with rfl | rfl | rfl | rfl | rfl | rfl <;> simp [binOp]
theorem bin_eql : aBin P cst .eql t (.v (.int k a)) (.v (.int k b)) = some (.v (.bool (decide (a = b)))) := by rw [bin_cmp _ _ _ _ _ _ _ (by simp)]; exact flat_pure P _ rfl
theorem bin_neq : aBin P cst .neq t (.v (.int k a)) (.v (.int k b)) = some (.v (.bool (!decide (a = b)))) := by rw [bin_cmp _ _ _ _ _ _ _ (by simp)]; exact flat_pure P _ rfl
theorem bin_lss : aBin P cst .lss t (.v (.int k a)) (.v (.int k b)) = some (.v (.bool (decide (a < b)))) := by rw [bin_cmp _ _ _ _ _ _ _ (by simp)]; exact flat_pure P _ rfl
theorem bin_leq : aBin P cst .leq t (.v (.int k a)) (.v (.int k b)) = some (.v (.bool (decide (a ≤ b)))) := by rw [bin_cmp _ _ _ _ _ _ _ (by simp)]; exact flat_pure P _ rfl
theorem bin_gtr : aBin P cst .gtr t (.v (.int k a)) (.v (.int k b)) = some (.v (.bool (decide (a > b)))) := by rw [bin_cmp _ _ _ _ _ _ _ (by simp)]; exact flat_pure P _ rfl
theorem bin_geq : aBin P cst .geq t (.v (.int k a)) (.v (.int k b)) = some (.v (.bool (decide (a ≥ b)))) := by rw [bin_cmp _ _ _ _ _ _ _ (by simp)]; exact flat_pure P _ rfl
theorem un_not : aUn P .not (.v (.bool cst)) = some (.v (.bool (!cst))) := by cases cst <;> rfl
variable (x y : ByteArray)
theorem str_add (h : x.size + y.size ≤ 9223372036854775807) : aBin P cst .add t (.v (.string x)) (.v (.string y)) = some (.v (.string (x ++ y))) := by
  show flatRes (pureIn P (Op.stringOp .add x y)) = _
  have : ¬ (((x.size + y.size : Nat) : Int) > IntKind.i64.max) := by simp [IntKind.max, IntKind.bits]; omega
  simp only [Op.stringOp, this, if_false]
  exact flat_pure P _ rfl
theorem beq_ba : (x == y) = decide (x = y) := by
  cases x with | mk x => cases y with | mk y =>
  have h : ((⟨x⟩ : ByteArray) == ⟨y⟩) = (x == y) := rfl
  rw [h]
  by_cases e : x = y
  · subst e; simp
  · have : (⟨x⟩ : ByteArray) ≠ ⟨y⟩ := fun q => e (by injection q)
    simp [e, this]
theorem beq_dec : (x.toList == y.toList) = decide (x = y) := by
  rw [← beq_toListBytes, beq_ba]
theorem str_eql : aBin P cst .eql t (.v (.string x)) (.v (.string y)) = some (.v (.bool (decide (x = y)))) := by rw [← beq_dec]; rfl
theorem str_neq : aBin P cst .neq t (.v (.string x)) (.v (.string y)) = some (.v (.bool (!decide (x = y)))) := by rw [← beq_dec]; rfl
end

/-! ### a call's end -/
theorem fin_app (s : St) (bl : List Blk) (tk : List (Nat × Nat)) (lp : List Aux) (ps : List PV) : fin s.stk.length s.tk.length s.lp.length ps (s.app bl tk lp) =
    (canonFT s.stk.length (s.app bl tk lp) (packRes ps)).bind fun p => bif sf false s.stk.length 4 p then some (p, s) else none := by
  simp only [fin, app_back]
theorem fin_self (s : St) (ps : List PV) : fin s.stk.length s.tk.length s.lp.length ps s =
    (canonFT s.stk.length s (packRes ps)).bind fun p => bif sf false s.stk.length 4 p then some (p, s) else none := by
  have := fin_app s [] [] [] ps
  rwa [app_nil] at this
/-- One plain value. -/
theorem fin_v (s : St) (bl : List Blk) (tk : List (Nat × Nat)) (lp : List Aux) (x : Value) : fin s.stk.length s.tk.length s.lp.length [.v x] (s.app bl tk lp) = some (.v x, s.app [] [] []) := by
  rw [fin_app, app_nil]; rfl
theorem fin_sl (s : St) (bl : List Blk) (tk : List (Nat × Nat)) (lp : List Aux) (es : List (List PV)) (c : Cap) : fin s.stk.length s.tk.length s.lp.length [.sl es c] (s.app bl tk lp) = some (.sl es .dead, s.app [] [] []) := by
  rw [fin_app, app_nil]; rfl

theorem fin_v0 (s : St) (x : Value) : fin s.stk.length s.tk.length s.lp.length [.v x] s = some (.v x, s) := by rw [fin_self]; rfl
theorem fin_sl0 (s : St) (es : List (List PV)) (c : Cap) : fin s.stk.length s.tk.length s.lp.length [.sl es c] s = some (.sl es .dead, s) := by rw [fin_self]; rfl

/-- A row of plain cells and rows. -/
def flatC : PV → Bool
  | .v _ | .sl _ _ => true
  | _ => false
theorem flatC_sf {own : Bool} {m n : Nat} {p : PV} (h : flatC p = true) : sf own m (n + 1) (canonC p) = true := by
  cases p <;> simp_all [flatC, canonC, sf, Cap.sf]
theorem canonFAs_flat {m : Nat} {s : St} : ∀ {cs : List PV}, cs.all flatC = true → canonFs m s cs = some (cs.map canonC)
  | [], _ => rfl
  | c :: cs, h => by
    simp only [List.all_cons, Bool.and_eq_true] at h
    have h1 : canonF m s c = some (canonC c) := by
      cases c <;> simp_all [flatC, canonF]
    simp only [canonFs, h1, canonFAs_flat h.2, Option.bind_some, List.map_cons]
theorem fin_agg (s : St) (bl : List Blk) (tk : List (Nat × Nat)) (lp : List Aux) {cs : List PV} (h : cs.all flatC = true) : fin s.stk.length s.tk.length s.lp.length [.agg cs] (s.app bl tk lp) = some (.agg (cs.map canonC), s.app [] [] []) := by
  rw [fin_app, app_nil]
  have : canonFT s.stk.length (s.app bl tk lp) (packRes [PV.agg cs]) = some (.agg (cs.map canonC)) := by
    simp only [packRes, canonFT, canonFA, canonFAs_flat h, Option.bind_some]
  rw [this]
  have h2 : sf false s.stk.length 4 (.agg (cs.map canonC)) = true := by
    show (cs.map canonC).all (sf false s.stk.length 3) = true
    rw [List.all_eq_true]
    intro p hp
    obtain ⟨q, hq, rfl⟩ := List.mem_map.1 hp
    exact flatC_sf (List.all_eq_true.1 h q hq)
  rw [Option.bind_some, h2]; rfl

/-! ### rows that grow -/
theorem append_fresh {sz bytes : Nat} {es ys : List (List PV)} {c : Cap} (s : St) (bl : List Blk) (tk : List (Nat × Nat)) (lp : List Aux) (base : Nat) (z : List PV) (hc : c = .nil ∨ c = .full)
    (h1 : (es.length + ys.length) * bytes ≤ maxLenB) (h2 : okSz sz es = true) (h3 : okSz sz ys = true) (h4 : sz ≠ 0) (h5 : bytes ≠ 0) :
    rAppend base z sz bytes (.sl es c) ys (s.app bl tk lp) = some (.sl (es ++ ys) (.own .fr (s.tk.length + tk.length) (es.length + ys.length)), s.app bl (tk ++ [(es.length + ys.length, sz)]) lp) := by
  have e4 : Nat.beq sz 0 = false := by cases h : Nat.beq sz 0 with | false => rfl | true => exact absurd (Nat.eq_of_beq_eq_true h) h4
  have e5 : Nat.beq bytes 0 = false := by cases h : Nat.beq bytes 0 with | false => rfl | true => exact absurd (Nat.eq_of_beq_eq_true h) h5
  have e1 : Nat.ble ((es.length + ys.length) * bytes) maxLenB = true := by rw [Nat.ble_eq]; exact h1
  rcases hc with rfl | rfl <;> simp only [rAppend, aAppend, e1, h2, h3, e4, e5, Bool.not_false, Bool.and_true, cond_true, app_tk, St.pushTok, St.app, List.length_append, List.append_assoc]
theorem append_own {sz bytes j : Nat} {es ys : List (List PV)} {e : Nat} (s : St) (bl : List Blk) {tk : List (Nat × Nat)} (lp : List Aux) (base : Nat) (z : List PV) (ht : tk[j]? = some (e, sz))
    (h1 : (es.length + ys.length) * bytes ≤ maxLenB) (h2 : okSz sz es = true) (h3 : okSz sz ys = true) (h4 : sz ≠ 0) (h5 : bytes ≠ 0) :
    rAppend base z sz bytes (.sl es (.own .fr (s.tk.length + j) e)) ys (s.app bl tk lp) = some (.sl (es ++ ys) (.own .fr (s.tk.length + j) (e + ys.length)), s.app bl (tk.set j (e + ys.length, sz)) lp) := by
  have e4 : Nat.beq sz 0 = false := by cases h : Nat.beq sz 0 with | false => rfl | true => exact absurd (Nat.eq_of_beq_eq_true h) h4
  have e5 : Nat.beq bytes 0 = false := by cases h : Nat.beq bytes 0 with | false => rfl | true => exact absurd (Nat.eq_of_beq_eq_true h) h5
  have e1 : Nat.ble ((es.length + ys.length) * bytes) maxLenB = true := by rw [Nat.ble_eq]; exact h1
  have htok : (s.app bl tk lp).tok .fr (s.tk.length + j) = some (e, sz) := by
    simp only [St.tok, St.app]
    rw [List.getElem?_append_right (by omega)]
    rw [show s.tk.length + j - s.tk.length = j by omega]; exact ht
  have hset : (s.app bl tk lp).setTok .fr (s.tk.length + j) (e + ys.length, sz) = s.app bl (tk.set j (e + ys.length, sz)) lp := by
    simp only [St.setTok, St.app]
    congr 1
    rw [List.set_append_right _ _ (by omega), show s.tk.length + j - s.tk.length = j by omega]
  simp only [rAppend, aAppend, e1, h2, h3, e4, e5, Bool.not_false, Bool.and_true, cond_true, htok, Nat.beq_refl, Bool.and_self, hset]

theorem okSz_map {α : Type} {sz : Nat} (f : α → List PV) (h : ∀ a, (f a).length = sz) (l : List α) : okSz sz (l.map f) = true := by
  unfold okSz
  rw [List.all_eq_true]
  intro e he
  obtain ⟨a, _, rfl⟩ := List.mem_map.1 he
  rw [h]; exact Nat.beq_refl _

theorem fill_nil (pl : Nat → Option (Nat × Nat)) (z : List PV) : fillP pl z [] = some z := rfl

/-- One round of a loop that goes on. -/
theorem it_step {b : List PV → St → Option (Ex × List PV × St)} {vs vs' : List PV} {st st' : St} (h : b vs st = some (.normal, vs', st')) : itE b vs st = itE b vs' st' := by
  rw [itE_eq, h]; rfl
theorem it_exit {b : List PV → St → Option (Ex × List PV × St)} {vs vs' : List PV} {st st' : St} {i : Nat} (h : b vs st = some (.exit i, vs', st')) : itE b vs st = some (.exit i, vs', st') := by
  rw [itE_eq, h]; rfl
theorem it_ret {b : List PV → St → Option (Ex × List PV × St)} {vs vs' : List PV} {st st' : St} (h : b vs st = some (.ret, vs', st')) : itE b vs st = some (.ret, vs', st') := by
  rw [itE_eq, h]; rfl

end Go.AM
