/- The abstract machine: rows that grow, by what they are known to own. No condition. -/
import Derived.Test.YtkbhejcfejembaaM27
set_option linter.all false
set_option linter.unusedVariables false
namespace Go.AM
open Go


/-- A row of so many elements that may grow: it is fresh, or owns its room by token j of this frame. -/
def Own (s : St) (tk : List (Nat × Nat)) (c : Cap) (n sz : Nat) : Prop :=
  (c = .nil ∨ c = .full) ∨ ∃ j, c = .own .fr (s.tk.length + j) n ∧ tk[j]? = some (n, sz)
def tokOf : Cap → Option Nat
  | .own _ t _ => some t
  | _ => none
def Dist (a b : Cap) : Prop := tokOf b = none ∨ tokOf a ≠ tokOf b
theorem Dist.symm {a b : Cap} (h : Dist a b) : Dist b a := by
  rcases h with h | h
  · cases ha : tokOf a with
    | none => exact .inl ha
    | some t => exact .inr (by rw [h, ha]; simp)
  · exact .inr fun e => h e.symm
theorem Own.nil (s : St) (tk : List (Nat × Nat)) (n sz : Nat) : Own s tk .nil n sz := .inl (.inl rfl)
theorem Own.full (s : St) (tk : List (Nat × Nat)) (n sz : Nat) : Own s tk .full n sz := .inl (.inr rfl)

theorem app_own2 {s : St} {tk : List (Nat × Nat)} {c : Cap} {sz bytes : Nat} {es ys : List (List PV)} (h : Own s tk c es.length sz)
    (h1 : (es.length + ys.length) * bytes ≤ maxLenB) (h2 : okSz sz es = true) (h3 : okSz sz ys = true) (h4 : sz ≠ 0) (h5 : bytes ≠ 0) :
    ∃ c' tk', (∀ (bl : List Blk) (lp : List Aux) (base : Nat) (z : List PV), rAppend base z sz bytes (.sl es c) ys (s.app bl tk lp) = some (.sl (es ++ ys) c', s.app bl tk' lp)) ∧ Own s tk' c' (es ++ ys).length sz ∧
      c'.sf true 0 = true ∧ (∀ {c2 n2 sz2}, Own s tk c2 n2 sz2 → Dist c c2 → Own s tk' c2 n2 sz2 ∧ Dist c' c2) := by
  rcases h with h | ⟨j, rfl, hj⟩
  · refine ⟨_, _, fun bl lp base z => append_fresh s bl tk lp base z h h1 h2 h3 h4 h5, .inr ⟨tk.length, by simp, by simp⟩, rfl, ?_⟩
    intro c2 n2 sz2 ho _
    rcases ho with ho | ⟨i, rfl, hi⟩
    · exact ⟨.inl ho, .inl (by rcases ho with rfl | rfl <;> rfl)⟩
    · have : i < tk.length := (List.getElem?_eq_some_iff.1 hi).1
      refine ⟨.inr ⟨i, rfl, by rw [List.getElem?_append_left this]; exact hi⟩, .inr ?_⟩
      simp [tokOf]; omega
  · refine ⟨_, _, fun bl lp base z => append_own s bl lp base z hj h1 h2 h3 h4 h5, .inr ⟨j, by simp, ?_⟩, rfl, ?_⟩
    · have : j < tk.length := (List.getElem?_eq_some_iff.1 hj).1
      simp [this]
    · intro c2 n2 sz2 ho hd
      rcases ho with ho | ⟨i, rfl, hi⟩
      · exact ⟨.inl ho, .inl (by rcases ho with rfl | rfl <;> rfl)⟩
      · have : j ≠ i := by
          rcases hd with hd | hd
          · cases hd
          · intro e; subst e; exact hd rfl
        refine ⟨.inr ⟨i, rfl, by rw [List.getElem?_set_ne this]; exact hi⟩, .inr ?_⟩
        simp [tokOf]; omega
theorem app_own {s : St} {tk : List (Nat × Nat)} {c : Cap} {sz bytes : Nat} {es ys : List (List PV)} (h : Own s tk c es.length sz)
    (h1 : (es.length + ys.length) * bytes ≤ maxLenB) (h2 : okSz sz es = true) (h3 : okSz sz ys = true) (h4 : sz ≠ 0) (h5 : bytes ≠ 0) :
    ∃ c' tk', (∀ (bl : List Blk) (lp : List Aux) (base : Nat) (z : List PV), rAppend base z sz bytes (.sl es c) ys (s.app bl tk lp) = some (.sl (es ++ ys) c', s.app bl tk' lp)) ∧ Own s tk' c' (es ++ ys).length sz :=
  let ⟨c', tk', a, b, _⟩ := app_own2 h h1 h2 h3 h4 h5
  ⟨c', tk', a, b⟩
theorem Own.sfc {s : St} {tk : List (Nat × Nat)} {c : Cap} {n sz : Nat} (h : Own s tk c n sz) (m : Nat) : c.sf true m = true := by
  rcases h with (rfl | rfl) | ⟨j, rfl, _⟩ <;> rfl

theorem part1 (c : PV) : part false 1 0 [c] = some c := rfl
theorem canonFAs2 {m : Nat} {s : St} : ∀ {cs : List PV}, cs.all flatC = true → canonFAs m s cs = some (cs.map canonC)
  | [], _ => rfl
  | c :: cs, h => by
    simp only [List.all_cons, Bool.and_eq_true] at h
    have h1 : canonFA m s c = some (canonC c) := by
      cases c <;> simp_all [flatC, canonFA, canonF]
    simp only [canonFAs, h1, canonFAs2 h.2, Option.bind_some, List.map_cons]
theorem fin_tup (s : St) (bl : List Blk) (tk : List (Nat × Nat)) (lp : List Aux) {a b : PV} {cs : List PV} (h : (a :: b :: cs).all flatC = true) : fin s.stk.length s.tk.length s.lp.length (a :: b :: cs) (s.app bl tk lp) = some (.tup ((a :: b :: cs).map canonC), s.app [] [] []) := by
  rw [fin_app, app_nil]
  have : canonFT s.stk.length (s.app bl tk lp) (packRes (a :: b :: cs)) = some (.tup ((a :: b :: cs).map canonC)) := by
    simp only [packRes, canonFT, canonFAs2 h, Option.bind_some]
  rw [this]
  have h2 : sf false s.stk.length 4 (.tup ((a :: b :: cs).map canonC)) = true := by
    show ((a :: b :: cs).map canonC).all (sf false s.stk.length 3) = true
    rw [List.all_eq_true]
    intro p hp
    obtain ⟨q, hq, rfl⟩ := List.mem_map.1 hp
    exact flatC_sf (List.all_eq_true.1 h q hq)
  rw [Option.bind_some, h2]; rfl

theorem laidB : ∀ (pre old post cs : List PV), old.length = cs.length → laid (pre ++ old ++ post) pre.length cs = pre ++ cs ++ post
  | pre, [], post, [], _ => rfl
  | pre, o :: old, post, c :: cs, h => by
    have : (pre ++ o :: old ++ post).set pre.length c = (pre ++ [c]) ++ old ++ post := by simp
    rw [laid, this, show pre.length + 1 = (pre ++ [c]).length by simp, laidB (pre ++ [c]) old post cs (by simpa using h)]
    simp
theorem lit1 {sz : Nat} {z cs ds : List PV} (hz : z.length = sz) (hc : cs.length = sz) (hp : plainCs cs = some ds) (hd : ds.length = sz) : rBuildSlice sz z 1 [(0, .agg cs)] = some (.sl [ds] .full) := by
  have h1 : laid (reps 1 z) 0 cs = cs := by
    have := laidB [] z [] cs (by omega)
    simpa [reps] using this
  have h2 : Nat.ble (0 + sz) (reps 1 z).length = true := by simp [reps, hz]
  have h3 : Nat.beq cs.length sz = true := by rw [hc]; exact Nat.beq_refl _
  simp only [rBuildSlice, rLit, fillP, AM.cellsOf, h3, Nat.zero_mul, h2, Bool.and_self, cond_true, h1, Option.bind_some, hp, chunks]
  rw [List.take_of_length_le (by omega)]
theorem lit2 {sz : Nat} {z cs ds : List PV} (hz : z.length = sz) (hc : cs.length = sz) (hd : ds.length = sz) (hp : plainCs cs = some cs) (hq : plainCs ds = some ds) : rBuildSlice sz z 2 [(0, .agg cs), (1, .agg ds)] = some (.sl [cs, ds] .full) := by
  have h1 : laid (reps 2 z) 0 cs = cs ++ z := by
    have := laidB [] z z cs (by omega)
    simpa [reps] using this
  have h1' : laid (cs ++ z) sz ds = cs ++ ds := by
    have := laidB cs z [] ds (by omega)
    simpa [hc] using this
  have h2 : Nat.ble (0 + sz) (reps 2 z).length = true := by simp [reps, hz]
  have h2' : Nat.ble (1 * sz + sz) (cs ++ z).length = true := by simp [hz, hc]
  have h3 : Nat.beq cs.length sz = true := by rw [hc]; exact Nat.beq_refl _
  have h3' : Nat.beq ds.length sz = true := by rw [hd]; exact Nat.beq_refl _
  have h4 : ∀ {l m : List PV}, plainCs l = some l → plainCs m = some m → plainCs (l ++ m) = some (l ++ m) := by
    intro l
    induction l with
    | nil => intro m _ h; exact h
    | cons a l ih =>
      intro m hl hm
      simp only [plainCs] at hl
      cases ha : plainC a with
      | none => rw [ha] at hl; cases hl
      | some a' =>
        rw [ha] at hl
        cases hl' : plainCs l with
        | none => rw [hl'] at hl; cases hl
        | some l' =>
          rw [hl'] at hl
          simp at hl
          obtain ⟨rfl, rfl⟩ := hl
          simp only [List.cons_append, plainCs, ha, ih hl' hm, Option.bind_some]
  simp only [rBuildSlice, rLit, fillP, AM.cellsOf, h3, Nat.zero_mul, h2, h3', Bool.and_self, cond_true, h1, Option.bind_some, Nat.one_mul] at h2' ⊢
  simp only [h2', h1', Bool.and_self, cond_true, fillP, Option.bind_some, h4 hp hq, chunks]
  rw [List.take_append_of_le_length (by omega), List.take_of_length_le (by omega), List.drop_append_of_le_length (by omega), List.drop_of_length_le (by omega)]
  simp [List.take_of_length_le, hd]

theorem max_int (P : Program) (k : IntKind) (a b : Int) : aMax2 P (.v (.int k a)) (.v (.int k b)) = some (.v (.int k (if b > a then b else a))) := flat_pure P (.int k (if b > a then b else a)) rfl
theorem min_int (P : Program) (k : IntKind) (a b : Int) : aMin2 P (.v (.int k a)) (.v (.int k b)) = some (.v (.int k (if b < a then b else a))) := flat_pure P (.int k (if b < a then b else a)) rfl
/-! ### states whose heap has grown -/
def St.hpp (s : St) (hs : List Blk) : St := { s with hp := s.hp ++ hs }
theorem hpp_nil (s : St) : s.hpp [] = s := by simp [St.hpp]
theorem hpp_app (s : St) (hs : List Blk) (b : List Blk) (bl : List Blk) (tk : List (Nat × Nat)) (lp : List Aux) : ((s.hpp hs).app bl tk lp).hpp b = (s.hpp (hs ++ b)).app bl tk lp := by simp [St.hpp, St.app]
theorem hpp_stk (s : St) (hs : List Blk) : (s.hpp hs).stk.length = s.stk.length := rfl
theorem hpp_tk (s : St) (hs : List Blk) : (s.hpp hs).tk.length = s.tk.length := rfl
theorem hpp_lp (s : St) (hs : List Blk) : (s.hpp hs).lp.length = s.lp.length := rfl
theorem hpp_hp (s : St) (hs : List Blk) (bl : List Blk) (tk : List (Nat × Nat)) (lp : List Aux) : ((s.hpp hs).app bl tk lp).hp.length = s.hp.length + hs.length := by simp [St.hpp, St.app]
theorem hpp_blk (s : St) (hs : List Blk) (bl : List Blk) (tk : List (Nat × Nat)) (lp : List Aux) (j : Nat) : ((s.hpp hs).app bl tk lp).blk true (s.hp.length + j) = (hs[j]?).map Blk.cs := by
  simp only [St.blk, St.bk, St.app, St.hpp]
  rw [List.getElem?_append_right (by omega), show s.hp.length + j - s.hp.length = j by omega]
theorem app_lpadd (s : St) (bl : List Blk) (tk : List (Nat × Nat)) (lp l : List Aux) : St.mk (s.app bl tk lp).stk (s.app bl tk lp).hp (s.app bl tk lp).tk ((s.app bl tk lp).lp ++ l) = s.app bl tk (lp ++ l) := by simp [St.app]
/-- A cell that stays what it is wherever it lies. -/
def stillC : PV → Bool
  | .v _ => true
  | .sl _ c => match c with | .own _ _ _ => false | _ => true
  | _ => false
theorem moveCs_still {h : Bool} {b : Nat} : ∀ {cs : List PV} {st : St}, cs.all stillC = true → moveCs h b cs st = some (cs, st)
  | [], st, _ => rfl
  | c :: cs, st, hc => by
    simp only [List.all_cons, Bool.and_eq_true] at hc
    have h1 : moveC h b c st = some (c, st) := by
      cases c with
      | sl es cp => cases cp <;> simp_all [moveC, stillC]
      | _ => simp_all [moveC, stillC]
    simp only [moveCs, h1, moveCs_still hc.2, Option.bind_some]
theorem modify_concat {α : Type} (l : List α) (a : α) (f : α → α) : (l ++ [a]).modify l.length f = l ++ [f a] := by
  induction l with
  | nil => rfl
  | cons b l ih => simp only [List.cons_append, List.length_cons, List.modify_succ_cons, ih]
section
variable (s : St) (hs bl : List Blk) (tk : List (Nat × Nat)) (lp : List Aux)
theorem hload (agg : Bool) (sz off j : Nat) : aLoad agg sz (.ptr false (s.stk.length + j) off) ((s.hpp hs).app bl tk lp) = ((bl[j]?).map Blk.cs).bind (part agg sz off) := load_app agg sz off j (s.hpp hs) bl tk lp
theorem hload0 (agg : Bool) (sz off : Nat) : aLoad agg sz (.ptr false s.stk.length off) ((s.hpp hs).app bl tk lp) = ((bl[0]?).map Blk.cs).bind (part agg sz off) := load_app0 agg sz off (s.hpp hs) bl tk lp
theorem hloadh (agg : Bool) (sz off j : Nat) : aLoad agg sz (.ptr true (s.hp.length + j) off) ((s.hpp hs).app bl tk lp) = ((hs[j]?).map Blk.cs).bind (part agg sz off) := by simp only [aLoad, hpp_blk]
theorem hstore (sz off j : Nat) (v : PV) : aStore s.stk.length sz (.ptr false (s.stk.length + j) off) v ((s.hpp hs).app bl tk lp) = (ownPut bl j off sz v).map fun bl => (s.hpp hs).app bl tk lp := store_app sz off j v (s.hpp hs) bl tk lp
theorem hstore0 (sz off : Nat) (v : PV) : aStore s.stk.length sz (.ptr false s.stk.length off) v ((s.hpp hs).app bl tk lp) = (ownPut bl 0 off sz v).map fun bl => (s.hpp hs).app bl tk lp := store_app0 sz off v (s.hpp hs) bl tk lp
theorem hstore_v (base sz off j : Nat) (v : Value) : aStore base sz (.ptr false (s.stk.length + j) off) (.v v) ((s.hpp hs).app bl tk lp) = (ownPut bl j off sz (.v v)).map fun bl => (s.hpp hs).app bl tk lp := by
  have hb : ((s.hpp hs).app bl tk lp).blk false (s.stk.length + j) = (bl[j]?).map Blk.cs := app_blk (s.hpp hs) bl tk lp j
  have hs' : ∀ cs, ((s.hpp hs).app bl tk lp).setBlk false (s.stk.length + j) cs = (s.hpp hs).app (bl.modify j fun x => ⟨cs, x.tk⟩) tk lp := setBlk_app (s.hpp hs) bl tk lp j
  simp only [aStore, ownPut, putCells, hb, AM.cellsOf, Option.bind_some]
  cases hbj : bl[j]? with
  | none => cases Nat.beq [PV.v v].length sz && !Nat.beq sz 0 <;> rfl
  | some old =>
    simp only [Option.map_some, Option.bind_some]
    cases Nat.beq [PV.v v].length sz && !Nat.beq sz 0 <;> cases Nat.ble (off + [PV.v v].length) old.cs.length && okCells [PV.v v] <;> cases Nat.blt (s.stk.length + j) base <;> simp [moveCs, moveC, hs']
theorem hstore_v0 (base sz off : Nat) (v : Value) : aStore base sz (.ptr false s.stk.length off) (.v v) ((s.hpp hs).app bl tk lp) = (ownPut bl 0 off sz (.v v)).map fun bl => (s.hpp hs).app bl tk lp := hstore_v s hs bl tk lp base sz off 0 v
theorem hstore_c (base sz off j : Nat) {v : PV} {cs : List PV} (hv : AM.cellsOf v = some cs) (h : cs.all stillC = true) : aStore base sz (.ptr false (s.stk.length + j) off) v ((s.hpp hs).app bl tk lp) = (ownPut bl j off sz v).map fun bl => (s.hpp hs).app bl tk lp := by
  have hb : ((s.hpp hs).app bl tk lp).blk false (s.stk.length + j) = (bl[j]?).map Blk.cs := app_blk (s.hpp hs) bl tk lp j
  have hs' : ∀ cs, ((s.hpp hs).app bl tk lp).setBlk false (s.stk.length + j) cs = (s.hpp hs).app (bl.modify j fun x => ⟨cs, x.tk⟩) tk lp := setBlk_app (s.hpp hs) bl tk lp j
  simp only [aStore, ownPut, putCells, hb, hv, Option.bind_some]
  cases hbj : bl[j]? with
  | none => cases Nat.beq cs.length sz && !Nat.beq sz 0 <;> rfl
  | some old =>
    simp only [Option.map_some, Option.bind_some]
    cases Nat.beq cs.length sz && !Nat.beq sz 0 <;> cases Nat.ble (off + cs.length) old.cs.length && okCells cs <;> cases Nat.blt (s.stk.length + j) base <;> simp [moveCs_still h, hs']
theorem hstore_s (base sz off j : Nat) {cs : List PV} (h : cs.all stillC = true) : aStore base sz (.ptr false (s.stk.length + j) off) (.agg cs) ((s.hpp hs).app bl tk lp) = (ownPut bl j off sz (.agg cs)).map fun bl => (s.hpp hs).app bl tk lp := hstore_c s hs bl tk lp base sz off j rfl h
theorem hstore_d (base sz off j : Nat) (es : List (List PV)) : aStore base sz (.ptr false (s.stk.length + j) off) (.sl es .dead) ((s.hpp hs).app bl tk lp) = (ownPut bl j off sz (.sl es .dead)).map fun bl => (s.hpp hs).app bl tk lp := hstore_c s hs bl tk lp base sz off j rfl rfl
theorem hleave (n : Nat) (x : Ex) (vs : List PV) : leaveV s.stk.length s.lp.length (s.stk.length + n) x vs ((s.hpp hs).app bl tk lp) =
    bif lp.all isIter && vs.all (sf true (s.stk.length + n) 4) && (bl.take n).all (fun b => b.cs.all (sf true (s.stk.length + n) 4)) then some (x, vs, (s.hpp hs).app (bl.take n) tk lp) else none := leave_app (s.hpp hs) n bl tk lp x vs
theorem hleave0 (x : Ex) (vs : List PV) : leaveV s.stk.length s.lp.length s.stk.length x vs ((s.hpp hs).app bl tk lp) =
    bif lp.all isIter && vs.all (sf true s.stk.length 4) then some (x, vs, (s.hpp hs).app [] tk lp) else none := leave_app0 (s.hpp hs) bl tk lp x vs
theorem hfin_v (x : Value) : fin s.stk.length s.tk.length s.lp.length [.v x] ((s.hpp hs).app bl tk lp) = some (.v x, (s.hpp hs).app [] [] []) := fin_v (s.hpp hs) bl tk lp x
theorem hfin_sl (es : List (List PV)) (c : Cap) : fin s.stk.length s.tk.length s.lp.length [.sl es c] ((s.hpp hs).app bl tk lp) = some (.sl es .dead, (s.hpp hs).app [] [] []) := fin_sl (s.hpp hs) bl tk lp es c
theorem hfin_agg {cs : List PV} (h : cs.all flatC = true) : fin s.stk.length s.tk.length s.lp.length [.agg cs] ((s.hpp hs).app bl tk lp) = some (.agg (cs.map canonC), (s.hpp hs).app [] [] []) := fin_agg (s.hpp hs) bl tk lp h
theorem hfin_tup {a b : PV} {cs : List PV} (h : (a :: b :: cs).all flatC = true) : fin s.stk.length s.tk.length s.lp.length (a :: b :: cs) ((s.hpp hs).app bl tk lp) = some (.tup ((a :: b :: cs).map canonC), (s.hpp hs).app [] [] []) := fin_tup (s.hpp hs) bl tk lp h
theorem hback (n t l : Nat) : ((s.hpp hs).app bl tk lp).back (s.stk.length + n) (s.tk.length + t) (s.lp.length + l) = (s.hpp hs).app (bl.take n) (tk.take t) (lp.take l) := by
  have h : ∀ {α : Type} (a b : List α) (n : Nat), (a ++ b).take (a.length + n) = a ++ b.take n := fun a b n => by
    rw [List.take_append, List.take_of_length_le (by omega)]
    congr 2
    omega
  simp only [St.back, St.app, St.hpp, h]
theorem hbackt (n l : Nat) : ((s.hpp hs).app bl tk lp).back (s.stk.length + n) s.tk.length (s.lp.length + l) = (s.hpp hs).app (bl.take n) [] (lp.take l) := hback s hs bl tk lp n 0 l
theorem hbackl (n : Nat) : ((s.hpp hs).app bl tk lp).back (s.stk.length + n) s.tk.length s.lp.length = (s.hpp hs).app (bl.take n) [] [] := hback s hs bl tk lp n 0 0
theorem hback0 : ((s.hpp hs).app bl tk lp).back s.stk.length s.tk.length s.lp.length = (s.hpp hs).app [] [] [] := hback s hs bl tk lp 0 0 0
theorem hloop (r : Lp) (l : List Aux) : ((s.hpp hs).app bl tk (.loop r :: l)).loop s.lp.length = some r := by
  simp [St.loop, St.app, St.hpp]
theorem hsetlp (r q : Aux) (l : List Aux) : ((s.hpp hs).app bl tk (r :: l)).setLp s.lp.length q = (s.hpp hs).app bl tk (q :: l) := by
  simp [St.setLp, St.app, St.hpp]
end
end Go.AM
