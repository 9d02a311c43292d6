/- The abstract machine: operations that leave the state: what they answer, the model answers. No condition. -/
import Derived.Test.YtkbhejcfejembaaM5
import Derived.Laws.StructEq
import Derived.Laws.BytesString
set_option linter.all false
set_option linter.unusedVariables false
namespace Go.AM
open Go

theorem pureIn_run {α : Type} {P : Program} : ∀ {s : Sem α} {a : α}, pureIn P s = some a → ∀ w, s.run P w = .ok a w := by
  intro s
  induction s with
  | pure b => intro a h w; obtain rfl := Option.some.inj h; rfl
  | program k ih => intro a h w; exact ih P h w
  | _ => intro a h w; simp [pureIn] at h

/-- The calls that wait for an activation's end: marks of loops over functions alone, whose blocks are empty. -/
structure Marks (w : World) (lo : Nat) (ds : List Deferred) : Prop where
  le : lo ≤ w.heap.size
  ok : ∀ d ∈ ds, ∃ D, d = ⟨.collected D, #[]⟩ ∧ lo ≤ D ∧ w.heap[D]? = some (.deferred (some []))
  nd : ds.Pairwise fun a b => ∀ D, a.target = .collected D → b.target ≠ .collected D
theorem Marks.nil {w : World} {lo : Nat} (h : lo ≤ w.heap.size) : Marks w lo [] := ⟨h, by simp, .nil⟩
theorem Marks.mono {w w' : World} {C C' : Ctx} {lo : Nat} {ds : List Deferred} (h : Marks w lo ds) (x : Ext w C w' C') : Marks w' lo ds :=
  ⟨Nat.le_trans h.le x.size, fun d hd => by obtain ⟨D, h1, h2, h3⟩ := h.ok d hd; exact ⟨D, h1, h2, x.dfr D h3⟩, h.nd⟩

structure RelE (lo : Nat) (w : World) (C : Ctx) (e : Env) (n : Nat) (a : Act) : Prop where
  size : a.tmps.size = n
  rep : ∀ i, Rep w C (a.tmps.getD i undef) (e i)
  defers : Marks w lo a.defers

theorem RelE.mono {lo : Nat} {w w' : World} {C C' : Ctx} {e : Env} {n : Nat} {a : Act} (h : RelE lo w C e n a) (x : Ext w C w' C') : RelE lo w' C' e n a :=
  ⟨h.size, fun i => (h.rep i).mono x, h.defers.mono x⟩

theorem RelE.put {lo : Nat} {w : World} {C : Ctx} {e : Env} {n : Nat} {a : Act} (h : RelE lo w C e n a) (dst : Option Tmp) {v : Value} {p : PV} (hp : Rep w C v p) : RelE lo w C (put n e dst p) n (a.put dst v) := by
  cases dst with
  | none => exact h
  | some d =>
    refine ⟨by simp [Act.put, h.size], fun i => ?_, h.defers⟩
    simp only [AM.put, Act.put]
    by_cases hd : d < n
    · rw [show Nat.blt d n = true from by rw [Nat.blt_eq]; exact hd, cond_true]
      simp only [upd]
      by_cases e1 : i = d
      · subst e1
        rw [Nat.beq_refl, cond_true]
        have : (a.tmps.setIfInBounds i v).getD i undef = v := by
          rw [Array.getD_eq_getD_getElem?, Array.getElem?_setIfInBounds_self_of_lt (by rw [h.size]; exact hd)]; rfl
        rw [this]; exact hp
      · have e2 : Nat.beq i d = false := by
          cases hq : Nat.beq i d with
          | false => rfl
          | true => exact absurd (Nat.eq_of_beq_eq_true hq) e1
        rw [e2, cond_false]
        have : (a.tmps.setIfInBounds d v).getD i undef = a.tmps.getD i undef := by
          rw [Array.getD_eq_getD_getElem?, Array.getElem?_setIfInBounds_ne (Ne.symm e1), ← Array.getD_eq_getD_getElem?]
        rw [this]; exact h.rep i
    · have e2 : Nat.blt d n = false := by
        cases hq : Nat.blt d n with
        | false => rfl
        | true => rw [Nat.blt_eq] at hq; exact absurd hq hd
      rw [e2, cond_false]
      have : a.tmps.setIfInBounds d v = a.tmps := by
        have hs := h.size
        have hd' : n ≤ d := Nat.le_of_not_lt hd
        exact Array.setIfInBounds_eq_of_size_le (by omega)
      rw [this]; exact h.rep i

theorem rep_flat {w : World} {C : Ctx} {x : Value} : Rep w C x (bif flatV x then .v x else .u) := by
  cases h : flatV x with
  | true => exact .v h
  | false => exact .u

theorem rep_leaf (w : World) (C : Ctx) (x : Value) : Rep w C x (ofLeaf x) := by
  unfold ofLeaf
  split
  · split
    · exact .slnil trivial
    · exact .u
  · split
    · exact .clo rfl (by simp)
    · exact .u
  · exact rep_flat

theorem rep_const (w : World) (C : Ctx) (x : Value) : Rep w C x (ofConst x) := by
  unfold ofConst
  split
  · rename_i cs
    cases h : cs.toList.all Value.oneCell' with
    | false => exact .u
    | true =>
      refine .agg (by simp) (fun i x hx => ?_) fun i x p hx hp => ?_
      · rw [List.all_eq_true] at h
        exact h x (List.mem_of_getElem? (by simpa using hx))
      · obtain ⟨q, hq, rfl⟩ := getElem?_map_some hp
        rw [Array.getElem?_toList, hx] at hq
        obtain rfl := Option.some.inj hq
        exact rep_leaf w C _
  · exact rep_leaf w C _

theorem rep_opnd {lo : Nat} {w : World} {C : Ctx} {e : Env} {n : Nat} {a : Act} (h : RelE lo w C e n a) (x : Operand) : Rep w C (a.eval x) (opnd e x) := by
  cases x with
  | tmp t => exact h.rep t
  | const v => exact rep_const w C v
  | global g => exact .u
  | func f => exact .clo rfl (by simp)

/-- A value is told, and memory stays. -/
def Tells (P : Program) (w : World) (C : Ctx) (s : Sem Value) (p : PV) : Prop := ∃ v, s.run P w = .ok v w ∧ Rep w C v p

theorem tells_flat {P : Program} {w : World} {C : Ctx} {s : Sem Value} {p : PV} (h : flatRes (pureIn P s) = some p) : Tells P w C s p := by
  cases hs : pureIn P s with
  | none => rw [hs] at h; simp [flatRes] at h
  | some v =>
    rw [hs] at h
    simp only [flatRes] at h
    cases hf : flatV v with
    | false => rw [hf] at h; simp at h
    | true =>
      rw [hf] at h
      obtain rfl := Option.some.inj h
      exact ⟨v, pureIn_run hs w, .v hf⟩

theorem rep_v {w : World} {C : Ctx} {x a : Value} (h : Rep w C x (.v a)) : x = a ∧ flatV a = true := by
  cases h with
  | v h => exact ⟨rfl, h⟩

section
variable {P : Program} {w : World} {C : Ctx}

theorem run_typeInfo {t : TypeId} {i : TypeInfo} (h : P.info? t = some i) (w : World) : (typeInfo t).run P w = .ok i w := by
  simp [typeInfo, h]
theorem szT_eq {t : TypeId} {i : TypeInfo} (h : P.info? t = some i) : szT P t = i.size := by simp [szT, h]
theorem info_of_under {t : TypeId} {d : TypeDesc} (h : P.underlying t = some d) : ∃ i, P.info? t = some i := by
  unfold Program.underlying at h
  cases hi : P.info? t with
  | none => rw [hi] at h; simp at h
  | some i => exact ⟨i, rfl⟩
theorem run_sizeOf {t : TypeId} {d : TypeDesc} (h : P.underlying t = some d) (w : World) : (sizeOf t).run P w = .ok (szT P t) w := by
  obtain ⟨i, hi⟩ := info_of_under h
  simp [sizeOf, typeInfo, hi, szT_eq hi]
theorem run_sizeOf' {t : TypeId} {i : TypeInfo} (hi : P.info? t = some i) (w : World) : (sizeOf t).run P w = .ok (szT P t) w := by
  simp [sizeOf, typeInfo, hi, szT_eq hi]
theorem info_of_sz {t : TypeId} (h : szT P t ≠ 0) : ∃ i, P.info? t = some i := by
  cases hi : P.info? t with
  | none => simp [szT, hi] at h
  | some i => exact ⟨i, rfl⟩

theorem run_isAgg {t : TypeId} {d : TypeDesc} (h : P.underlying t = some d) (w : World) : (isAgg t).run P w = .ok (aggT P t) w := by
  unfold isAgg aggT
  rw [Sem.run_bind, run_underlying h]
  simp only [Result.andThen_ok, h]
  cases d <;> rfl

/-- A part of a row of cells. -/
theorem tells_part {t : TypeId} {d : TypeDesc} {xs : Array Value} {cs : List PV} {off : Nat} {p : PV} (hu : P.underlying t = some d) (h : AM.part (aggT P t) (szT P t) off cs = some p)
    (hx : Rep w C (.agg xs) (.agg cs)) : Tells P w C (Go.part t xs off) p := by
  cases hx with
  | agg h1 h2 h3 =>
    unfold Tells Go.part
    rw [Sem.run_bind, run_isAgg hu]
    simp only [Result.andThen_ok]
    cases ha : aggT P t with
    | true =>
      rw [ha] at h
      simp only [AM.part] at h
      cases hb : Nat.ble (off + szT P t) cs.length with
      | false => rw [hb] at h; simp at h
      | true =>
        rw [hb] at h
        obtain rfl := Option.some.inj h
        have hle := Nat.le_of_ble_eq_true hb
        refine ⟨.agg (xs.extract off (off + szT P t)), by simp [run_sizeOf hu], .agg (by simp; omega) ?_ ?_⟩
        · intro i x hx
          rw [Array.getElem?_extract] at hx
          split at hx
          · exact h2 _ x hx
          · cases hx
        · intro i x p hx hp
          rw [Array.getElem?_extract] at hx
          split at hx
          · rename_i hi
            rw [List.getElem?_take, if_pos (by omega), List.getElem?_drop] at hp
            exact h3 (off + i) x p hx hp
          · cases hx
    | false =>
      rw [ha] at h
      simp only [AM.part] at h
      have hlt : off < cs.length := (List.getElem?_eq_some_iff.1 h).1
      have hget : xs[off]? = some (xs[off]'(by omega)) := Array.getElem?_eq_getElem (by omega)
      refine ⟨xs[off]'(by omega), ?_, h3 off _ p hget h⟩
      simp [hget]

theorem eqRes_some {op : BinOp} {b : Bool} {p : PV} (h : eqRes op b = some p) : (op = .eql ∧ p = .v (.bool b)) ∨ (op = .neq ∧ p = .v (.bool (!b))) := by
  cases op <;> simp [eqRes] at h
  · exact Or.inl ⟨rfl, h.symm⟩
  · exact Or.inr ⟨rfl, h.symm⟩

theorem run_aEq : ∀ (n d : Nat) (t : TypeId) (x y : Value) (p q : PV) (b : Bool), n ≤ d → aEq P n t p q = some b → Rep w C x p → Rep w C y q →
    (Op.equalIn d t x y).run P w = .ok b w := by
  intro n
  induction n with
  | zero => intro d t x y p q b _ h; simp [aEq] at h
  | succ n ih =>
    intro d t x y p q b hd h hx hy
    obtain ⟨d, rfl⟩ : ∃ d', d = d' + 1 := ⟨d - 1, by omega⟩
    simp only [aEq] at h
    split at h
    · rename_i hu
      split at h
      · obtain ⟨rfl, _⟩ := rep_v hx
        obtain ⟨rfl, _⟩ := rep_v hy
        obtain rfl := Option.some.inj h
        exact run_equalIn_bool w d t _ _ hu
      · cases h
    · rename_i k0 hu
      split at h
      · rename_i k a k' b'
        obtain ⟨rfl, _⟩ := rep_v hx
        obtain ⟨rfl, _⟩ := rep_v hy
        by_cases hk : k = k'
        · subst hk
          simp only [decide_true, cond_true, Option.some.injEq] at h
          subst h
          exact run_equalIn_int w d t k k0 a b' hu
        · simp [hk] at h
      · cases h
    · rename_i hu
      split at h
      · obtain ⟨rfl, _⟩ := rep_v hx
        obtain ⟨rfl, _⟩ := rep_v hy
        obtain rfl := Option.some.inj h
        rw [beq_toListBytes]
        exact run_equalIn_string w d t _ _ hu
      · cases h
    · rename_i fs hu
      cases hst : P.stoodInHeld t with
      | true => rw [hst] at h; simp at h
      | false =>
        rw [hst] at h
        simp only [cond_false] at h
        split at h
        · rename_i cs ds
          cases hx with
          | @agg _ xs _ a1 a2 a3 =>
          cases hy with
          | @agg _ ys _ b1 b2 b3 =>
          have hX : Rep w C (.agg xs) (.agg cs) := .agg a1 a2 a3
          have hY : Rep w C (.agg ys) (.agg ds) := .agg b1 b2 b3
          have hfs : P.fieldsOf t = fs := by simp [Program.fieldsOf, hu]
          rw [run_equalIn_struct w d t xs ys (by rw [hfs]; exact hu) hst, hfs]
          clear hfs hu hst
          generalize fs.toList = l at h
          induction l generalizing b with
          | nil =>
            simp only [eqFs, Option.some.injEq] at h
            subst h
            rfl
          | cons f l ihl =>
            simp only [eqFs] at h
            cases hn : f.name == "_" with
            | true => rw [hn] at h; simp at h
            | false =>
              rw [hn] at h
              simp only [cond_false] at h
              obtain ⟨u1, hu1, h⟩ := Option.bind_eq_some_iff.1 h
              obtain ⟨u2, hu2, h⟩ := Option.bind_eq_some_iff.1 h
              obtain ⟨c, hc, h⟩ := Option.bind_eq_some_iff.1 h
              obtain ⟨e, he, h⟩ := Option.bind_eq_some_iff.1 h
              obtain rfl := Option.some.inj h
              have hund : ∃ dd, P.underlying f.type = some dd := by
                cases n with
                | zero => simp [aEq] at hc
                | succ n =>
                  simp only [aEq] at hc
                  cases hq : P.underlying f.type with
                  | none => rw [hq] at hc; cases hc
                  | some dd => exact ⟨dd, rfl⟩
              obtain ⟨dd, hdd⟩ := hund
              obtain ⟨v1, r1, p1⟩ := tells_part (C := C) hdd hu1 hX
              obtain ⟨v2, r2, p2⟩ := tells_part (C := C) hdd hu2 hY
              have r3 := ih d f.type v1 v2 u1 u2 c (by omega) hc p1 p2
              have hne : f.name ≠ "_" := by simpa using hn
              simp only [Op.eqFields]
              rw [if_pos hne]
              simp only [Sem.run_bind, r1, r2, r3, Result.andThen_ok]
              cases c with
              | false => simp
              | true => simp only [Bool.not_true, Bool.false_eq_true, if_false, Bool.true_and]; exact ihl e he
        · cases h
    · cases h

theorem run_eq_ptr_nil {t e : TypeId} (h : P.underlying t = some (.pointer e)) (d : Nat) (a : Addr) : (Op.equalIn (d + 1) t (.pointer (some a)) (.pointer none)).run P w = .ok false w := by simp [Op.equalIn, run_underlying h]
theorem run_eq_nil_ptr {t e : TypeId} (h : P.underlying t = some (.pointer e)) (d : Nat) (a : Addr) : (Op.equalIn (d + 1) t (.pointer none) (.pointer (some a))).run P w = .ok false w := by simp [Op.equalIn, run_underlying h]
theorem run_eq_sl_nil {t e : TypeId} (h : P.underlying t = some (.slice e)) (d : Nat) (a : Addr) (l c l' c' : Nat) : (Op.equalIn (d + 1) t (.slice (some a) l c) (.slice none l' c')).run P w = .ok false w := by simp [Op.equalIn, run_underlying h]
theorem run_eq_if_nil {t : TypeId} {ms : Array (String × TypeId)} (h : P.underlying t = some (.interface ms)) (d : Nat) (ty : TypeId) (v : Value) : (Op.equalIn (d + 1) t (.iface ty v) .nilIface).run P w = .ok false w := by simp [Op.equalIn, run_underlying h]
theorem run_eq_nil_if {t : TypeId} {ms : Array (String × TypeId)} (h : P.underlying t = some (.interface ms)) (d : Nat) (ty : TypeId) (v : Value) : (Op.equalIn (d + 1) t .nilIface (.iface ty v)).run P w = .ok false w := by simp [Op.equalIn, run_underlying h]
theorem run_eq_if_if {t : TypeId} {ms : Array (String × TypeId)} (h : P.underlying t = some (.interface ms)) (d : Nat) : (Op.equalIn (d + 1) t .nilIface .nilIface).run P w = .ok true w := by simp [Op.equalIn, run_underlying h]
theorem run_eq_nil_nil {t e : TypeId} (h : P.underlying t = some (.slice e)) (d : Nat) (l c l' c' : Nat) : (Op.equalIn (d + 1) t (.slice none l c) (.slice none l' c')).run P w = .ok true w := by simp [Op.equalIn, run_underlying h]

theorem tells_eq {op : BinOp} {t : TypeId} {ox oy : Operand} {x y : Value} {b : Bool} {r : PV} (h : eqRes op b = some r)
    (hg : ∀ op, (eqGuard op t ox oy x y).run P w = .ok () w)
    (h1 : binOp .eql t x y = (Op.equal t x y).bind fun b => .pure (.bool b)) (h2 : binOp .neq t x y = (Op.equal t x y).bind fun b => .pure (.bool (!b)))
    (he : (Op.equalIn 10000 t x y).run P w = .ok b w) : Tells P w C (do eqGuard op t ox oy x y; binOp op t x y) r := by
  have he' : (Op.equal t x y).run P w = .ok b w := he
  rcases eqRes_some h with ⟨rfl, rfl⟩ | ⟨rfl, rfl⟩
  · refine ⟨.bool b, ?_, .v rfl⟩
    rw [Sem.run_bind, hg, Result.andThen_ok, h1, Sem.run_bind', he']; rfl
  · refine ⟨.bool (!b), ?_, .v rfl⟩
    rw [Sem.run_bind, hg, Result.andThen_ok, h2, Sem.run_bind', he']; rfl

theorem tells_bin {op : BinOp} {t : TypeId} {ox oy : Operand} {x y : Value} {p q r : PV} (h : aBin P (isConst ox || isConst oy) op t p q = some r) (hx : Rep w C x p) (hy : Rep w C y q) :
    Tells P w C (do eqGuard op t ox oy x y; binOp op t x y) r := by
  unfold aBin at h
  split at h
  · obtain ⟨rfl, _⟩ := rep_v hx
    obtain ⟨rfl, _⟩ := rep_v hy
    split at h
    · rename_i hu
      cases hc : isConst ox || isConst oy with
      | false => rw [hc] at h; simp at h
      | true =>
        rw [hc] at h
        simp only [cond_true] at h
        refine tells_eq h (fun op => ?_) rfl rfl (run_eq_if_if hu 9999)
        cases ox <;> cases oy <;> simp [isConst] at hc <;> cases op <;> simp [eqGuard]
    · cases h
  · split at h
    · rename_i hu
      cases hx
      obtain ⟨rfl, _⟩ := rep_v hy
      exact tells_eq h (fun op => by cases op <;> rfl) rfl rfl (run_eq_if_nil hu 9999 _ _)
    · cases h
  · split at h
    · rename_i hu
      cases hy
      obtain ⟨rfl, _⟩ := rep_v hx
      exact tells_eq h (fun op => by cases op <;> rfl) rfl rfl (run_eq_nil_if hu 9999 _ _)
    · cases h
  · rename_i a b
    obtain ⟨rfl, _⟩ := rep_v hx
    obtain ⟨rfl, _⟩ := rep_v hy
    split at h
    · rename_i hu
      have he := fun d => run_equalIn_bool (P := P) w d t a b hu
      exact tells_eq h (fun op => by cases op <;> rfl) rfl rfl (he 9999)
    · cases h
  · rename_i a b h1 h2
    obtain ⟨rfl, fx⟩ := rep_v hx
    obtain ⟨rfl, fy⟩ := rep_v hy
    obtain ⟨v, hv, hr⟩ := tells_flat (w := w) (C := C) h
    refine ⟨v, ?_, hr⟩
    have hg : (eqGuard op t ox oy x y).run P w = .ok () w := by
      cases op <;> first | rfl | skip
      all_goals (cases x <;> first | rfl | skip)
      all_goals (cases y <;> first | rfl | skip)
      all_goals first
        | (exact (h1 rfl rfl).elim)
        | (exact absurd fx (by simp [flatV]; done))
    rw [Sem.run_bind, hg]
    exact hv
  · split at h
    · rename_i hu
      cases hx with
      | ptr hb =>
      obtain ⟨rfl, _⟩ := rep_v hy
      exact tells_eq h (fun op => by cases op <;> rfl) rfl rfl (run_eq_ptr_nil hu 9999 _)
    · cases h
  · split at h
    · rename_i hu
      cases hy with
      | ptr hb =>
      obtain ⟨rfl, _⟩ := rep_v hx
      exact tells_eq h (fun op => by cases op <;> rfl) rfl rfl (run_eq_nil_ptr hu 9999 _)
    · cases h
  · split at h
    · rename_i hu
      have hy' : ∃ n c, y = .slice none n c := by
        cases hy with
        | slnil _ => exact ⟨0, 0, rfl⟩
        | sl sz val h1 h2 h3 h4 h5 h6 h7 h8 => simp [CapRep] at h8
      obtain ⟨n, c, rfl⟩ := hy'
      cases hx with
      | sl sz val h1 h2 h3 h4 h5 h6 h7 h8 =>
      exact tells_eq h (fun op => by cases op <;> rfl) rfl rfl (run_eq_sl_nil hu 9999 _ _ _ _ _)
    · cases h
  · split at h
    · rename_i hu
      have hx' : ∃ n c, x = .slice none n c := by
        cases hx with
        | slnil _ => exact ⟨0, 0, rfl⟩
        | sl sz val h1 h2 h3 h4 h5 h6 h7 h8 => simp [CapRep] at h8
      have hy' : ∃ n c, y = .slice none n c := by
        cases hy with
        | slnil _ => exact ⟨0, 0, rfl⟩
        | sl sz val h1 h2 h3 h4 h5 h6 h7 h8 => simp [CapRep] at h8
      obtain ⟨n, c, rfl⟩ := hx'
      obtain ⟨n', c', rfl⟩ := hy'
      exact tells_eq h (fun op => by cases op <;> rfl) rfl rfl (run_eq_nil_nil hu 9999 _ _ _ _)
    · cases h
  · split at h
    · rename_i hu
      have hy' : ∃ n c, y = .slice none n c := by
        cases hy with
        | slnil _ => exact ⟨0, 0, rfl⟩
        | sl sz val h1 h2 h3 h4 h5 h6 h7 h8 => simp [CapRep] at h8
      obtain ⟨n, c, rfl⟩ := hy'
      cases hx with
      | rs h1 h2 h3 h4 =>
      exact tells_eq h (fun op => by cases op <;> rfl) rfl rfl (run_eq_sl_nil hu 9999 _ _ _ _ _)
    · cases h
  · rename_i cs ds
    cases hm : P.eqGuardType P.depth t with
    | true => rw [hm] at h; simp at h
    | false =>
      rw [hm] at h
      simp only [cond_false] at h
      obtain ⟨b, hb, h⟩ := Option.bind_eq_some_iff.1 h
      have hX := hx
      have hY := hy
      cases hx with
      | @agg _ xs _ a1 a2 a3 =>
      cases hy with
      | @agg _ ys _ b1 b2 b3 =>
      have he := run_aEq (w := w) (C := C) 6 10000 t _ _ _ _ b (by omega) hb hX hY
      exact tells_eq h (fun op => run_eqGuard_agg (P := P) w op t ox oy xs ys hm) rfl rfl he
  · cases h

end
end Go.AM
