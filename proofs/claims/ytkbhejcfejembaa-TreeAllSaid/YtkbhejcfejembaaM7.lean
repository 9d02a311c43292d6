/- The abstract machine: more operations that leave the state. No condition. -/
import Derived.Test.YtkbhejcfejembaaM6
import Derived.Laws.Tables
set_option linter.all false
set_option linter.unusedVariables false
namespace Go.AM
open Go

section
variable {P : Program} {w : World} {C : Ctx}

theorem add_mk (B o n : Nat) : (⟨B, o, none⟩ : Addr).add n = ⟨B, o + n, none⟩ := by
  unfold Addr.add
  split
  · rename_i h; subst h; rfl
  · rfl

theorem tells_un {op : UnOp} {x : Value} {p r : PV} (h : aUn P op p = some r) (hx : Rep w C x p) : Tells P w C (Op.unary op x) r := by
  unfold aUn at h
  split at h
  · obtain ⟨rfl, _⟩ := rep_v hx
    exact tells_flat h
  · cases h

theorem tells_pick {c a b : PV} {x y z : Value} {r : PV} (h : aPick c a b = some r) (hx : Rep w C x c) (hy : Rep w C y a) (hz : Rep w C z b) :
    Tells P w C (do pure (if ← asBool x then y else z)) r := by
  unfold aPick at h
  split at h
  · rename_i t
    obtain ⟨rfl, _⟩ := rep_v hx
    obtain rfl := Option.some.inj h
    cases t with
    | true => exact ⟨y, by simp [asBool], hy⟩
    | false => exact ⟨z, by simp [asBool], hz⟩
  · cases h

theorem bytes_fold (ns : List Int) : ∀ (s : ByteArray), ns.foldl (fun (r : ByteArray) n => r.push (UInt8.ofNat n.toNat)) s = ⟨s.data ++ (ns.map fun n => UInt8.ofNat n.toNat).toArray⟩ := by
  induction ns with
  | nil => intro s; simp
  | cons n ns ih =>
    intro s
    rw [List.foldl_cons, ih]
    simp [ByteArray.push]

theorem bytesOf_get : ∀ {es : List (List PV)} {bs : List UInt8}, bytesOf es = some bs → ∃ ns : List Int, es = ns.map (fun n => [.v (.int .u8 n)]) ∧ bs = ns.map fun n => UInt8.ofNat n.toNat
  | [], bs, h => by obtain rfl := Option.some.inj h; exact ⟨[], rfl, rfl⟩
  | e :: es, bs, h => by
    simp only [bytesOf] at h
    obtain ⟨b, hb, h⟩ := Option.bind_eq_some_iff.1 h
    obtain ⟨cs, hc, h⟩ := Option.bind_eq_some_iff.1 h
    obtain rfl := Option.some.inj h
    obtain ⟨ns, rfl, rfl⟩ := bytesOf_get hc
    unfold byteOfCell at hb
    split at hb
    · rename_i n
      obtain rfl := Option.some.inj hb
      exact ⟨n :: ns, rfl, rfl⟩
    · cases hb

theorem tells_conv {src dst : TypeId} {x : Value} {p r : PV} (h : aConv P src dst p = some r) (hx : Rep w C x p) (hb : ∀ s e, p = .v (.string s) → P.underlying src = some .string → P.underlying dst ≠ some (.slice e)) : Tells P w C (convert src dst x) r := by
  unfold aConv at h
  split at h
  · rename_i s
    obtain ⟨rfl, _⟩ := rep_v hx
    split at h
    · rename_i e h1 h2
      exact absurd h2 (hb s e rfl h1)
    · exact tells_flat h
  · obtain ⟨rfl, _⟩ := rep_v hx
    exact tells_flat h
  · rename_i es c
    split at h
    · rename_i e hs hd
      split at h
      · rename_i he
        obtain ⟨bs, hb, h⟩ := Option.bind_eq_some_iff.1 h
        obtain rfl := Option.some.inj h
        obtain ⟨ns, hes, rfl⟩ := bytesOf_get hb
        cases hx with
        | slnil h1 =>
          have : ns = [] := by cases ns with | nil => rfl | cons n ns => cases hes
          subst this
          refine ⟨.string .empty, ?_, .v rfl⟩
          rw [run_convert_bytes_string w src dst e _ _ _ hs he hd]
          rfl
        | @sl _ _ B o len cap c sz val h1 h2 h3 h4 h5 h6 h7 h8 =>
          refine ⟨_, ?_, .v rfl⟩
          rw [run_convert_bytes_string w src dst e _ _ _ hs he hd]
          have hl : (loadCells ⟨B, o, none⟩ len).run P w = .ok (ns.map (Value.int .u8)).toArray w := by
            have hll : len = (ns.map (Value.int .u8)).length := by rw [h1, hes]; simp
            rw [hll]
            refine run_loadCells_list w _ _ fun j v hj => ?_
            obtain ⟨n, hn, rfl⟩ := getElem?_map_some hj
            have hej : es[j]? = some [.v (.int .u8 n)] := by rw [hes, List.getElem?_map, hn]; rfl
            have hsz : sz = 1 := by rw [← h3 j _ hej]; rfl
            subst hsz
            rw [add_mk]
            have hc := h5 j _ 0 _ hej rfl
            have hr := h7 j _ 0 _ hej rfl
            rw [(rep_v hr).1] at hc
            simpa using hc
          rw [run_bytesToString w _ _ _ _ hl, bytes_fold]
          simp
      · cases h
    · cases h
  · cases h

theorem rep_shift {x : Value} {p r : PV} {n : Nat} (h : shift p n = some r) (hx : Rep w C x p) : ∃ B o, x = .pointer (some ⟨B, o, none⟩) ∧ Rep w C (.pointer (some ⟨B, o + n, none⟩)) r := by
  unfold shift at h
  split at h
  · cases hx with
    | ptr hb =>
      obtain rfl := Option.some.inj h
      exact ⟨_, _, rfl, .ptr hb⟩
  · cases hx with
    | fp val h1 h2 h3 h4 =>
      obtain rfl := Option.some.inj h
      refine ⟨_, _, rfl, ?_⟩
      rw [Nat.add_assoc]
      exact .fp val h1 h2 h3 h4
  · cases h

theorem fieldOf_some {s : TypeId} {f : Nat} {g : Field} (h : fieldOf P s f = some g) : ∃ fs, P.underlying s = some (.struct fs) ∧ fs[f]? = some g := by
  unfold fieldOf at h
  split at h
  · rename_i fs hu; exact ⟨fs, hu, h⟩
  · cases h

theorem tells_fieldAddr {s : TypeId} {x : Value} {p r : PV} {f : Nat} (h : aFieldAddr P s p f = some r) (hx : Rep w C x p) : Tells P w C (Instr.fieldAt s x f) r := by
  unfold aFieldAddr at h
  split at h
  · rename_i g hg
    obtain ⟨fs, hu, hf⟩ := fieldOf_some hg
    cases hz : Nat.beq (szT P g.type) 0 with
    | true => rw [hz] at h; simp at h
    | false =>
      rw [hz] at h
      obtain ⟨B, o, rfl, hr⟩ := rep_shift h hx
      have hne : szT P g.type ≠ 0 := Nat.ne_of_beq_eq_false hz
      obtain ⟨i, hi⟩ := info_of_sz hne
      refine ⟨_, ?_, hr⟩
      simp [Instr.fieldAt, run_underlying hu, hf, Instr.sureAddr, fieldPlace, run_sizeOf' hi, hne, add_mk]
  · cases h

theorem part_under {t : TypeId} {off : Nat} {cs : List PV} {r : PV} {x : Value} (h : AM.part (aggT P t) (szT P t) off cs = some r) (hu : ∃ d, P.underlying t = some d) {xs : Array Value}
    (hx : Rep w C (.agg xs) (.agg cs)) : Tells P w C (Go.part t xs off) r := by
  obtain ⟨d, hd⟩ := hu
  exact tells_part hd h hx

theorem tells_field {s : TypeId} {x : Value} {p r : PV} {f : Nat} (h : aField P s p f = some r) (hx : Rep w C x p) : Tells P w C (Instr.field s x f) r := by
  unfold aField at h
  split at h
  · rename_i g cs hg
    obtain ⟨fs, hu, hf⟩ := fieldOf_some hg
    cases hd : P.underlying g.type with
    | none => rw [hd] at h; simp at h
    | some d =>
      rw [hd] at h
      simp only at h
      have hX := hx
      cases hx with
      | @agg _ xs _ h1 h2 h3 =>
        obtain ⟨v, hv, hr⟩ := tells_part hd h hX
        refine ⟨v, ?_, hr⟩
        simp [Instr.field, run_underlying hu, hf, asAgg, hv]
  · cases h

theorem tells_extract {x : Value} {p r : PV} {i : Nat} (h : aExtract p i = some r) (hx : Rep w C x p) : Tells P w C (Instr.extract x i) r := by
  unfold aExtract at h
  split at h
  · rename_i ps
    cases hx with
    | @tup _ xs _ h1 h3 =>
      have hi : i < ps.length := (List.getElem?_eq_some_iff.1 h).1
      have hget : xs[i]? = some (xs[i]'(by omega)) := Array.getElem?_eq_getElem (by omega)
      exact ⟨_, by simp [Instr.extract, hget], h3 i _ _ hget h⟩
  · cases h

theorem inRange_true {i : Int} {n : Nat} (h : inRange i n = true) : 0 ≤ i ∧ i < n := by
  simpa [inRange] using h

theorem tells_indexAddr {t : TypeId} {x i : Value} {p q r : PV} (h : aIndexAddr P t p q = some r) (hx : Rep w C x p) (hi : Rep w C i q) : Tells P w C (Instr.indexAt t x i) r := by
  unfold aIndexAddr at h
  split at h
  · rename_i k n
    obtain ⟨rfl, _⟩ := rep_v hi
    split at h
    · rename_i elem es c hu
      cases hr : inRange n es.length with
      | false => rw [hr] at h; simp at h
      | true =>
        rw [hr] at h
        simp only [cond_true] at h
        obtain ⟨e, he, h⟩ := Option.bind_eq_some_iff.1 h
        cases hzz : Nat.beq e.length (szT P elem) && !Nat.beq (szT P elem) 0 with
        | false => rw [hzz] at h; simp at h
        | true =>
          rw [hzz] at h
          obtain rfl := Option.some.inj h
          rw [Bool.and_eq_true] at hzz
          have hz := Nat.eq_of_beq_eq_true hzz.1
          have hne : szT P elem ≠ 0 := by
            intro q; rw [q] at hzz; simp at hzz
          obtain ⟨r1, r2⟩ := inRange_true hr
          cases hx with
          | slnil _ => simp at he
          | @sl _ _ B o len cap _ sz val h1 h2 h3 h4 h5 h6 h7 h8 =>
            have hsz : sz = szT P elem := by rw [← h3 _ _ he]; exact hz
            obtain ⟨ie, hie⟩ := info_of_sz hne
            refine ⟨.pointer (some ⟨B, o + n.toNat * szT P elem, none⟩), ?_, ?_⟩
            · simp [Instr.indexAt, run_underlying hu, asIntOf, run_sizeOf' hie, add_mk, r1, h1, r2]
            · have hp := Rep.fp (w := w) (C := C) (cs := e) (off := 0) (B := B) (o := o + n.toNat * sz) (fun j => val n.toNat j) (fun j p hp => h4 _ _ j p he hp) (fun j p hp => h5 _ _ j p he hp)
                (fun j p hp => h6 _ _ j p he hp) (fun j p hp => h7 _ _ j p he hp)
              rw [hsz, Nat.add_zero] at hp
              exact hp
    · rename_i elem hh b off len sz hu
      cases hr : inRange n len && Nat.beq (szT P elem) sz && !Nat.beq sz 0 with
      | false => rw [hr] at h; simp at h
      | true =>
        rw [hr] at h
        obtain rfl := Option.some.inj h
        rw [Bool.and_eq_true, Bool.and_eq_true] at hr
        obtain ⟨r1, r2⟩ := inRange_true hr.1.1
        have hsz := Nat.eq_of_beq_eq_true hr.1.2
        have hne : szT P elem ≠ 0 := by
          intro q; rw [← hsz, q] at hr; simp at hr
        obtain ⟨ie, hie⟩ := info_of_sz hne
        cases hx with
        | @rs _ _ _ _ _ cap _ B arr el fr h1 h2 h3 h4 =>
          refine ⟨.pointer (some ⟨B, off + n.toNat * szT P elem, none⟩), ?_, ?_⟩
          · simp [Instr.indexAt, run_underlying hu, asIntOf, run_sizeOf' hie, add_mk, r1, r2]
          · rw [hsz]; exact .ptr h1
    · rename_i len elem hu
      cases hr : inRange n len && !Nat.beq (szT P elem) 0 with
      | false => rw [hr] at h; simp at h
      | true =>
        rw [hr] at h
        simp only [cond_true] at h
        rw [Bool.and_eq_true] at hr
        obtain ⟨r1, r2⟩ := inRange_true hr.1
        have hne : szT P elem ≠ 0 := by
          intro q; rw [q] at hr; simp at hr
        obtain ⟨ie, hie⟩ := info_of_sz hne
        obtain ⟨B, o, rfl, hrep⟩ := rep_shift h hx
        refine ⟨_, ?_, hrep⟩
        simp [Instr.indexAt, run_underlying hu, asIntOf, Instr.sureAddr, run_sizeOf' hie, add_mk, r1, r2]
    · cases h
  · cases h

theorem tells_index {t : TypeId} {x i : Value} {p q r : PV} (h : aIndex P t p q = some r) (hx : Rep w C x p) (hi : Rep w C i q) : Tells P w C (Instr.index t x i) r := by
  unfold aIndex at h
  split at h
  · obtain ⟨rfl, _⟩ := rep_v hx
    obtain ⟨rfl, _⟩ := rep_v hi
    exact tells_flat h
  · rename_i cs k n
    obtain ⟨rfl, _⟩ := rep_v hi
    split at h
    · rename_i len elem hu
      cases hr : inRange n len && Nat.beq cs.length (len * szT P elem) with
      | false => rw [hr] at h; simp at h
      | true =>
        rw [hr] at h
        simp only [cond_true] at h
        rw [Bool.and_eq_true] at hr
        obtain ⟨r1, r2⟩ := inRange_true hr.1
        cases hd : P.underlying elem with
        | none => rw [hd] at h; simp at h
        | some d =>
          rw [hd] at h
          simp only at h
          have hX := hx
          cases hx with
          | @agg _ xs _ h1 h2 h3 =>
            obtain ⟨v, hv, hrep⟩ := tells_part hd h hX
            refine ⟨v, ?_, hrep⟩
            simp [Instr.index, run_underlying hu, asIntOf, r1, r2, run_sizeOf hd, hv]
    · cases h
  · cases h

theorem tells_len {t ty : TypeId} {x : Value} {p r : PV} (h : aLen P t p = some r) (hx : Rep w C x p) : Tells P w C (Builtin.len_ #[t] ty #[x]) r := by
  unfold aLen at h
  split at h
  · split at h
    · rename_i hu
      obtain rfl := Option.some.inj h
      cases hx with
      | slnil _ => exact ⟨.int .i64 0, by simp [Builtin.len_, run_underlying hu, goInt], .v rfl⟩
      | sl sz val h1 h2 h3 h4 h5 h6 h7 h8 => exact ⟨_, by simp [Builtin.len_, run_underlying hu, goInt, h1], .v rfl⟩
    · cases h
  · split at h
    · rename_i hu
      obtain rfl := Option.some.inj h
      cases hx with
      | rs h1 h2 h3 h4 => exact ⟨_, by simp [Builtin.len_, run_underlying hu, goInt], .v rfl⟩
    · cases h
  · split at h
    · rename_i hu
      obtain ⟨rfl, _⟩ := rep_v hx
      obtain rfl := Option.some.inj h
      exact ⟨_, by simp [Builtin.len_, run_underlying hu, goInt], .v rfl⟩
    · cases h
  · cases h

theorem tells_max {ats : Array TypeId} {ty : TypeId} {x y : Value} {p q r : PV} (h : aMax2 P p q = some r) (hx : Rep w C x p) (hy : Rep w C y q) : Tells P w C (Builtin.max_ ats ty #[x, y]) r := by
  unfold aMax2 at h
  split at h
  · obtain ⟨rfl, _⟩ := rep_v hx
    obtain ⟨rfl, _⟩ := rep_v hy
    obtain ⟨v, hv, hr⟩ := tells_flat (w := w) (C := C) h
    exact ⟨v, by simpa [Builtin.max_] using hv, hr⟩
  · cases h
theorem tells_min {ats : Array TypeId} {ty : TypeId} {x y : Value} {p q r : PV} (h : aMin2 P p q = some r) (hx : Rep w C x p) (hy : Rep w C y q) : Tells P w C (Builtin.min_ ats ty #[x, y]) r := by
  unfold aMin2 at h
  split at h
  · obtain ⟨rfl, _⟩ := rep_v hx
    obtain ⟨rfl, _⟩ := rep_v hy
    obtain ⟨v, hv, hr⟩ := tells_flat (w := w) (C := C) h
    exact ⟨v, by simpa [Builtin.min_] using hv, hr⟩
  · cases h

theorem tells_nilCheck {x : Value} {p r : PV} (h : aNilCheck p = some r) (hx : Rep w C x p) : (∀ (o : Oper) (ρ : Operand → Value) (y : Operand), o.op = .nilCheck y → ρ y = x → (execOp ρ o).run P w = .ok (.value x) w) ∧ Rep w C x r := by
  unfold aNilCheck at h
  split at h
  · cases hx with
    | ptr hb =>
      obtain rfl := Option.some.inj h
      exact ⟨fun o ρ y ho hy => by simp [execOp, ho, hy], .ptr hb⟩
  · cases hx with
    | fp val h1 h2 h3 h4 =>
      obtain rfl := Option.some.inj h
      exact ⟨fun o ρ y ho hy => by simp [execOp, ho, hy], .fp val h1 h2 h3 h4⟩
  · cases hx with
    | clo h1 h3 =>
      obtain rfl := Option.some.inj h
      exact ⟨fun o ρ y ho hy => by simp [execOp, ho, hy], .clo h1 h3⟩
  · cases hx with
    | yld h1 =>
      obtain rfl := Option.some.inj h
      exact ⟨fun o ρ y ho hy => by simp [execOp, ho, hy], .yld h1⟩
  · cases h

/-! ### a value's cells -/
theorem rep_cells {x : Value} {p : PV} {cs : List PV} (h : cellsOf p = some cs) (hx : Rep w C x p) :
    x.cells.size = cs.length ∧ (∀ (i : Nat) (y : Value), x.cells[i]? = some y → y.oneCell' = true) ∧ (∀ (i : Nat) (y : Value) (q : PV), x.cells[i]? = some y → cs[i]? = some q → Rep w C y q) := by
  have one : cellLike p = true → cs = [p] → x.cells.size = cs.length ∧ (∀ (i : Nat) (y : Value), x.cells[i]? = some y → y.oneCell' = true) ∧ (∀ (i : Nat) (y : Value) (q : PV), x.cells[i]? = some y → cs[i]? = some q → Rep w C y q) := by
    intro hp hcs
    have ho := hx.oneCell hp
    have hc : x.cells = #[x] := by cases x <;> first | rfl | (simp [Value.oneCell'] at ho)
    subst hcs
    rw [hc]
    refine ⟨rfl, fun i y hy => ?_, fun i y q hy hq => ?_⟩
    · cases i with
      | zero => simp at hy; subst hy; exact ho
      | succ i => simp at hy
    · cases i with
      | zero => simp at hy hq; subst hy; subst hq; exact hx
      | succ i => simp at hy
  cases p with
  | agg ds =>
    obtain rfl := Option.some.inj h
    cases hx with
    | agg h1 h2 h3 => exact ⟨h1, h2, h3⟩
  | tup _ => cases h
  | u => cases h
  | v _ => exact one rfl (Option.some.inj h).symm
  | ptr _ _ _ => exact one rfl (Option.some.inj h).symm
  | fp _ _ => exact one rfl (Option.some.inj h).symm
  | sl _ _ => exact one rfl (Option.some.inj h).symm
  | clo _ _ => exact one rfl (Option.some.inj h).symm
  | rs _ _ _ _ _ => exact one rfl (Option.some.inj h).symm
  | ni => exact one rfl (Option.some.inj h).symm
  | it _ => exact one rfl (Option.some.inj h).symm

/-- Rows of cells, one held against the other. -/
structure RepCells (w : World) (C : Ctx) (arr : Array Value) (cs : List PV) : Prop where
  size : arr.size = cs.length
  one : ∀ (i : Nat) (y : Value), arr[i]? = some y → y.oneCell' = true
  rep : ∀ (i : Nat) (y : Value) (q : PV), arr[i]? = some y → cs[i]? = some q → Rep w C y q

theorem RepCells.laid {arr : Array Value} {cs ds : List PV} {vs : List Value} {off : Nat} (h : RepCells w C arr cs) (g : RepCells w C vs.toArray ds) (hr : off + ds.length ≤ cs.length) :
    RepCells w C (laidA arr off vs) (laid cs off ds) := by
  have hl : vs.length = ds.length := by simpa using g.size
  have hs := h.size
  refine ⟨by rw [laidA_size, laid_length, hs], fun i y hy => ?_, fun i y q hy hq => ?_⟩
  · rw [laidA_get vs arr off i (by omega)] at hy
    split at hy
    · exact g.one _ y (by simpa using hy)
    · exact h.one i y hy
  · rw [laidA_get vs arr off i (by omega)] at hy
    rw [laid_get ds cs off i (by omega), ← hl] at hq
    split at hy
    · rename_i hin; rw [if_pos hin] at hq; exact g.rep _ y q (by simpa using hy) hq
    · rename_i hin; rw [if_neg hin] at hq; exact h.rep i y q hy hq

theorem zip_fold (off : Nat) : ∀ (vs : List Value) (k : Nat) (cells : Array Value), (vs.zipIdx k).foldl (fun (cs : Array Value) (q : Value × Nat) => cs.setIfInBounds (off + q.2) q.1) cells = laidA cells (off + k) vs
  | [], _, _ => rfl
  | v :: vs, k, cells => by
    rw [List.zipIdx_cons, List.foldl_cons, zip_fold off vs (k + 1)]
    rfl

theorem run_fill (place : Nat → Option (Nat × Nat)) : ∀ (ps : List (Nat × PV)) (vs : List (Nat × Value)) (arr : Array Value) (cs ds : List PV),
    fillP place cs ps = some ds → RepCells w C arr cs → vs.length = ps.length → (∀ (i : Nat) (a : Nat × Value) (b : Nat × PV), vs[i]? = some a → ps[i]? = some b → a.1 = b.1 ∧ Rep w C a.2 b.2) →
    ∃ arr', Instr.fill place arr vs = some arr' ∧ RepCells w C arr' ds
  | [], vs, arr, cs, ds, h, hc, hl, hp => by
    obtain rfl := Option.some.inj h
    have : vs = [] := List.length_eq_zero_iff.1 (by simpa using hl)
    subst this
    exact ⟨arr, rfl, hc⟩
  | (i, p) :: ps, vs, arr, cs, ds, h, hc, hl, hp => by
    match vs, hl, hp with
    | (j, v) :: vs, hl, hp =>
      obtain ⟨e1, e2⟩ := hp 0 (j, v) (i, p) rfl rfl
      simp only at e1 e2
      subst e1
      simp only [fillP] at h
      split at h
      · rename_i off size cs' hpl hcs'
        cases hb : Nat.beq cs'.length size && Nat.ble (off + size) cs.length with
        | false => rw [hb] at h; simp at h
        | true =>
          rw [hb] at h
          simp only [cond_true] at h
          rw [Bool.and_eq_true] at hb
          have b1 := Nat.eq_of_beq_eq_true hb.1
          have b2 := Nat.le_of_ble_eq_true hb.2
          obtain ⟨c1, c2, c3⟩ := rep_cells hcs' e2
          have hg : RepCells w C (v.cells.toList.toArray) cs' := ⟨by simpa using c1, by simpa using c2, by simpa using c3⟩
          have hnew := hc.laid hg (off := off) (by omega)
          obtain ⟨arr', f1, f2⟩ := run_fill place ps vs _ _ ds h hnew (by simpa using hl) fun k a b ha hb => hp (k + 1) a b (by simpa using ha) (by simpa using hb)
          refine ⟨arr', ?_, f2⟩
          simp only [Instr.fill, hpl]
          rw [if_neg (by have := hc.size; simp; omega)]
          have hfold : (v.cells.zipIdx.foldl (fun (cs : Array Value) (q : Value × Nat) => cs.setIfInBounds (off + q.2) q.1) arr) = laidA arr off v.cells.toList := by
            rw [← Array.foldl_toList, Array.toList_zipIdx]
            exact zip_fold off v.cells.toList 0 arr
          rw [← f1, ← hfold]
      · cases h
    | [], hl, _ => simp at hl

theorem zero_rep {t : TypeId} {z : List PV} (h : zeroT P t = some z) : ∃ i v, P.info? t = some i ∧ i.zero = some v ∧ RepCells w C v.cells z := by
  unfold zeroT at h
  split at h
  · rename_i i hi
    split at h
    · rename_i v hv
      cases hb : v.cells.toList.all Value.oneCell' with
      | false => rw [hb] at h; simp at h
      | true =>
        rw [hb] at h
        obtain rfl := Option.some.inj h
        refine ⟨i, v, hi, hv, ⟨by simp, fun k y hy => ?_, fun k y q hy hq => ?_⟩⟩
        · rw [List.all_eq_true] at hb
          exact hb y (List.mem_of_getElem? (by simpa using hy))
        · obtain ⟨y', hy', rfl⟩ := getElem?_map_some hq
          rw [Array.getElem?_toList, hy] at hy'
          obtain rfl := Option.some.inj hy'
          exact rep_leaf w C y
    · cases h
  · cases h

theorem repcells_agg {arr : Array Value} {cs : List PV} (h : RepCells w C arr cs) : Rep w C (.agg arr) (.agg cs) := .agg h.size h.one h.rep

theorem tells_build {t : TypeId} {vs : Array (Nat × Value)} {ps : List (Nat × PV)} {r : PV} (h : aBuild P t ps = some r) (hl : vs.size = ps.length)
    (hp : ∀ (i : Nat) (a : Nat × Value) (b : Nat × PV), vs[i]? = some a → ps[i]? = some b → a.1 = b.1 ∧ Rep w C a.2 b.2) : Tells P w C (Instr.build t vs) r := by
  unfold aBuild at h
  obtain ⟨z, hz, h⟩ := Option.bind_eq_some_iff.1 h
  obtain ⟨it, zv, hi, hzv, hzc⟩ := zero_rep (w := w) (C := C) hz
  have hl' : vs.toList.length = ps.length := by simpa using hl
  have hp' : ∀ (i : Nat) (a : Nat × Value) (b : Nat × PV), vs.toList[i]? = some a → ps[i]? = some b → a.1 = b.1 ∧ Rep w C a.2 b.2 := fun i a b ha hb => hp i a b (by simpa using ha) hb
  split at h
  · rename_i fields hu
    obtain ⟨pl, hpl, h⟩ := Option.bind_eq_some_iff.1 h
    obtain ⟨cs, hcs, h⟩ := Option.bind_eq_some_iff.1 h
    obtain rfl := Option.some.inj h
    obtain ⟨arr, ha, hr⟩ := run_fill _ ps vs.toList _ z cs hcs hzc hl' hp'
    refine ⟨.agg arr, run_build w t vs arr ?_, repcells_agg hr⟩
    unfold placesOf at hpl
    simp only [Program.built, hi, hu, hzv, hpl]
    exact ha
  · rename_i n e hu
    split at h
    · rename_i ie hie
      obtain ⟨cs, hcs, h⟩ := Option.bind_eq_some_iff.1 h
      obtain rfl := Option.some.inj h
      obtain ⟨arr, ha, hr⟩ := run_fill _ ps vs.toList _ z cs hcs hzc hl' hp'
      refine ⟨.agg arr, run_build w t vs arr ?_, repcells_agg hr⟩
      simp only [Program.built, hi, hu, hzv, hie]
      exact ha
    · cases h
  · cases h

end
end Go.AM
