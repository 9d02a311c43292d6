/- The abstract machine: rows made of parts, and what is read of a slice. No condition. -/
import Derived.Test.YtkbhejcfejembaaM9
import Derived.Laws.Append
import Derived.Laws.MakeOwn
import Derived.Laws.RangeString
import Derived.Lib.ConvBytes
import Derived.Lib.OthersKept
set_option linter.all false
set_option linter.unusedVariables false
namespace Go.AM
open Go Go.RowKit

section
variable {P : Program} {w : World} {C : Ctx} {st : St} {bs : List (Nat × Nat × Nat)}

theorem Sim.more (H : Sim w C st bs) {X : Nat → Nat → Prop} (hX : ∀ B o, X B o → B < w.heap.size ∧ (∀ a b cs, C.σ a b = some B → st.blk a b = some cs → cs = []) ∧ ∀ h t B' f to e s, C.tl h t = some (B', f, to, e, s) → f ≤ o → o < to → B' ≠ B) :
    Sim w ⟨fun B o => C.S B o ∨ X B o, C.σ, C.tl, C.lp, C.N⟩ st bs ∧ Ext w C w ⟨fun B o => C.S B o ∨ X B o, C.σ, C.tl, C.lp, C.N⟩ := by
  have hx : Ext w C w ⟨fun B o => C.S B o ∨ X B o, C.σ, C.tl, C.lp, C.N⟩ :=
    Ext.same rfl (fun _ _ x => Or.inl x) (fun _ _ _ x => x) (fun _ _ B f to e _ x => ⟨B, f, to, e, x, Nat.le_refl _, fun _ => ⟨rfl, rfl, rfl⟩⟩) (fun _ _ x => x)
  refine ⟨⟨?_, H.dom, H.inj, ?_, ?_, H.tokdom, H.disj, H.bnd, H.low, ?_, H.lpdom, H.lpinj⟩, hx⟩
  · intro h' b' ds hd
    obtain ⟨B2, arr2, elem2, fr2, c1, c2, c3, c4, c5, c6, c7, c8⟩ := H.blk h' b' ds hd
    refine ⟨B2, arr2, elem2, fr2, c1, c2, c3, c4, ?_, c6, fun o x p hx' hp => (c7 o x p hx' hp).mono hx, fun m t l hm hbm o x p hx' hp => (c8 m t l hm hbm o x p hx' hp).mono (hx.cut m t l)⟩
    rintro hne o (x | x)
    · exact c5 hne o x
    · exact hne ((hX _ _ x).2.1 _ _ _ c1 hd)
  · rintro B2 o (x | x)
    · exact H.Sok B2 o x
    · exact (hX _ _ x).1
  · intro h' t' B' f' to' e' s' x
    refine ⟨(H.tok h' t' B' f' to' e' s' x).1, fun o h1 h2 => ?_⟩
    obtain ⟨g1, g2, g3⟩ := (H.tok h' t' B' f' to' e' s' x).2 o h1 h2
    exact ⟨fun z => z.elim g1 fun z => (hX _ _ z).2.2 h' t' B' f' to' e' s' x h1 h2 rfl, g2, g3⟩
  · intro i r hr
    obtain ⟨B2, h1, h2⟩ := H.lps i r hr
    exact ⟨B2, h1, h2.mono hx fun _ a _ => a⟩

theorem Sim.tail_lt (H : Sim w C st bs) {h : Ow} {t B f to e s o : Nat} (x : C.tl h t = some (B, f, to, e, s)) (h1 : f ≤ o) (h2 : o < to) : B < w.heap.size := by
  obtain ⟨_, _, arr, elem, fr, g, _⟩ := (H.tok h t B f to e s x).2 o h1 h2
  exact (Array.getElem?_eq_some_iff.1 g).1

/-- A world with one object more. -/
theorem Sim.one (H : Sim w C st bs) {w' : World} {ob : Obj} (hh : w'.heap = w.heap.push ob) (e1 : w'.os = w.os) (e2 : w'.tape = w.tape) (e3 : w'.output = w.output) : Sim w' C st bs ∧ Ext w C w' C := by
  obtain ⟨h1, h2⟩ := H.alloc ob
  obtain ⟨g1, g2⟩ := h1.heap (w' := w') hh e1 e2 e3
  exact ⟨g1, h2.trans g2⟩

/-- A new row, whose first n cells stay. -/
theorem Sim.fresh (H : Sim w C st bs) {w' : World} {arr : Array Value} {elem : TypeId} {fr : Nat × Nat} (n : Nat) (hh : w'.heap = w.heap.push (.cells arr elem fr)) (e1 : w'.os = w.os) (e2 : w'.tape = w.tape) (e3 : w'.output = w.output) :
    ∃ C', Sim w' C' st bs ∧ Ext w C w' C' ∧ (∀ o, o < n → C'.S w.heap.size o) ∧ C'.fz.σ = C.fz.σ := by
  obtain ⟨h1, h2⟩ := H.one hh e1 e2 e3
  obtain ⟨g1, g2⟩ := h1.more (X := fun B o => B = w.heap.size ∧ o < n) (by
    rintro B o ⟨rfl, ho⟩
    refine ⟨by rw [hh]; simp, fun a b cs q _ => ?_, fun h t B' f to e s x y z q => ?_⟩
    · have := H.σlt q; omega
    · have := H.tail_lt x y z; omega)
  exact ⟨_, g1, h2.trans g2, fun o ho => Or.inr ⟨rfl, ho⟩, rfl⟩

theorem chunks_get (sz : Nat) : ∀ (n : Nat) (cs : List PV) (i : Nat) (e : List PV), cs.length = n * sz → (chunks sz n cs)[i]? = some e → i < n ∧ e.length = sz ∧ ∀ (j : Nat) (p : PV), e[j]? = some p → cs[i * sz + j]? = some p
  | 0, cs, i, e, hl, h => by simp [chunks] at h
  | n + 1, cs, i, e, hl, h => by
    have hl' : cs.length = n * sz + sz := by rw [hl, Nat.succ_mul]
    cases i with
    | zero =>
      simp [chunks] at h
      subst h
      refine ⟨by omega, by simp; omega, fun j p hp => ?_⟩
      rw [List.getElem?_take] at hp
      split at hp
      · simpa using hp
      · cases hp
    | succ i =>
      simp [chunks] at h
      obtain ⟨h1, h2, h3⟩ := chunks_get sz n (cs.drop sz) i e (by simp; omega) h
      refine ⟨by omega, h2, fun j p hp => ?_⟩
      have := h3 j p hp
      rw [List.getElem?_drop] at this
      rw [← this]
      congr 1
      rw [Nat.succ_mul]; omega
theorem chunks_length (sz : Nat) : ∀ (n : Nat) (cs : List PV), (chunks sz n cs).length = n
  | 0, _ => rfl
  | n + 1, cs => by simp [chunks, chunks_length sz n]

theorem reps_get (z : List PV) : ∀ (n i : Nat), z.length ≠ 0 → i < n * z.length → (reps n z)[i]? = z[i % z.length]?
  | 0, i, _, h => by simp at h
  | n + 1, i, hz, h => by
    rw [Nat.succ_mul] at h
    simp only [reps]
    rw [List.getElem?_append]
    split
    · rename_i hlt; rw [Nat.mod_eq_of_lt hlt]
    · rename_i hge
      rw [reps_get z n (i - z.length) hz (by omega)]
      congr 1
      conv => rhs; rw [show i = (i - z.length) + z.length by omega, Nat.add_mod_right]
theorem reps_length (z : List PV) : ∀ n, (reps n z).length = n * z.length
  | 0 => by simp [reps]
  | n + 1 => by simp [reps, reps_length z n, Nat.succ_mul]; omega

/-- All of a row is read as elements. -/
theorem rep_row {w : World} {C : Ctx} {B sz n : Nat} {cs ds : List PV} {arr : Array Value} (hc : RepCells w C.fz arr ds) (hn : ds.length = n * sz) (hS : ∀ o, o < n * sz → C.S B o)
    (hcell : ∀ o, o < n * sz → w.cell? ⟨B, o, none⟩ = arr[o]?) (c : Cap) (hcap : CapRep C (some ⟨B, 0, none⟩) n n sz c) : Rep w C (.slice (some ⟨B, 0, none⟩) n n) (.sl (chunks sz n ds) c) := by
  have hlt : ∀ (i j : Nat) (e : List PV) (p : PV), (chunks sz n ds)[i]? = some e → e[j]? = some p → ds[i * sz + j]? = some p ∧ i * sz + j < n * sz := by
    intro i j e p he hp
    obtain ⟨h1, h2, h3⟩ := chunks_get sz n ds i e hn he
    have := h3 j p hp
    exact ⟨this, by rw [← hn]; exact (List.getElem?_eq_some_iff.1 this).1⟩
  have hval : ∀ k, k < n * sz → arr[k]? = some (arr[k]?.getD .nilFunc) := by
    intro k hk
    have : k < arr.size := by rw [hc.size, hn]; exact hk
    rw [Array.getElem?_eq_getElem this]; rfl
  refine .sl sz (fun i j => arr[i * sz + j]?.getD .nilFunc) (chunks_length sz n ds).symm (Nat.le_refl _) (fun i e he => (chunks_get sz n ds i e hn he).2.1) ?_ ?_ ?_ ?_ hcap
  · intro i e j p he hp
    rw [Nat.zero_add]
    exact hS _ (hlt i j e p he hp).2
  · intro i e j p he hp
    rw [Nat.zero_add, hcell _ (hlt i j e p he hp).2]
    exact hval _ (hlt i j e p he hp).2
  · intro i e j p he hp
    exact hc.one _ _ (hval _ (hlt i j e p he hp).2)
  · intro i e j p he hp
    exact hc.rep _ _ p (hval _ (hlt i j e p he hp).2) (hlt i j e p he hp).1

theorem rep_zeros {e : TypeId} {z : List PV} {zv : Value} (n : Nat) (hzc : RepCells w C zv.cells z) (b1 : z.length = szT P e) (hne : szT P e ≠ 0) :
    RepCells w C ((Array.range (n * szT P e)).map (fun i => zv.cells[i % zv.cells.size]!)) (reps n z) := by
  have hzs := hzc.size
  have hget : ∀ (i : Nat) (y : Value), ((Array.range (n * szT P e)).map (fun i => zv.cells[i % zv.cells.size]!))[i]? = some y → i < n * szT P e ∧ zv.cells[i % z.length]? = some y := by
    intro i y hy
    rw [Array.getElem?_map] at hy
    obtain ⟨k, hk, rfl⟩ := Option.map_eq_some_iff.1 hy
    have hk' := Array.getElem?_eq_some_iff.1 hk
    obtain ⟨hk1, hk2⟩ := hk'
    simp at hk1 hk2
    subst hk2
    have hlt : i % zv.cells.size < zv.cells.size := Nat.mod_lt _ (by omega)
    refine ⟨hk1, ?_⟩
    rw [← hzs]
    rw [Array.getElem?_eq_getElem hlt, getElem!_pos zv.cells _ hlt]
  refine ⟨by simp [reps_length, b1], fun i y hy => hzc.one _ y (hget i y hy).2, fun i y q hy hq => ?_⟩
  obtain ⟨h1, h2⟩ := hget i y hy
  rw [reps_get z n i (by omega) (by rw [b1]; exact h1)] at hq
  exact hzc.rep _ y q h2 hq

theorem fillP_length {place : Nat → Option (Nat × Nat)} : ∀ (ps : List (Nat × PV)) (a b : List PV), fillP place a ps = some b → b.length = a.length
  | [], a, b, h => by obtain rfl := Option.some.inj h; rfl
  | (i, p) :: ps, a, b, h => by
    simp only [fillP] at h
    split at h
    · rename_i off size cs' _ _
      cases hb : Nat.beq cs'.length size && Nat.ble (off + size) a.length with
      | false => rw [hb] at h; simp at h
      | true => rw [hb] at h; rw [fillP_length ps _ _ h, laid_length]
    · cases h

/-- The cells of a slice's literal. -/
theorem lit_ok {t : TypeId} {n : Nat} {vs : Array (Nat × Value)} {ps : List (Nat × PV)} {r : List PV × Nat} (h : litCells P t n ps = some r) (hl : vs.size = ps.length)
    (hp : ∀ (i : Nat) (a : Nat × Value) (b : Nat × PV), vs[i]? = some a → ps[i]? = some b → a.1 = b.1 ∧ Rep w C a.2 b.2) :
    ∃ e arr, (Instr.buildSlice t n vs).run P w = .ok (.slice (some ⟨w.heap.size, 0, none⟩) n n) { w with heap := w.heap.push (.cells arr e (0, 0)) } ∧ r.1.length = n * r.2 ∧ r.2 ≠ 0 ∧ P.underlying t = some (.slice e) ∧ r.2 = szT P e ∧
      ∀ C' : Ctx, C'.S = C.S → C'.fz = C.fz → RepCells w C' arr r.1 := by
  unfold litCells at h
  split at h
  · rename_i e hu
    obtain ⟨z, hz, h⟩ := Option.bind_eq_some_iff.1 h
    cases hb : Nat.beq z.length (szT P e) && Nat.ble (n * szT P e) 16777216 && !Nat.beq (szT P e) 0 with
    | false => rw [hb] at h; simp at h
    | true =>
      rw [hb] at h
      simp only [cond_true] at h
      obtain ⟨cs, hcs, h⟩ := Option.bind_eq_some_iff.1 h
      obtain ⟨ds, hds, h⟩ := Option.bind_eq_some_iff.1 h
      obtain rfl := Option.some.inj h
      rw [Bool.and_eq_true, Bool.and_eq_true] at hb
      have b1 := Nat.eq_of_beq_eq_true hb.1.1
      have b2 := Nat.le_of_ble_eq_true hb.1.2
      have hne : szT P e ≠ 0 := by intro q; rw [q] at hb; simp at hb
      obtain ⟨it, zv, hi, hzv, hzc⟩ := zero_rep (w := w) (C := C) hz
      obtain ⟨ie, hie⟩ := info_of_sz hne
      have hzs := hzc.size
      have hrow := rep_zeros (P := P) (e := e) n hzc b1 hne
      obtain ⟨arr, f1, f2⟩ := run_fill _ ps vs.toList _ _ cs hcs hrow (by simpa using hl) fun i a b ha hb => hp i a b (by simpa using ha) hb
      have hcl : cs.length = n * szT P e := by rw [fillP_length _ _ _ hcs, reps_length, b1]
      obtain ⟨p1, p2⟩ := plainCs_get hds
      refine ⟨e, arr, ?_, by simp only; rw [p1]; exact hcl, hne, hu, rfl, fun C' hS hfz => ⟨by simp only; rw [p1]; exact f2.size, f2.one, fun i y q hy hq => ?_⟩⟩
      · simp only [Instr.buildSlice, Sem.run_bind, run_underlying hu, Result.andThen_ok, run_sizeOf' hie]
        rw [if_neg (by omega)]
        by_cases q : n * szT P e = 0
        · rw [if_pos q]
          simp only [Sem.run_bind, Sem.run_pure, Result.andThen_ok]
          have hs : Array.map (fun x => (#[] : Array Value)[x % (#[] : Array Value).size]!) (Array.range (n * szT P e)) = Array.map (fun i => zv.cells[i % zv.cells.size]!) (Array.range (n * szT P e)) := by
            rw [q]; simp
          rw [hs, f1]
          simp [newRow]
        · rw [if_neg q]
          have hz' : (zeroValue e).run P w = .ok zv w := by simp [zeroValue, typeInfo, hi, hzv]
          simp only [Sem.run_bind, Sem.run_pure, Result.andThen_ok, hz']
          rw [f1]
          simp [newRow]
      · obtain ⟨p, hp1, hp2⟩ := p2 i q hq
        exact plain_rep hp2 (f2.rep i y p hy hp1) hS hfz
  · cases h

/-- An operation's answer, and memory behind it. -/
def Lays (P : Program) (w : World) (C : Ctx) (bs : List (Nat × Nat × Nat)) (s : Sem Value) (p : PV) (st' : St) : Prop := ∃ v w' C', s.run P w = .ok v w' ∧ Sim w' C' st' bs ∧ Ext w C w' C' ∧ Rep w' C' v p
theorem Tells.lays {s : Sem Value} {p : PV} (h : Tells P w C s p) (H : Sim w C st bs) : Lays P w C bs s p st := by
  obtain ⟨v, h1, h2⟩ := h
  exact ⟨v, w, C, h1, H, Ext.refl w C, h2⟩

theorem buildSlice_ok (H : Sim w C st bs) {t : TypeId} {n : Nat} {vs : Array (Nat × Value)} {ps : List (Nat × PV)} {r : PV} (h : aBuildSlice P t n ps = some r) (hl : vs.size = ps.length)
    (hp : ∀ (i : Nat) (a : Nat × Value) (b : Nat × PV), vs[i]? = some a → ps[i]? = some b → a.1 = b.1 ∧ Rep w C a.2 b.2) : Lays P w C bs (Instr.buildSlice t n vs) r st := by
  unfold aBuildSlice at h
  obtain ⟨q, hq, h⟩ := Option.bind_eq_some_iff.1 h
  obtain rfl := Option.some.inj h
  obtain ⟨e, arr, k1, k2, k3, _, _, k4⟩ := lit_ok hq hl hp
  obtain ⟨C', s1, s2, s3, s4⟩ := H.fresh (n * q.2) (w' := { w with heap := w.heap.push (.cells arr e (0, 0)) }) rfl rfl rfl rfl
  refine ⟨_, _, C', k1, s1, s2, ?_⟩
  have hdc := k4 C.fz rfl (Ctx.fz_fz C)
  have hC : RepCells { w with heap := w.heap.push (.cells arr e (0, 0)) } C'.fz arr q.1 := ⟨hdc.size, hdc.one, fun i y q hy hq => (hdc.rep i y q hy hq).mono s2.fz⟩
  refine rep_row (cs := q.1) hC k2 (fun o ho => s3 o ho) (fun o ho => ?_) .full rfl
  simp [World.cell?]

theorem buildRow_ok (H : Sim w C st bs) {h : Bool} {t : TypeId} {n : Nat} {vs : Array (Nat × Value)} {ps : List (Nat × PV)} {r : PV × St} (hb : aBuildRow P h t n ps st = some r) (hl : vs.size = ps.length)
    (hp : ∀ (i : Nat) (a : Nat × Value) (b : Nat × PV), vs[i]? = some a → ps[i]? = some b → a.1 = b.1 ∧ Rep w C a.2 b.2) : Lays P w C bs (Instr.buildSlice t n vs) r.1 r.2 := by
  unfold aBuildRow at hb
  obtain ⟨q, hq, hb⟩ := Option.bind_eq_some_iff.1 hb
  obtain rfl := Option.some.inj hb
  obtain ⟨e, arr, k1, k2, k3, _, _, k4⟩ := lit_ok hq hl hp
  have hC := k4 C rfl rfl
  obtain ⟨k5, k6⟩ := H.lay h arr e q.1 (Nat.le_of_eq hC.size.symm) hC.one hC.rep fun m t l hm hh o x p a b => (k4 (C.cut m t l) rfl (C.cut_fz m t l)).rep o x p a b
  refine ⟨_, _, _, k1, k5, k6, .rs (arr := arr) (elem := e) (fr := (0, 0)) (by simp [Ctx.lay]) (Nat.le_refl _) (by simp) (by rw [hC.size, k2]; omega)⟩

theorem makeSlice_ok (H : Sim w C st bs) {h : Bool} {t : TypeId} {x y : Value} {p q : PV} {r : PV × St} (hm : aMakeSlice P h t p q st = some r) (hx : Rep w C x p) (hy : Rep w C y q) : Lays P w C bs (Instr.makeSlice t x y) r.1 r.2 := by
  unfold aMakeSlice at hm
  split at hm
  · rename_i e k n k' m hu
    obtain ⟨rfl, _⟩ := rep_v hx
    obtain ⟨rfl, _⟩ := rep_v hy
    obtain ⟨z, hz, hm⟩ := Option.bind_eq_some_iff.1 hm
    cases hb : decide (0 ≤ n) && decide (n = m) && Nat.ble (n.toNat * byT P e) maxLenB && Nat.ble (n.toNat) maxLenB && Nat.beq z.length (szT P e) && !Nat.beq (szT P e) 0 with
    | false => rw [hb] at hm; simp at hm
    | true =>
      rw [hb] at hm
      obtain rfl := Option.some.inj hm
      simp only [Bool.and_eq_true, decide_eq_true_eq] at hb
      obtain ⟨⟨⟨⟨⟨b1, rfl⟩, b3⟩, b4⟩, b5⟩, b6⟩ := hb
      have b3 := Nat.le_of_ble_eq_true b3
      have b4 := Nat.le_of_ble_eq_true b4
      have b5 := Nat.eq_of_beq_eq_true b5
      have hne : szT P e ≠ 0 := by intro q; rw [q] at b6; simp at b6
      obtain ⟨it, zv, hi, hzv, hzc⟩ := zero_rep (w := w) (C := C) hz
      have hby : byT P e = it.bytes := by
        have : zv.cells.size = it.size := by rw [hzc.size, b5, szT_eq hi]
        simp only [byT, hi, hzv, this, Nat.beq_refl, cond_true]
      have hs := szT_eq hi
      obtain ⟨k, rfl⟩ : ∃ k : Nat, n = k := ⟨n.toNat, by omega⟩
      simp only [Int.toNat_natCast, hby, maxLenB] at b3 b4
      have hrow := rep_zeros (P := P) (e := e) k hzc b5 hne
      have hcut : ∀ C' : Ctx, RepCells w C' ((Array.range (k * szT P e)).map (fun i => zv.cells[i % zv.cells.size]!)) (reps k z) := fun C' => by
        obtain ⟨it', zv', hi', hzv', hzc'⟩ := zero_rep (w := w) (C := C') hz
        rw [hi] at hi'; cases hi'
        rw [hzv] at hzv'; cases hzv'
        exact rep_zeros (P := P) (e := e) k hzc' b5 hne
      obtain ⟨k5, k6⟩ := H.lay h ((Array.range (k * szT P e)).map (fun i => zv.cells[i % zv.cells.size]!)) e (reps k z) (Nat.le_of_eq hrow.size.symm) hrow.one hrow.rep fun m t l hm hh o x p a b => (hcut (C.cut m t l)).rep o x p a b
      refine ⟨.slice (some ⟨w.heap.size, 0, none⟩) k k, _, _, ?_, k5, k6, ?_⟩
      · have hbig : (it.bytes : Int) * (k : Int) ≤ 281474976710656 := by
          have : (it.bytes : Int) * (k : Int) = ((k * it.bytes : Nat) : Int) := by rw [Int.natCast_mul, Int.mul_comm]
          rw [this]; omega
        have := run_make (P := P) w t e it zv hu hi hzv ‹_› ‹_› (k : Int) (k : Int) (by omega) (Int.le_refl _) hbig (by omega)
        simp only [Int.toNat_natCast] at this
        rw [hs]
        exact this
      · refine .rs (arr := ((Array.range (k * szT P e)).map (fun i => zv.cells[i % zv.cells.size]!))) (elem := e) (fr := (0, 0)) (by simp [Ctx.lay]) (Nat.le_refl _) (by simp) (by simp)
  · cases hm

/-! ### the cells of a slice's elements -/
theorem bytesEs_get (s : ByteArray) (i : Nat) (e : List PV) (h : (bytesEs s)[i]? = some e) : ∃ b, s.data[i]? = some b ∧ e = [.v (.int .u8 b.toNat)] := by
  obtain ⟨b, hb, rfl⟩ := getElem?_map_some h
  exact ⟨b, by simpa using hb, rfl⟩


theorem rsCells_some {h : Bool} {b off n : Nat} {cs : List PV} (e : rsCells st h b off n = some cs) : ∃ old, st.blk h b = some old ∧ off + n ≤ old.length ∧ cs = (old.drop off).take n := by
  unfold rsCells at e
  obtain ⟨old, ho, e⟩ := Option.bind_eq_some_iff.1 e
  cases hb : Nat.ble (off + n) old.length with
  | false => rw [hb] at e; simp at e
  | true => rw [hb] at e; exact ⟨old, ho, Nat.le_of_ble_eq_true hb, (Option.some.inj e).symm⟩

theorem divmod_lt {n sz k : Nat} (hk : k < n * sz) : 0 < sz ∧ k / sz < n ∧ k % sz < sz ∧ k / sz * sz + k % sz = k := by
  have hsz : 0 < sz := by
    rcases Nat.eq_zero_or_pos sz with q | q
    · subst q; simp at hk
    · exact q
  exact ⟨hsz, by rw [Nat.div_lt_iff_lt_mul hsz]; exact hk, Nat.mod_lt _ hsz, by rw [Nat.mul_comm]; exact Nat.div_add_mod k sz⟩
theorem idx_lt {n i j sz : Nat} (hi : i < n) (hj : j < sz) : i * sz + j < n * sz := by
  have : (i + 1) * sz ≤ n * sz := Nat.mul_le_mul_right _ hi
  rw [Nat.succ_mul] at this
  omega
theorem idx_div {i j sz : Nat} (hj : j < sz) : (i * sz + j) / sz = i ∧ (i * sz + j) % sz = j := by
  constructor
  · rw [Nat.mul_comm, Nat.mul_add_div (by omega), Nat.div_eq_of_lt hj]; rfl
  · rw [Nat.mul_comm, Nat.mul_add_mod]; exact Nat.mod_eq_of_lt hj

theorem okSz_get' {sz : Nat} {ys : List (List PV)} (hok : okSz sz ys = true) {i : Nat} {e : List PV} {j : Nat} {p : PV} (he : ys[i]? = some e) (hp : e[j]? = some p) : i < ys.length ∧ j < sz := by
  have hj := (List.getElem?_eq_some_iff.1 hp).1
  rw [okSz_get hok he] at hj
  exact ⟨(List.getElem?_eq_some_iff.1 he).1, hj⟩

/-- The first cells of what a slice holds. -/
theorem run_first (H : Sim w C st bs) {sz : Nat} {x : Value} {q : PV} {ys : List (List PV)} (h : elemsOf st q = some ys) (hok : okSz sz ys = true) (hx : Rep w C x q) :
    (Builtin.lenOf x).run P w = .ok ys.length w ∧ ∀ n, n ≤ ys.length → ∃ vs : Array Value, (Builtin.firstCells sz n x).run P w = .ok vs w ∧ vs.size = n * sz ∧
      ∀ (i : Nat) (e : List PV) (j : Nat) (p : PV), i < n → ys[i]? = some e → e[j]? = some p → ∃ y, vs[i * sz + j]? = some y ∧ y.oneCell' = true ∧ Rep w C.fz y p := by
  -- off one row of cells
  have row : ∀ (B o : Nat) (f : Nat → Value) (n : Nat), n ≤ ys.length → (∀ k, k < ys.length * sz → w.cell? ⟨B, o + k, none⟩ = some (f k)) →
      (∀ (i : Nat) (e : List PV) (j : Nat) (p : PV), ys[i]? = some e → e[j]? = some p → (f (i * sz + j)).oneCell' = true ∧ Rep w C.fz (f (i * sz + j)) p) →
      ∃ vs : Array Value, (loadCells ⟨B, o, none⟩ (n * sz)).run P w = .ok vs w ∧ vs.size = n * sz ∧
      ∀ (i : Nat) (e : List PV) (j : Nat) (p : PV), i < n → ys[i]? = some e → e[j]? = some p → ∃ y, vs[i * sz + j]? = some y ∧ y.oneCell' = true ∧ Rep w C.fz y p := by
    intro B o f n hn hcell hrep
    have hle : n * sz ≤ ys.length * sz := Nat.mul_le_mul_right _ hn
    refine ⟨((List.range (n * sz)).map f).toArray, run_loadCells w _ _ _ fun j hj => by rw [add_mk]; exact hcell j (by omega), by simp, ?_⟩
    intro i e j p hi he hp
    obtain ⟨_, hj⟩ := okSz_get' hok he hp
    have hk := idx_lt hi hj
    refine ⟨f (i * sz + j), ?_, hrep i e j p he hp⟩
    rw [List.getElem?_toArray, List.getElem?_map, List.getElem?_range hk]
    rfl
  unfold elemsOf at h
  split at h
  · rename_i es c
    obtain rfl := Option.some.inj h
    cases hx with
    | slnil _ => exact ⟨rfl, fun n hn => ⟨#[], rfl, by simp at hn; simp [hn], by simp⟩⟩
    | @sl _ _ B o len cap _ sz' val h1 h2 h3 h4 h5 h6 h7 h8 =>
      refine ⟨by simp [Builtin.lenOf, h1], fun n hn => ?_⟩
      refine row B o (fun k => val (k / sz) (k % sz)) n hn (fun k hk => ?_) (fun i e j p he hp => ?_)
      · obtain ⟨k0, k1, k2, k3⟩ := divmod_lt hk
        have he : es[k / sz]? = some (es[k / sz]'k1) := List.getElem?_eq_getElem k1
        have hel := okSz_get hok he
        have hs : sz' = sz := by rw [← h3 _ _ he]; exact hel
        have hp : (es[k / sz]'k1)[k % sz]? = some ((es[k / sz]'k1)[k % sz]'(by omega)) := List.getElem?_eq_getElem (by omega)
        have := h5 _ _ _ _ he hp
        rw [hs] at this
        rw [← this]
        congr 2
        omega
      · obtain ⟨_, hj⟩ := okSz_get' hok he hp
        have hd := idx_div (i := i) hj
        simp only [hd.1, hd.2]
        exact ⟨h6 i e j p he hp, h7 i e j p he hp⟩
  · rename_i s
    obtain rfl := Option.some.inj h
    obtain ⟨rfl, _⟩ := rep_v hx
    have hlen : (bytesEs s).length = s.size := by simp [bytesEs]
    refine ⟨by simp [Builtin.lenOf, hlen], fun n hn => ?_⟩
    rw [hlen] at hn
    refine ⟨(s.extract 0 n).data.map fun b => .int .u8 b.toNat, rfl, ?_, ?_⟩
    · have hsz : (s.extract 0 n).data.size = n := by simp; omega
      rw [Array.size_map, hsz]
      by_cases hs : n = 0
      · rw [hs]; simp
      · obtain ⟨e, he⟩ : ∃ e, (bytesEs s)[0]? = some e := ⟨_, List.getElem?_eq_getElem (by omega)⟩
        obtain ⟨b, _, rfl⟩ := bytesEs_get s 0 e he
        have := okSz_get hok he
        simp at this
        subst this
        simp
    · intro i e j p hi he hp
      obtain ⟨b, hb, rfl⟩ := bytesEs_get s i e he
      have := okSz_get hok he
      simp at this
      subst this
      cases j with
      | zero =>
        simp at hp
        subst hp
        refine ⟨.int .u8 b.toNat, ?_, rfl, .v rfl⟩
        have : (s.extract 0 n).data[i]? = some b := by
          rw [ByteArray.data_extract, Array.getElem?_extract, if_pos (by have := (Array.getElem?_eq_some_iff.1 hb).1; omega)]
          simpa using hb
        rw [Nat.mul_one, Nat.add_zero, Array.getElem?_map, this]; rfl
      | succ j => simp at hp
  · rename_i hh b off len sz0
    obtain ⟨cs, hcs, h⟩ := Option.bind_eq_some_iff.1 h
    obtain ⟨ds, hds, h⟩ := Option.bind_eq_some_iff.1 h
    obtain rfl := Option.some.inj h
    obtain ⟨old, hold, hle, rfl⟩ := rsCells_some hcs
    obtain ⟨p1, p2⟩ := plainCs_get hds
    have hlen : (chunks sz0 len ds).length = len := chunks_length _ _ _
    have hdl : ds.length = len * sz0 := by rw [p1]; simp; omega
    cases hx with
    | @rs _ _ _ _ _ cap _ B arr elem fr h1 h2 h3 h4 =>
      refine ⟨by simp [Builtin.lenOf, hlen], fun n hn => ?_⟩
      obtain ⟨B', arr0, elem0, fr0, a1, a2, a3, a4, a5, a6, a7, a8⟩ := H.blk hh b old hold
      rw [h1] at a1
      obtain rfl := Option.some.inj a1
      have hch : ∃ f : Nat → Value, ∀ k p, old[k]? = some p → w.cell? ⟨B, k, none⟩ = some (f k) ∧ (f k).oneCell' = true ∧ Rep w C (f k) p := by
        refine ⟨fun k => arr0[k]?.getD .nilFunc, fun k p hp => ?_⟩
        have hk := (List.getElem?_eq_some_iff.1 hp).1
        have hget : arr0[k]? = some (arr0[k]'(by omega)) := Array.getElem?_eq_getElem (by omega)
        simp only [hget, Option.getD_some]
        exact ⟨by simp [World.cell?, a2, hget], a6 k _ hget, a7 k _ p hget hp⟩
      obtain ⟨f, hf⟩ := hch
      have hsz : ∀ i e, (chunks sz0 len ds)[i]? = some e → sz0 = sz := fun i e he => by
        have := (chunks_get sz0 len ds i e hdl he).2.1
        rw [okSz_get hok he] at this
        exact this.symm
      refine row B off (fun k => f (off + k)) n hn (fun k hk => ?_) (fun i e j p he hp => ?_)
      · obtain ⟨k0, k1, k2, k3⟩ := divmod_lt hk
        obtain ⟨e, he⟩ : ∃ e, (chunks sz0 len ds)[k / sz]? = some e := ⟨_, List.getElem?_eq_getElem k1⟩
        have hs := hsz _ _ he
        subst hs
        rw [hlen] at hk
        have : off + k < old.length := by omega
        exact (hf (off + k) _ (List.getElem?_eq_getElem this)).1
      · have hs := hsz _ _ he
        subst hs
        obtain ⟨q1, q2, q3⟩ := chunks_get sz0 len ds i e hdl he
        obtain ⟨p', hp1, hp2⟩ := p2 _ p (q3 j p hp)
        rw [List.getElem?_take] at hp1
        split at hp1
        · rw [List.getElem?_drop] at hp1
          obtain ⟨r1, r2, r3⟩ := hf _ p' hp1
          exact ⟨r2, plain_rep hp2 r3 rfl (Ctx.fz_fz C)⟩
        · cases hp1
  · cases h

/-! ### bytes of a string -/
theorem bytesWorld_heap (w : World) (e : TypeId) (s : ByteArray) : (Lib.bytesWorld w e s).heap = w.heap.push (.cells (Lib.bytesCells w e s) e ((Lib.bytesCells w e s).size, (Lib.bytesCells w e s).size + 1)) := by
  apply Array.ext_getElem?
  intro i
  rw [Array.getElem?_push]
  split
  · rename_i h; subst h; exact Lib.bytesWorld_at_new w e s
  · rename_i h
    by_cases q : i < w.heap.size
    · exact Lib.bytesWorld_at_old w e s i q
    · rw [Array.getElem?_eq_none (by rw [Lib.bytesWorld_size]; omega), Array.getElem?_eq_none (by omega)]

theorem conv_ok (H : Sim w C st bs) {src dst : TypeId} {x : Value} {p r : PV} (h : aConv P src dst p = some r) (hx : Rep w C x p) : Lays P w C bs (convert src dst x) r st := by
  by_cases hb : ∀ s e, p = .v (.string s) → P.underlying src = some .string → P.underlying dst ≠ some (.slice e)
  · exact (tells_conv h hx hb).lays H
  · obtain ⟨s, e, rfl, hs, hd⟩ : ∃ s e, p = .v (.string s) ∧ P.underlying src = some .string ∧ P.underlying dst = some (.slice e) := by
      refine Classical.byContradiction fun hn => hb fun s e h1 h2 h3 => hn ⟨s, e, h1, h2, h3⟩
    obtain ⟨rfl, _⟩ := rep_v hx
    unfold aConv at h
    simp only [hs, hd] at h
    split at h
    · rename_i he
      obtain rfl := Option.some.inj h
      have hrun := Lib.run_convert_string_bytes w src dst e s hs hd he
      obtain ⟨C', s1, s2, s3, _⟩ := H.fresh s.size (w' := Lib.bytesWorld w e s) (bytesWorld_heap w e s) rfl rfl rfl
      refine ⟨_, _, C', hrun, s1, s2, ?_⟩
      have hget : ∀ (i : Nat) (es : List PV), (bytesEs s)[i]? = some es → i < s.size ∧ es = [.v (.int .u8 (s.data.toList.getD i 0).toNat)] := by
        intro i es hi
        obtain ⟨b, hb, rfl⟩ := bytesEs_get s i es hi
        refine ⟨(Array.getElem?_eq_some_iff.1 hb).1, ?_⟩
        have : s.data.toList[i]? = some b := by simpa using hb
        simp [List.getD, this]
      refine .sl 1 (fun i _ => .int .u8 (s.data.toList.getD i 0).toNat) (by simp [bytesEs]) ?_ (fun i es hi => by rw [(hget i es hi).2]; rfl) (fun i es j p hi hp => ?_) (fun i es j p hi hp => ?_) (fun i es j p hi hp => rfl) (fun i es j p hi hp => ?_) trivial
      · exact grownCap_ge w s.size 0 e
      · obtain ⟨q1, rfl⟩ := hget i es hi
        have hj : j = 0 := by cases j with | zero => rfl | succ j => simp at hp
        subst hj
        exact s3 _ (by omega)
      · obtain ⟨q1, rfl⟩ := hget i es hi
        have hj : j = 0 := by cases j with | zero => rfl | succ j => simp at hp
        subst hj
        have := Lib.bytesWorld_cell w e s i q1
        rw [Nat.zero_add, Nat.mul_one, Nat.add_zero]
        exact this
      · obtain ⟨q1, rfl⟩ := hget i es hi
        cases j with
        | zero =>
          have hp' : p = PV.v (.int .u8 (s.data.toList.getD i 0).toNat) := by simpa using hp.symm
          rw [hp']; exact .v rfl
        | succ j => simp at hp
    · cases h

/-! ### iterators -/
def Ctx.addLp (C : Ctx) (n B : Nat) : Ctx := ⟨C.S, C.σ, C.tl, fun i => if i = n then some B else C.lp i, C.N⟩
theorem Sim.pushLp (H : Sim w C st bs) {w' : World} {ob : Obj} {r : Aux} (hh : w'.heap = w.heap.push ob) (e1 : w'.os = w.os) (e2 : w'.tape = w.tape) (e3 : w'.output = w.output)
    (hr : ∀ C', Ext w C w' C' → (∀ m t l, (m, t, l) ∈ bs → l ≤ st.lp.length) → AuxAt w' C' bs st.lp.length w.heap.size r) :
    ∃ C', Sim w' C' { st with lp := st.lp ++ [r] } bs ∧ Ext w C w' C' ∧ C'.lp st.lp.length = some w.heap.size := by
  obtain ⟨h1, h2⟩ := H.one hh e1 e2 e3
  have hlp : C.lp st.lp.length = none := H.lpnone (Nat.le_refl _)
  have hx : Ext w' C w' (C.addLp st.lp.length w.heap.size) := by
    refine Ext.same rfl (fun _ _ x => x) (fun _ _ _ x => x) (fun _ _ B f to e _ x => ⟨B, f, to, e, x, Nat.le_refl _, fun _ => ⟨rfl, rfl, rfl⟩⟩) (fun i B x => ?_)
    simp only [Ctx.addLp]
    rw [if_neg (by rintro rfl; rw [hlp] at x; cases x)]; exact x
  refine ⟨C.addLp st.lp.length w.heap.size, ⟨?_, h1.dom, h1.inj, h1.Sok, ?_, ?_, h1.disj, ?_, ?_, ?_, ?_, ?_⟩, h2.trans hx, by simp [Ctx.addLp]⟩
  · intro h' b' ds hd
    have hd' : st.blk h' b' = some ds := by cases h' <;> exact hd
    obtain ⟨B2, arr2, elem2, fr2, c1, c2, c3, c4, c5, c6, c7, c8⟩ := h1.blk h' b' ds hd'
    exact ⟨B2, arr2, elem2, fr2, c1, c2, c3, c4, c5, c6, fun o x p hx' hp => (c7 o x p hx' hp).mono hx, fun m t l hm hbm o x p hx' hp => (c8 m t l hm hbm o x p hx' hp).mono (hx.cut m t l)⟩
  · intro o t B f to e s x
    exact ⟨by cases o <;> exact (h1.tok _ t B f to e s x).1, (h1.tok o t B f to e s x).2⟩
  · intro o t e s x
    exact h1.tokdom o t e s (by cases o <;> exact x)
  · intro m t l hm
    have := h1.bnd m t l hm
    simp
    omega
  · refine ⟨h1.low.1, h1.low.2.1, fun i B x => ?_⟩
    simp only [Ctx.addLp] at x
    split at x
    · obtain rfl := Option.some.inj x; exact H.low.1
    · exact h1.low.2.2 i B x
  · intro i r' hr'
    rw [List.getElem?_append] at hr'
    split at hr'
    · rename_i hlt
      obtain ⟨B, a1, a2⟩ := h1.lps i r' hr'
      exact ⟨B, by simp only [Ctx.addLp]; rw [if_neg (by omega)]; exact a1, a2.mono hx fun _ a _ => a⟩
    · rename_i hge
      have : i = st.lp.length := by
        have := (List.getElem?_eq_some_iff.1 hr').1
        simp at this; omega
      subst this
      simp at hr'
      subst hr'
      exact ⟨w.heap.size, by simp [Ctx.addLp], hr _ (h2.trans hx) fun m t l hm => (h1.bnd m t l hm).2.2⟩
  · intro i B x
    simp only [Ctx.addLp] at x
    split at x
    · rename_i e; subst e; exact ⟨r, by simp⟩
    · obtain ⟨r', hr'⟩ := h1.lpdom i B x
      exact ⟨r', by rw [List.getElem?_append_left (List.getElem?_eq_some_iff.1 hr').1]; exact hr'⟩
  · intro i i' B x y
    simp only [Ctx.addLp] at x y
    split at x
    · rename_i e1
      split at y
      · rename_i e2; exact e1.trans e2.symm
      · obtain rfl := Option.some.inj x
        have := H.lplt y; omega
    · rename_i e1
      split at y
      · obtain rfl := Option.some.inj y
        have := H.lplt x; omega
      · exact h1.lpinj i i' B x y

theorem setObj_below {w : World} {N B : Nat} (hN : N ≤ B) (ob : Obj) : Below N w { w with heap := w.heap.setIfInBounds B ob } :=
  ⟨rfl, rfl, rfl, by simp, fun k hk => Array.getElem?_setIfInBounds_ne (by omega)⟩

/-- What lies beside the blocks is written. -/
theorem Sim.setLp (H : Sim w C st bs) {i B : Nat} {old r : Aux} {ob : Obj} (hold : st.lp[i]? = some old) (hi : C.lp i = some B) (hob : ∀ arr elem fr, ob ≠ Obj.cells arr elem fr)
    (hr : ∀ C', Ext w C { w with heap := w.heap.setIfInBounds B ob } C' → AuxAt { w with heap := w.heap.setIfInBounds B ob } C' bs i B r) :
    Sim { w with heap := w.heap.setIfInBounds B ob } C (st.setLp i r) bs ∧ Ext w C { w with heap := w.heap.setIfInBounds B ob } C := by
  obtain ⟨B', a1, a2⟩ := H.lps i old hold
  rw [hi] at a1
  obtain rfl := Option.some.inj a1
  have hnc : ∀ arr elem fr, w.heap[B]? ≠ some (Obj.cells arr elem fr) := by
    intro arr elem fr q
    cases old with
    | iter s pos => rw [a2] at q; cases q
    | loop r => obtain ⟨_, _, _, k, _⟩ := a2; rw [k] at q; cases q
  have hnd : w.heap[B]? ≠ some (Obj.deferred (some [])) := by
    intro q
    cases old with
    | iter s pos => rw [a2] at q; cases q
    | loop r => obtain ⟨_, _, _, k, _⟩ := a2; rw [k] at q; cases q
  have hlt := a2.lt
  have hother : ∀ k ob', w.heap[k]? = some ob' → k ≠ B → ({ w with heap := w.heap.setIfInBounds B ob } : World).heap[k]? = some ob' := by
    intro k ob' h1 h2
    show (w.heap.setIfInBounds B ob)[k]? = _
    rw [Array.getElem?_setIfInBounds_ne (Ne.symm h2)]; exact h1
  have hcell : ∀ k arr elem fr, w.heap[k]? = some (Obj.cells arr elem fr) → ({ w with heap := w.heap.setIfInBounds B ob } : World).heap[k]? = some (Obj.cells arr elem fr) := fun k arr elem fr h => hother k _ h fun e => hnc arr elem fr (e ▸ h)
  have hx : Ext w C { w with heap := w.heap.setIfInBounds B ob } C := by
    refine ⟨by simp, rfl, setObj_below (H.low.2.2 _ _ hi) ob, fun _ _ x => x, fun B' o hS => ?_, fun _ _ _ x => x, fun _ _ B f to e _ x => ⟨B, f, to, e, x, Nat.le_refl _, fun _ => ⟨rfl, rfl, rfl⟩⟩, fun _ _ x => x,
      fun h b B' x arr elem fr y => ⟨arr, elem, fr, hcell B' arr elem fr y, rfl⟩, fun D h => hother D _ h fun e => hnd (e ▸ h)⟩
    by_cases hne : B' = B
    · subst hne
      have h1 : World.cell? { w with heap := w.heap.setIfInBounds B' ob } ⟨B', o, none⟩ = none := by
        simp only [World.cell?]
        rw [Array.getElem?_setIfInBounds_self_of_lt hlt]
        cases ob <;> first | rfl | exact absurd rfl (hob _ _ _)
      have h2 : w.cell? ⟨B', o, none⟩ = none := by
        unfold World.cell?
        split
        · rename_i c e fr hq; exact absurd hq (hnc _ _ _)
        · rfl
      exact h1.trans h2.symm
    · simp only [World.cell?]
      rw [Array.getElem?_setIfInBounds_ne (Ne.symm hne)]
  refine ⟨⟨?_, H.dom, H.inj, fun B' o x => by simpa using H.Sok B' o x, ?_, H.tokdom, H.disj, ?_, ⟨by simpa using H.low.1, H.low.2⟩, ?_, ?_, H.lpinj⟩, hx⟩
  · intro h' b' ds hd
    obtain ⟨B2, arr2, elem2, fr2, c1, c2, c3, c4, c5, c6, c7, c8⟩ := H.blk h' b' ds hd
    exact ⟨B2, arr2, elem2, fr2, c1, hcell _ _ _ _ c2, c3, c4, c5, c6, fun o x p hx' hp => (c7 o x p hx' hp).mono hx, fun m t l hm hbm o x p hx' hp => (c8 m t l hm hbm o x p hx' hp).mono (hx.cut m t l)⟩
  · intro o t B2 f to e s x
    refine ⟨(H.tok o t B2 f to e s x).1, fun i h1 h2 => ?_⟩
    obtain ⟨g1, g2, arr, elem, fr, g3, g4, g5⟩ := (H.tok o t B2 f to e s x).2 i h1 h2
    exact ⟨g1, g2, arr, elem, fr, hcell _ _ _ _ g3, g4, g5⟩
  · intro m t l hm
    have := H.bnd m t l hm
    simpa [St.setLp] using this
  · intro i' r' hr'
    simp only [St.setLp] at hr'
    rw [List.getElem?_set] at hr'
    split at hr'
    · rename_i e
      subst e
      split at hr'
      · obtain rfl := Option.some.inj hr'
        exact ⟨B, hi, hr C hx⟩
      · cases hr'
    · rename_i hne
      obtain ⟨B2, c1, c2⟩ := H.lps i' r' hr'
      refine ⟨B2, c1, c2.mono hx fun ob' a _ => hother B2 _ a fun e => ?_⟩
      subst e
      exact hne (H.lpinj i i' B2 hi c1)
  · intro i' B2 x
    obtain ⟨r', hr'⟩ := H.lpdom i' B2 x
    have hl := (List.getElem?_eq_some_iff.1 hr').1
    have : i' < (st.lp.set i r).length := by simpa using hl
    exact ⟨_, List.getElem?_eq_getElem this⟩


theorem range_ok (H : Sim w C st bs) {t : TypeId} {x : Value} {p : PV} {r : PV × St} (h : aRange P t p st = some r) (hx : Rep w C x p) : Lays P w C bs (Instr.range t x) r.1 r.2 := by
  unfold aRange at h
  split at h
  · rename_i s hu
    obtain ⟨rfl, _⟩ := rep_v hx
    obtain rfl := Option.some.inj h
    obtain ⟨C', k1, k2, k3⟩ := H.pushLp (w' := w.iter s 0) (r := .iter s 0) (ob := .stringIter s 0) rfl rfl rfl rfl (fun C' _ _ => by show (w.heap.push (.stringIter s 0))[w.heap.size]? = _; simp)
    exact ⟨_, _, C', run_range_string w t s hu, k1, k2, .it k3⟩
  · cases h

theorem next_ok (H : Sim w C st bs) {x : Value} {p : PV} {r : PV × St} {ty : TypeId} (h : aNext p st = some r) (hx : Rep w C x p) : Lays P w C bs (Instr.next x true ty) r.1 r.2 := by
  unfold aNext at h
  split at h
  · rename_i i
    split at h
    · rename_i s pos hi
      cases hx with
      | @it _ _ B hB =>
        obtain ⟨B', a1, a2⟩ := H.lps i _ hi
        rw [hB] at a1
        obtain rfl := Option.some.inj a1
        have a2 : w.heap[B]? = some (.stringIter s pos) := a2
        cases hb : Nat.blt pos s.size with
        | false =>
          rw [hb] at h
          obtain rfl := Option.some.inj h
          have hlt : ¬ pos < s.size := fun z => by rw [← Nat.blt_eq] at z; rw [z] at hb; cases hb
          refine ⟨_, w, C, Lib.run_next_end_at w B s pos ty a2 hlt, H, Ext.refl w C, .tup rfl fun i x p hx hp => ?_⟩
          cases i with
          | zero => simp at hx hp; subst hx; subst hp; exact .v rfl
          | succ i => simp at hx
        | true =>
          rw [hb] at h
          obtain rfl := Option.some.inj h
          rw [Nat.blt_eq] at hb
          obtain ⟨k1, k2⟩ := H.setLp (r := .iter s (pos + (Utf8.decode s pos).2)) (ob := .stringIter s (pos + (Utf8.decode s pos).2)) hi hB (by intro _ _ _ q; cases q)
            (fun C' _ => by simp [AuxAt, (Array.getElem?_eq_some_iff.1 a2).1])
          refine ⟨_, _, C, Lib.run_next_any_at w B s pos ty a2 hb, k1, k2, .tup rfl fun i x p hx hp => ?_⟩
          match i, hx, hp with
          | 0, hx, hp => simp at hx hp; subst hx; subst hp; exact .v rfl
          | 1, hx, hp => simp at hx hp; subst hx; subst hp; exact .v rfl
          | 2, hx, hp => simp at hx hp; subst hx; subst hp; exact .v rfl
          | i + 3, hx, hp => simp at hx
    · cases h
  · cases h

/-! ### cells that are written from a slice -/
theorem flat_get {sz : Nat} : ∀ {ys : List (List PV)}, okSz sz ys = true → (flat ys).length = ys.length * sz ∧ ∀ (k : Nat) (p : PV), (flat ys)[k]? = some p → ∃ e, ys[k / sz]? = some e ∧ e[k % sz]? = some p
  | [], _ => by simp [flat]
  | y :: ys, h => by
    have hy : y.length = sz := okSz_get h (i := 0) rfl
    have h' : okSz sz ys = true := by
      unfold okSz at h ⊢
      rw [List.all_cons, Bool.and_eq_true] at h
      exact h.2
    obtain ⟨k1, k2⟩ := flat_get h'
    have e : flat (y :: ys) = y ++ flat ys := by simp [flat]
    refine ⟨by rw [e]; simp [k1, hy, Nat.succ_mul]; omega, fun k p hp => ?_⟩
    rw [e, List.getElem?_append] at hp
    split at hp
    · rename_i hlt
      rw [hy] at hlt
      rw [Nat.div_eq_of_lt hlt, Nat.mod_eq_of_lt hlt]
      exact ⟨y, rfl, hp⟩
    · rename_i hge
      rw [hy] at hge hp
      obtain ⟨e', e1, e2⟩ := k2 _ p hp
      have hsz : 0 < sz := by
        rcases Nat.eq_zero_or_pos sz with z | z
        · subst z
          have := (List.getElem?_eq_some_iff.1 hp).1
          rw [k1] at this; simp at this
        · exact z
      have hk : k = (k - sz) + sz := by omega
      refine ⟨e', ?_, ?_⟩
      · rw [hk, Nat.add_div_right _ hsz, List.getElem?_cons_succ]; exact e1
      · rw [hk, Nat.add_mod_right]; exact e2

/-- The cells that were read are those that are written. -/
theorem cells_of_first {sz n : Nat} {ys : List (List PV)} {vs : Array Value} (hok : okSz sz ys = true) (hn : n ≤ ys.length) (hs : vs.size = n * sz)
    (hv : ∀ (i : Nat) (e : List PV) (j : Nat) (p : PV), i < n → ys[i]? = some e → e[j]? = some p → ∃ y, vs[i * sz + j]? = some y ∧ y.oneCell' = true ∧ Rep w C.fz y p) :
    vs.toList.length = (flat (ys.take n)).length ∧ (∀ v ∈ vs.toList, v.oneCell' = true) ∧ ∀ (i : Nat) (x : Value) (p : PV), vs.toList[i]? = some x → (flat (ys.take n))[i]? = some p → Rep w C.fz x p := by
  have hok' : okSz sz (ys.take n) = true := by
    unfold okSz at hok ⊢
    rw [List.all_eq_true] at hok ⊢
    exact fun e he => hok e (List.mem_of_mem_take he)
  obtain ⟨f1, f2⟩ := flat_get hok'
  have hlen : (flat (ys.take n)).length = n * sz := by rw [f1, List.length_take, Nat.min_eq_left hn]
  have key : ∀ k, k < n * sz → ∃ (e : List PV) (p : PV) (y : Value), ys[k / sz]? = some e ∧ e[k % sz]? = some p ∧ vs[k]? = some y ∧ y.oneCell' = true ∧ Rep w C.fz y p := by
    intro k hk
    obtain ⟨k0, k1, k2, k3⟩ := divmod_lt hk
    have he : ys[k / sz]? = some (ys[k / sz]'(by omega)) := List.getElem?_eq_getElem (by omega)
    have hel := okSz_get hok he
    have hp : (ys[k / sz]'(by omega))[k % sz]? = some ((ys[k / sz]'(by omega))[k % sz]'(by omega)) := List.getElem?_eq_getElem (by omega)
    obtain ⟨y, y1, y2, y3⟩ := hv _ _ _ _ k1 he hp
    rw [k3] at y1
    exact ⟨_, _, y, he, hp, y1, y2, y3⟩
  refine ⟨by rw [hlen]; simpa using hs, fun v hv' => ?_, fun k x p hx hp => ?_⟩
  · obtain ⟨k, hk⟩ := List.mem_iff_getElem?.1 hv'
    rw [Array.getElem?_toList] at hk
    have hk1 := (Array.getElem?_eq_some_iff.1 hk).1
    obtain ⟨e, p, y, _, _, y1, y2, _⟩ := key k (by omega)
    rw [hk] at y1
    obtain rfl := Option.some.inj y1
    exact y2
  · rw [Array.getElem?_toList] at hx
    have hk1 := (Array.getElem?_eq_some_iff.1 hx).1
    obtain ⟨e, q, y, e1, e2, y1, y2, y3⟩ := key k (by omega)
    rw [hx] at y1
    obtain rfl := Option.some.inj y1
    obtain ⟨e', g1, g2⟩ := f2 k p hp
    rw [List.getElem?_take] at g1
    split at g1
    · rw [e1] at g1
      obtain rfl := Option.some.inj g1
      rw [e2] at g2
      obtain rfl := Option.some.inj g2
      exact y3
    · cases g1

theorem copy_ok (H : Sim w C st bs) (base : Nat) (hbase : ∀ m t l, (m, t, l) ∈ bs → m ≤ base) {t u ty e : TypeId} (hu : P.underlying t = some (.slice e)) {d x : Value} {p q : PV} {ys : List (List PV)} {r : PV × St}
    (hq : elemsOf st q = some ys) (h : aCopy base (szT P e) p ys st = some r) (hd : Rep w C d p) (hx : Rep w C x q) : Lays P w C bs (Builtin.copy_ #[t, u] ty #[d, x]) r.1 r.2 := by
  unfold aCopy at h
  split at h
  · rename_i hh b off len sz
    cases hb : Nat.beq sz (szT P e) && okSz (szT P e) ys && !Nat.beq (szT P e) 0 with
    | false => rw [hb] at h; simp at h
    | true =>
      rw [hb] at h
      simp only [cond_true] at h
      obtain ⟨st', hp, h⟩ := Option.bind_eq_some_iff.1 h
      obtain rfl := Option.some.inj h
      simp only [Bool.and_eq_true] at hb
      obtain ⟨⟨b1, b2⟩, b3⟩ := hb
      have hne : szT P e ≠ 0 := by intro z; rw [z] at b3; simp at b3
      obtain ⟨ie, hie⟩ := info_of_sz hne
      obtain ⟨hlen, hfirst⟩ := run_first (P := P) H hq b2 hx
      have hmin : min ys.length len ≤ ys.length := Nat.min_le_left _ _
      obtain ⟨vs, v1, v2, v3⟩ := hfirst (min ys.length len) hmin
      obtain ⟨c1, c2, c3⟩ := cells_of_first b2 hmin v2 v3
      have htake : ys.take (min ys.length len) = ys.take len := by
        rw [Nat.min_def]
        split
        · rw [List.take_of_length_le (Nat.le_refl _), List.take_of_length_le (by omega)]
        · rfl
      rw [htake] at c1 c3
      cases hd with
      | @rs _ _ _ _ _ cap _ B arr elem fr h1 h2 h3 h4 =>
        obtain ⟨C', k1, k2, k3⟩ := put_ok (P := P) H base hbase hp h1 c1 c2 fun i x p hx hp => (c3 i x p hx hp).mono (Ext.of_fz w C)
        refine ⟨_, _, C', ?_, k2, k3, .v rfl⟩
        have v1' : (Builtin.firstCells ie.size (min ys.length len) x).run P w = .ok vs w := by rw [← szT_eq hie]; exact v1
        simp [Builtin.copy_, run_underlying hu, hlen, sizeOf, typeInfo, hie, goInt, Nat.min_def] at v1' k1 ⊢
        simp [v1', k1]
        split <;> omega
  · cases h

theorem clear_ok (H : Sim w C st bs) (base : Nat) (hbase : ∀ m t l, (m, t, l) ∈ bs → m ≤ base) {t ty : TypeId} {x : Value} {p : PV} {st' : St} (h : aClear P base t p st = some st') (hx : Rep w C x p) : Lays P w C bs (Builtin.clear_ #[t] ty #[x]) (.tup []) st' := by
  unfold aClear at h
  split at h
  · rename_i e hh b off len sz hu
    obtain ⟨z, hz, h⟩ := Option.bind_eq_some_iff.1 h
    cases hb : Nat.beq z.length sz && Nat.beq (szT P e) sz && !Nat.beq sz 0 with
    | false => rw [hb] at h; simp at h
    | true =>
      rw [hb] at h
      simp only [cond_true] at h
      simp only [Bool.and_eq_true] at hb
      obtain ⟨⟨b1, b2⟩, b3⟩ := hb
      have b1 := Nat.eq_of_beq_eq_true b1
      have b2 := Nat.eq_of_beq_eq_true b2
      have hne : szT P e ≠ 0 := by intro z; rw [b2] at z; rw [z] at b3; simp at b3
      obtain ⟨it, zv, hi, hzv, hzc⟩ := zero_rep (w := w) (C := C) hz
      have hrow := rep_zeros (P := P) (e := e) len hzc (by omega) hne
      cases hx with
      | @rs _ _ _ _ _ cap _ B arr elem fr h1 h2 h3 h4 =>
        obtain ⟨C', k1, k2, k3⟩ := put_ok (P := P) H base hbase h h1 (vs := ((Array.range (len * szT P e)).map (fun i => zv.cells[i % zv.cells.size]!)).toList) (by simpa using hrow.size)
          (fun y hy => by
            obtain ⟨i, hi⟩ := List.mem_iff_getElem?.1 hy
            exact hrow.one i y (by rw [Array.getElem?_toList] at hi; exact hi)) (fun i y q hy hq => hrow.rep i y q (by rw [Array.getElem?_toList] at hy; exact hy) hq)
        refine ⟨.tuple #[], _, C', ?_, k2, k3, .tup rfl (by simp)⟩
        have hzs : zv.cells.size = szT P e := by rw [hzc.size]; omega
        have hz' : (zeroValue e).run P w = .ok zv w := by simp [zeroValue, typeInfo, hi, hzv]
        by_cases hl : len = 0
        · subst hl
          simp [Builtin.clear_, run_underlying hu, World.setCells]
        · have hzc' : Builtin.zeroCells zv.cells len = (Array.range (len * szT P e)).map (fun i => zv.cells[i % zv.cells.size]!) := by rw [Builtin.zeroCells, hzs]
          rw [← hzc'] at k1 ⊢
          obtain ⟨n, rfl⟩ : ∃ n, len = n + 1 := ⟨len - 1, by omega⟩
          simp [Builtin.clear_, run_underlying hu, hz', k1]
  · cases h

theorem tells_cap {t ty : TypeId} {x : Value} {p r : PV} (h : aCap P t p = some r) (hx : Rep w C x p) : Tells P w C (Builtin.cap_ #[t] ty #[x]) r := by
  unfold aCap at h
  split at h
  · rename_i e es hu
    obtain rfl := Option.some.inj h
    cases hx with
    | slnil _ => exact ⟨.int .i64 0, by simp [Builtin.cap_, run_underlying hu, goInt], .v rfl⟩
    | sl sz val h1 h2 h3 h4 h5 h6 h7 h8 => simp [CapRep] at h8
  · rename_i e es hu
    obtain rfl := Option.some.inj h
    cases hx with
    | slnil _ => exact ⟨.int .i64 0, by simp [Builtin.cap_, run_underlying hu, goInt], .v rfl⟩
    | @sl _ _ B o len cap _ sz val h1 h2 h3 h4 h5 h6 h7 h8 =>
      have : cap = es.length := by have : cap = len := h8; omega
      exact ⟨_, by simp [Builtin.cap_, run_underlying hu, goInt, this], .v rfl⟩
  · cases h

end
end Go.AM
