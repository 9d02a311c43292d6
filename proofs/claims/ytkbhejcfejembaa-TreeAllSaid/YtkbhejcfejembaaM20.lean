/- The abstract machine: what a call answers in the evaluator, it answers in the model. No condition. -/
import Derived.Test.YtkbhejcfejembaaM19
import Derived.RangeFuncLeaves
set_option linter.all false
set_option linter.unusedVariables false
namespace Go.AM
open Go Go.RowKit

section
variable {Cf : Cfg} {lo : Nat} {w : World} {C : Ctx} {st : St} {bs : List (Nat × Nat × Nat)}

theorem load_ptr {agg : Bool} {size : Nat} {x : Value} {p r : PV} (h : aLoad agg size p st = some r) (hx : Rep w C x p) : ∃ ad, x = .pointer (some ad) := by
  unfold aLoad at h
  split at h
  · cases hx with | ptr _ => exact ⟨_, rfl⟩
  · cases hx with | fp _ _ _ _ _ => exact ⟨_, rfl⟩
  · cases h

def resF (tmps : Array Value) : ResultVar → Sem Value
  | .tmp t => pure (tmps.getD t undef)
  | .cell a t => do loadVar t (← asAddr (tmps.getD a undef))

theorem results_ok {R : Type} {a : Act} {e : Env} (H : Sim w C st bs) (hE : ∀ i, Rep w C (a.tmps.getD i undef) (e i)) {r : R} : ∀ (rs : List ResultVar) (K : List PV → Option R), resultsK Cf rs e st K = some r →
    ∃ ps vs, K ps = some r ∧ (rs.mapM (resF a.tmps)).run Cf.P w = .ok vs w ∧ vs.length = ps.length ∧ ∀ (i : Nat) (x : Value) (p : PV), vs[i]? = some x → ps[i]? = some p → Rep w C x p
  | [], K, h => ⟨[], [], h, by simp, rfl, by simp⟩
  | .tmp t :: rs, K, h => by
    obtain ⟨ps, vs, h1, h2, h3, h4⟩ := results_ok H hE rs _ h
    refine ⟨e t :: ps, a.tmps.getD t undef :: vs, h1, by simp [List.mapM_cons, resF, h2], by simp [h3], fun i x p hx hp => ?_⟩
    cases i with
    | zero => simp at hx hp; subst hx; subst hp; have := hE t; rw [Array.getD_eq_getD_getElem?] at this; exact this
    | succ i => simp at hx hp; exact h4 i x p hx hp
  | .cell ad t :: rs, K, h => by
    simp only [resultsK] at h
    split at h
    · rename_i d hu
      obtain ⟨p, hp, h⟩ := Option.bind_eq_some_iff.1 h
      obtain ⟨ps, vs, h1, h2, h3, h4⟩ := results_ok H hE rs _ h
      obtain ⟨v, hv, hr⟩ := tells_load H ⟨d, hu⟩ hp (hE ad)
      obtain ⟨q, hq⟩ := load_ptr hp (hE ad)
      have hrun : (resF a.tmps (.cell ad t)).run Cf.P w = .ok v w := by
        simp only [resF, hq]
        rw [hq] at hv
        simpa [Instr.loadAt, Instr.sureAddr, asAddr] using hv
      refine ⟨p :: ps, v :: vs, h1, by simp [List.mapM_cons, hrun, h2], by simp [h3], fun i x p' hx hp' => ?_⟩
      cases i with
      | zero => simp at hx hp'; subst hx; subst hp'; exact hr
      | succ i => simp at hx hp'; exact h4 i x p' hx hp'
    · cases h

theorem run_results {fn : Func} {tmps : Array Value} {vs : List Value} (h : (fn.results.toList.mapM (resF tmps)).run Cf.P w = .ok vs w) :
    (results fn tmps).run Cf.P w = .ok (if h : vs.toArray.size = 1 then vs.toArray[0] else .tuple vs.toArray) w := by
  have : results fn tmps = (do let vs ← fn.results.mapM (resF tmps); pure (if h : vs.size = 1 then vs[0] else .tuple vs)) := by
    unfold results
    congr 1
  rw [this, Array.mapM_eq_mapM_toList]
  simp only [Sem.run_bind, Sem.run_map, h, Result.andThen_ok, Sem.run_pure]

theorem rep_pack {ps : List PV} {vs : List Value} (hl : vs.length = ps.length) (hr : ∀ (i : Nat) (x : Value) (p : PV), vs[i]? = some x → ps[i]? = some p → Rep w C x p) :
    Rep w C (if h : vs.toArray.size = 1 then vs.toArray[0] else .tuple vs.toArray) (packRes ps) := by
  match ps, vs, hl, hr with
  | [], [], _, _ => exact .tup rfl (by simp)
  | [p], [v], _, hr => exact hr 0 v p rfl rfl
  | p :: q :: ps, v :: u :: vs, hl, hr =>
    rw [dif_neg (by simp)]
    exact .tup (by simpa using hl) fun i x r hx hp => hr i x r (by simpa using hx) hp

end

/-! ### what a call answers -/
/-- The rows of the blocks that go. -/
def gone (C : Ctx) (st : St) (m : Nat) (B : Nat) (_ : Nat) : Prop := ∃ b cs, m ≤ b ∧ C.σ false b = some B ∧ st.blk false b = some cs ∧ cs ≠ []

def Ctx.fin (C : Ctx) (st : St) (m t l : Nat) : Ctx := ⟨fun B o => C.S B o ∨ gone C st m B o, (C.cut m t l).σ, (C.cut m t l).tl, (C.cut m t l).lp, C.N⟩

section
variable {w : World} {C : Ctx} {st : St} {bs bs' : List (Nat × Nat × Nat)} {m t l : Nat}

theorem ext_fin (w : World) (C : Ctx) (st : St) (m t l : Nat) : Ext w (C.cut m t l) w (C.fin st m t l) :=
  Ext.same rfl (fun _ _ x => Or.inl x) (fun _ _ _ x => x) (fun _ _ B f to e _ x => ⟨B, f, to, e, x, Nat.le_refl _, fun _ => ⟨rfl, rfl, rfl⟩⟩) (fun _ _ x => x)
theorem ext_fz_fin (w : World) (C : Ctx) (st : St) (m t l : Nat) : Ext w C.fz w (C.fin st m t l).fz := by
  refine Ext.same rfl (fun _ _ x => Or.inl x) (fun h b B x => ?_) (fun _ _ _ _ _ _ _ x => by simp [Ctx.fz] at x) (fun _ _ x => by simp [Ctx.fz] at x)
  cases h with
  | true => exact x
  | false => simp [Ctx.fz] at x

/-- A call's end: the rows that go stay as they are. -/
theorem Sim.fin (H : Sim w C st bs) (h0 : (m, t, l) ∈ bs) (hin : ∀ x ∈ bs', x ∈ bs) (hbs : ∀ m' t' l', (m', t', l') ∈ bs' → m' ≤ m ∧ t' ≤ t ∧ l' ≤ l) : Sim w (C.fin st m t l) (st.back m t l) bs' := by
  have hL := H.leave h0 hin hbs
  refine (hL.more (X := gone C st m) ?_).1
  rintro B o ⟨b, cs, hb, hσ, hcs, hne⟩
  refine ⟨H.σlt hσ, fun h' b' cs' hσ' hcs' => ?_, fun ow tt B' f to e s x y z q => ?_⟩
  · obtain ⟨k1, k2⟩ := blk_take hcs'
    have hσ2 : C.σ h' b' = some B := by
      cases h' with
      | true => exact hσ'
      | false => simp only [Ctx.cut] at hσ'; rw [if_pos (k2 rfl)] at hσ'; exact hσ'
    rcases H.inj _ _ _ _ _ hσ2 hσ with ⟨rfl, rfl⟩ | q | q
    · have := k2 rfl; omega
    · rw [k1] at q; exact Option.some.inj q
    · rw [hcs] at q; exact absurd (Option.some.inj q) hne
  · subst q
    have htl : C.tl ow tt = some (B', f, to, e, s) := by
      cases ow with
      | fr => simp only [Ctx.cut] at x; split at x <;> first | exact x | cases x
      | bl a b2 =>
        cases a with
        | true => exact x
        | false => simp only [Ctx.cut] at x; split at x <;> first | exact x | cases x
    exact absurd hσ (((H.tok ow tt B' f to e s htl).2 o y z).2.1.1 false b)

theorem canonF_ok (H : Sim w C st bs) {n : Nat} {x : Value} {p q : PV} (h : canonF m st p = some q) (hs : sf false m n q = true) (hx : Rep w C x p) : Rep w (C.fin st m t l) x q := by
  unfold canonF at h
  split at h
  · rename_i b off len sz
    cases hb : Nat.ble m b with
    | false =>
      rw [hb] at h
      obtain rfl := Option.some.inj h
      exact (rep_cutT t l hx hs).mono (ext_fin w C st m t l)
    | true =>
      rw [hb] at h
      simp only [cond_true] at h
      obtain ⟨cs, hcs, h⟩ := Option.bind_eq_some_iff.1 h
      obtain ⟨ds, hds, h⟩ := Option.bind_eq_some_iff.1 h
      cases hq : ds.all (sf false 0 4) && !Nat.beq sz 0 with
      | false => rw [hq] at h; simp at h
      | true =>
        rw [hq] at h
        obtain rfl := Option.some.inj h
        have hb := Nat.le_of_ble_eq_true hb
        obtain ⟨old, hold, hle, rfl⟩ := rsCells_some hcs
        obtain ⟨p1, p2⟩ := plainCs_get hds
        have hdl : ds.length = len * sz := by rw [p1]; simp; omega
        cases hx with
        | @rs _ _ _ _ _ cap _ B arr elem fr h1 h2 h3 h4 =>
          obtain ⟨B', arr', elem', fr', a1, a2, a3, a4, a5, a6, a7, a8⟩ := H.blk false b old hold
          rw [h1] at a1
          obtain rfl := Option.some.inj a1
          rw [h3] at a2
          cases a2
          have hget : ∀ (i j : Nat) (e : List PV) (p : PV), (chunks sz len ds)[i]? = some e → e[j]? = some p → ∃ p' y, old[off + (i * sz + j)]? = some p' ∧ plainC p' = some p ∧ arr[off + (i * sz + j)]? = some y := by
            intro i j e p he hp
            obtain ⟨q1, q2, q3⟩ := chunks_get sz len ds i e hdl he
            obtain ⟨p', hp1, hp2⟩ := p2 _ p (q3 j p hp)
            rw [List.getElem?_take] at hp1
            split at hp1
            · rw [List.getElem?_drop] at hp1
              have := (List.getElem?_eq_some_iff.1 hp1).1
              exact ⟨p', _, hp1, hp2, Array.getElem?_eq_getElem (by omega)⟩
            · cases hp1
          have hf : ∀ (i j : Nat) (e : List PV) (p : PV), (chunks sz len ds)[i]? = some e → e[j]? = some p → arr[off + (i * sz + j)]? = some (arr[off + (i * sz + j)]?.getD .nilFunc) := by
            intro i j e p he hp
            obtain ⟨_, y, _, _, hy⟩ := hget i j e p he hp
            rw [hy]; rfl
          refine .sl sz (fun i j => arr[off + (i * sz + j)]?.getD .nilFunc) (chunks_length _ _ _).symm h2 (fun i e he => (chunks_get sz len ds i e hdl he).2.1) (fun i e j p he hp => ?_) (fun i e j p he hp => ?_) (fun i e j p he hp => ?_) (fun i e j p he hp => ?_) trivial
          · obtain ⟨p', y, k1, _, _⟩ := hget i j e p he hp
            exact Or.inr ⟨b, old, hb, h1, hold, fun z => by rw [z] at k1; simp at k1⟩
          · rw [Nat.add_assoc, World.cell?, h3]
            exact hf i j e p he hp
          · exact a6 _ _ (hf i j e p he hp)
          · obtain ⟨p', y, k1, k2, k3⟩ := hget i j e p he hp
            have := a7 _ y p' k3 k1
            rw [k3]
            exact (plain_rep (C' := C.fz) k2 this rfl (Ctx.fz_fz C)).mono (ext_fz_fin w C st m t l)
  · obtain rfl := Option.some.inj h
    exact (rep_cutT t l (rep_canonC hx) hs).mono (ext_fin w C st m t l)

theorem canonFs_get : ∀ {cs ds : List PV}, canonFs m st cs = some ds → ds.length = cs.length ∧ ∀ (i : Nat) (q : PV), ds[i]? = some q → ∃ p, cs[i]? = some p ∧ canonF m st p = some q
  | [], ds, h => by obtain rfl := Option.some.inj h; exact ⟨rfl, by simp⟩
  | c :: cs, ds, h => by
    simp only [canonFs] at h
    obtain ⟨q, hq, h⟩ := Option.bind_eq_some_iff.1 h
    obtain ⟨qs, hqs, h⟩ := Option.bind_eq_some_iff.1 h
    obtain rfl := Option.some.inj h
    obtain ⟨h1, h2⟩ := canonFs_get hqs
    refine ⟨by simp [h1], fun i r hr => ?_⟩
    cases i with
    | zero => simp at hr; subst hr; exact ⟨c, rfl, hq⟩
    | succ i => simp at hr; simpa using h2 i r hr
theorem canonFAs_get : ∀ {cs ds : List PV}, canonFAs m st cs = some ds → ds.length = cs.length ∧ ∀ (i : Nat) (q : PV), ds[i]? = some q → ∃ p, cs[i]? = some p ∧ canonFA m st p = some q
  | [], ds, h => by obtain rfl := Option.some.inj h; exact ⟨rfl, by simp⟩
  | c :: cs, ds, h => by
    simp only [canonFAs] at h
    obtain ⟨q, hq, h⟩ := Option.bind_eq_some_iff.1 h
    obtain ⟨qs, hqs, h⟩ := Option.bind_eq_some_iff.1 h
    obtain rfl := Option.some.inj h
    obtain ⟨h1, h2⟩ := canonFAs_get hqs
    refine ⟨by simp [h1], fun i r hr => ?_⟩
    cases i with
    | zero => simp at hr; subst hr; exact ⟨c, rfl, hq⟩
    | succ i => simp at hr; simpa using h2 i r hr

theorem canonFA_ok (H : Sim w C st bs) {n : Nat} {x : Value} {p q : PV} (h : canonFA m st p = some q) (hs : sf false m n q = true) (hx : Rep w C x p) : Rep w (C.fin st m t l) x q := by
  unfold canonFA at h
  split at h
  · obtain ⟨ds, hds, h⟩ := Option.bind_eq_some_iff.1 h
    obtain rfl := Option.some.inj h
    obtain ⟨g1, g2⟩ := canonFs_get hds
    cases n with
    | zero => simp [sf] at hs
    | succ n =>
      simp only [sf, List.all_eq_true] at hs
      cases hx with
      | agg h1 h2 h3 =>
        refine .agg (by rw [g1]; exact h1) h2 fun i x q hx hq => ?_
        obtain ⟨p, hp, hc⟩ := g2 i q hq
        exact canonF_ok H hc (hs q (List.mem_of_getElem? hq)) (h3 i x p hx hp)
  · exact canonF_ok H h hs hx
theorem canonFT_ok (H : Sim w C st bs) {n : Nat} {x : Value} {p q : PV} (h : canonFT m st p = some q) (hs : sf false m n q = true) (hx : Rep w C x p) : Rep w (C.fin st m t l) x q := by
  unfold canonFT at h
  split at h
  · obtain ⟨ds, hds, h⟩ := Option.bind_eq_some_iff.1 h
    obtain rfl := Option.some.inj h
    obtain ⟨g1, g2⟩ := canonFAs_get hds
    cases n with
    | zero => simp [sf] at hs
    | succ n =>
      simp only [sf, List.all_eq_true] at hs
      cases hx with
      | tup h1 h3 =>
        refine .tup (by rw [g1]; exact h1) fun i x q hx hq => ?_
        obtain ⟨p, hp, hc⟩ := g2 i q hq
        exact canonFA_ok H hc (hs q (List.mem_of_getElem? hq)) (h3 i x p hx hp)
  · exact canonFA_ok H h hs hx

/-- The marks among the calls that wait are taken off. -/
theorem marks_ok {P : Program} {fn : Func} {tmps : Array Value} {R : Ending → World → Prop} {e : Env} {w0 : World} {C0 : Ctx} {lo : Nat} (hlo : lo = w0.heap.size) :
    ∀ (ds : List Deferred) (w : World), Sim w C st bs → Ext w0 C0 w C → Marks w lo ds → (∀ i, Rep w C (tmps.getD i undef) (e i)) → C.N ≤ lo →
      (∀ w', Sim w' C st bs → Ext w0 C0 w' C → (∀ i, Rep w' C (tmps.getD i undef) (e i)) → ∃ v, (results fn tmps).run P w' = .ok v w' ∧ R (.returned v) w') → LeavesInM (fen none) 0 P fn tmps R ds .returning w
  | [], w, H, hx, hm, hr, hN, hk => hk w H hx hr
  | d :: ds, w, H, hx, hm, hr, hN, hk => by
    obtain ⟨D, rfl, h1, h2⟩ := hm.ok d (List.mem_cons_self ..)
    obtain ⟨k1, k2, k3⟩ := H.setObj (ob := .deferred none) h2 (by omega) (fun i hi => by
        obtain ⟨r, hr⟩ := H.lpdom i D hi
        obtain ⟨B, a1, a2⟩ := H.lps i r hr
        rw [hi] at a1
        obtain rfl := Option.some.inj a1
        cases r with
        | iter s pos => have a2 : w.heap[D]? = some (.stringIter s pos) := a2; rw [h2] at a2; cases a2
        | loop r => obtain ⟨_, _, _, q, _⟩ := a2; rw [h2] at q; cases q) (by intro _ _ _ q; cases q) (by intro _ _ _ q; cases q) (lo := lo) (fun _ _ _ => h1) hx hlo
    refine ⟨by simp, Or.inl ⟨D, { w with heap := w.heap.setIfInBounds D (.deferred none) }, rfl, ?_, ?_⟩⟩
    · simp [Instr.takeDeferred, getObj, setObj, Sem.run, h2]
    · refine marks_ok hlo ds _ k1 k2 ⟨by simpa using hm.le, fun d' hd' => ?_, (List.pairwise_cons.1 hm.nd).2⟩ (fun i => k3 (hr i)) hN hk
      obtain ⟨D', rfl, g1, g2⟩ := hm.ok d' (List.mem_cons_of_mem _ hd')
      refine ⟨D', rfl, g1, ?_⟩
      show (w.heap.setIfInBounds D _)[D']? = _
      rw [Array.getElem?_setIfInBounds_ne]
      · exact g2
      · rintro rfl
        exact (List.pairwise_cons.1 hm.nd).1 _ hd' D rfl rfl

end

structure LibOk (L : Lib) : Prop where
  name : ∀ (f : Nat) (fn : Func), L.P.funcs[f]? = some fn → (fn.name == "runtime.NumGoroutine") = false
  mixed : L.P.follows .mixedOrders = true
  prim : ∀ f g, L.prim f = some g → Good L.P fun f' args st => match f' with
    | .func k => if k = f then g args st else none
    | _ => none

theorem body_ok {L : Lib} (ok : LibOk L) {call : CallF} (G : Good L.P call) {k f : Nat} {fn : Func} {c : Code} (hf : L.P.funcs[f]? = some fn) (hb : fn.body = some c) {args : List PV} {st : St} {r : PV × St}
    (h : evBody L call (itK k) f fn c args st = some r) {w : World} {C : Ctx} {bs : List (Nat × Nat × Nat)} {xs : Array Value} (H : Sim w C st bs) (hs : xs.size = args.length)
    (hr : ∀ (i : Nat) (x : Value) (p : PV), xs[i]? = some x → args[i]? = some p → Rep w C x p) :
    Calls L.P f xs w (Post r bs w C) := by
  unfold evBody at h
  cases hn : Nat.ble args.length fn.ntmps with
  | false => rw [hn] at h; simp at h
  | true =>
    rw [hn] at h
    simp only [cond_true] at h
    have hn := Nat.le_of_ble_eq_true hn
    refine fen_callsIn (rd := none) (n := 0) (callsIn_of_wp_marks hf hb trivial ?_)
    have hbase : ∀ m t l, (m, t, l) ∈ ((st.stk.length, st.tk.length, st.lp.length) :: bs) → m ≤ st.stk.length := by
      intro m t l hm
      rcases List.mem_cons.1 hm with hm | hm
      · cases hm; exact Nat.le_refl _
      · exact (H.bnd m t l hm).1
    let Cf : Cfg := ⟨L.P, call, fn.ntmps, st.stk.length, itK k, L.imp, L.md f, none, st.lp.length⟩
    refine evCode_sound (Cf := Cf) (rd := none) (lo := w.heap.size) (bs := (st.stk.length, st.tk.length, st.lp.length) :: bs) G (k := k) rfl hbase st.tk.length (List.mem_cons_self ..) (draw_ok G hbase ok.mixed) c (L.ann f) (argEnv 0 args) st _ r _ w C _ h H.enter (RelE.enter hs hn hr) trivial ?_
    intro x e' st' a' w' C' hK q1 q2 q3
    have hfin : bodyPostM (fen none) 0 L.P fn (Post r bs w C) .ret a' w' ∨ (∃ i, x = .exit i) := by
      have go : resultsK Cf fn.results.toList e' st' (fun ps => fin st.stk.length st.tk.length st.lp.length ps st') = some r → bodyPostM (fen none) 0 L.P fn (Post r bs w C) .ret a' w' := by
        intro hres
        refine marks_ok (e := e') rfl a'.defers w' q1 q2 q3.defers q3.rep (by rw [q2.N]; exact H.low.1) fun w2 H2 X2 hr2 => ?_
        obtain ⟨ps, vs, p1, p2, p3, p4⟩ := results_ok (Cf := Cf) H2 hr2 _ _ hres
        refine ⟨_, run_results (Cf := Cf) p2, ?_⟩
        unfold fin at p1
        obtain ⟨p, hp, p1⟩ := Option.bind_eq_some_iff.1 p1
        cases hsf : sf false st.stk.length 4 p with
        | false => rw [hsf] at p1; simp at p1
        | true =>
          rw [hsf] at p1
          obtain rfl := Option.some.inj p1
          refine ⟨_, C'.fin st' st.stk.length st.tk.length st.lp.length, rfl, H2.fin (List.mem_cons_self ..) (fun _ x => List.mem_cons_of_mem _ x) (fun m t l hm => H.bnd m t l hm), ?_, canonFT_ok H2 hp hsf (rep_pack p3 p4)⟩
          exact (H.ext_back X2).trans (ext_fin w2 C' st' _ _ _)
      cases x with
      | normal => exact Or.inl (go hK)
      | ret => exact Or.inl (go hK)
      | exit i => exact Or.inr ⟨i, rfl⟩
    rcases hfin with hfin | ⟨i, rfl⟩
    · cases x with
      | normal => exact hfin
      | ret => exact hfin
      | exit i => cases hK
    · cases hK

/-! ### a round -/
theorem RelE.putAll {lo n : Nat} {w : World} {C : Ctx} : ∀ (ps : List Nat) (args : List PV) (xs : List Value) (e : Env) (tmps : Array Value), RelE lo w C e n { tmps := tmps, defers := [] } → ps.length = args.length → xs.length = args.length →
    (∀ (i : Nat) (x : Value) (p : PV), xs[i]? = some x → args[i]? = some p → Rep w C x p) → RelE lo w C (putAll n e ps args) n { tmps := (ps.zip xs).foldl (fun tmps (t, a) => tmps.setIfInBounds t a) tmps, defers := [] }
  | [], args, xs, e, tmps, h, h1, h2, hr => by
    obtain rfl : args = [] := List.length_eq_zero_iff.1 h1.symm
    exact h
  | t :: ps, p :: args, x :: xs, e, tmps, h, h1, h2, hr => by
    have := h.put (some t) (hr 0 x p rfl rfl)
    exact RelE.putAll ps args xs _ _ this (by simpa using h1) (by simpa using h2) fun i x p hx hp => hr (i + 1) x p (by simpa using hx) (by simpa using hp)
  | t :: ps, [], xs, e, tmps, h, h1, h2, hr => by simp at h1
  | t :: ps, p :: args, [], e, tmps, h, h1, h2, hr => by simp at h2

theorem run_getLoop {P : Program} {w : World} {B : Nat} {r : Loop} (h : w.heap[B]? = some (.loop r)) : (Instr.getLoop B).run P w = .ok r w := by simp [Instr.getLoop, getObj, Sem.run, h]
theorem run_setLoop {P : Program} {w : World} {B : Nat} {r : Loop} (h : w.heap[B]? = some (.loop r)) (r' : Loop) : (setObj B (.loop r')).run P w = .ok () { w with heap := w.heap.setIfInBounds B (.loop r') } := by simp [setObj, Sem.run, h]
theorem run_endRound {P : Program} {w : World} {B : Nat} {r : Loop} (h : w.heap[B]? = some (.loop r)) (jump : Option Code) :
    (Instr.endRound B jump).run P w = .ok (.bool jump.isNone) { w with heap := w.heap.setIfInBounds B (.loop { r with state := if jump.isNone then .ready else .done, pending := jump }) } := by
  simp only [Instr.endRound, Sem.run_bind, run_getLoop h, Result.andThen_ok, run_setLoop h, Sem.run_pure]
theorem run_beginRound {P : Program} {w : World} {B : Nat} {r : Loop} (h : w.heap[B]? = some (.loop r)) (hr : r.state = .ready) :
    (Instr.beginRound B).run P w = .ok () { w with heap := w.heap.setIfInBounds B (.loop { r with state := .busy }) } := by
  simp only [Instr.beginRound, Sem.run_bind, run_getLoop h, Result.andThen_ok, run_setLoop h, hr, Sem.run_pure]
theorem run_yield {P : Program} {w : World} {B : Nat} {r : Loop} {xs : Array Value} (h : w.heap[B]? = some (.loop r)) (hs : xs.size = r.params.size) :
    (Instr.yield B xs).run P w = .ok (.round B r.fn ((r.params.zip xs).foldl (fun tmps (t, a) => tmps.setIfInBounds t a) r.tmps) r.assign r.body) w := by
  simp [Instr.yield, run_getLoop h, hs]

theorem loop_lp {st : St} {i : Nat} {r : Lp} (h : st.loop i = some r) : st.lp[i]? = some (.loop r) := by
  unfold St.loop at h
  split at h
  · rename_i r' hr; rw [hr, Option.some.inj h]
  · cases h

theorem round_ok {L : Lib} (ok : LibOk L) {call : CallF} (G : Good L.P call) {k i : Nat} {lp : Lp} {args : List PV} {st : St} {r : PV × St} (hlp : st.loop i = some lp)
    (h : evRound L call (itK k) i lp args st = some r) {w : World} {C : Ctx} {bs : List (Nat × Nat × Nat)} {xs : Array Value} {B : Nat} (hB : C.lp i = some B) (H : Sim w C st bs) (hs : xs.size = args.length)
    (hr : ∀ (i : Nat) (x : Value) (p : PV), xs[i]? = some x → args[i]? = some p → Rep w C x p) :
    ∃ fn tmps assign body, (Instr.yield B xs).run L.P w = .ok (.round B fn tmps assign body) w ∧ RoundIn (fen none) 0 L.P B fn tmps assign body w (Post r bs w C) := by
  unfold evRound at h
  cases hc : Nat.beq lp.at_ 0 && Nat.beq args.length lp.ps.length with
  | false => rw [hc] at h; simp at h
  | true =>
    rw [hc] at h
    simp only [cond_true] at h
    rw [Bool.and_eq_true] at hc
    have hat := Nat.eq_of_beq_eq_true hc.1
    have hlen := Nat.eq_of_beq_eq_true hc.2
    obtain ⟨B', a1, fn, D, tmps, a2, a3, a4, a5⟩ := H.lps i _ (loop_lp hlp)
    rw [hB] at a1
    obtain rfl := Option.some.inj a1
    have hsz : xs.size = lp.ps.toArray.size := by simp; omega
    have hE0 : RelE w.heap.size w C (putAll lp.n (mkEnv lp.live lp.vs) lp.ps args) lp.n { tmps := (lp.ps.zip xs.toList).foldl (fun tmps (t, a) => tmps.setIfInBounds t a) tmps, defers := [] } :=
      RelE.putAll lp.ps args xs.toList _ tmps ⟨a3, a4, Marks.nil (Nat.le_refl _)⟩ hlen.symm (by simpa using hs) fun i x p hx hp => hr i x p (by simpa using hx) hp
    have hfold : (lp.ps.toArray.zip xs).foldl (fun tmps (t, a) => tmps.setIfInBounds t a) tmps = (lp.ps.zip xs.toList).foldl (fun (tmps : Array Value) (t, a) => tmps.setIfInBounds t a) tmps := by
      rw [← Array.foldl_toList, Array.toList_zip]
    refine ⟨fn, (lp.ps.zip xs.toList).foldl (fun tmps (t, a) => tmps.setIfInBounds t a) tmps, lp.assign, lp.body, ?_, ?_⟩
    · rw [← hfold]
      exact run_yield a2 hsz
    · have hbase : ∀ m t l, (m, t, l) ∈ ((st.stk.length, st.tk.length, st.lp.length) :: bs) → m ≤ st.stk.length := by
        intro m t l hm
        rcases List.mem_cons.1 hm with hm | hm
        · cases hm; exact Nat.le_refl _
        · exact (H.bnd m t l hm).1
      let Cf : Cfg := ⟨L.P, call, lp.n, st.stk.length, itK k, L.imp, lp.md, some i, st.lp.length⟩
      have hrd0 : ∀ {w' : World} {C' : Ctx}, Ext w C w' C' → RdOk Cf C' (some B) := fun x => x.lp _ _ hB
      have sound := @evCode_sound Cf (some B) w.heap.size ((st.stk.length, st.tk.length, st.lp.length) :: bs) G (k := k) rfl hbase st.tk.length (List.mem_cons_self ..) (draw_ok G hbase ok.mixed)
      refine roundIn_of_wpIn trivial ?_
      refine sound lp.assign lp.A.x _ st _ r _ w C _ h H.enter hE0 (hrd0 (Ext.refl w C)) ?_
      intro x e1 s1 b1 w1 C1 hK q1 q2 q3
      cases hx : isNormal x with
      | false => rw [hx] at hK; simp at hK
      | true =>
        rw [hx] at hK
        simp only [cond_true] at hK
        obtain rfl : x = .normal := by cases x <;> first | rfl | (simp [isNormal] at hx)
        unfold beginR at hK
        split at hK
        · rename_i q hq
          cases hq0 : Nat.beq q.at_ 0 with
          | false => rw [hq0] at hK; simp at hK
          | true =>
            rw [hq0] at hK
            simp only [cond_true] at hK
            have hqa := Nat.eq_of_beq_eq_true hq0
            have hB1 := q2.lp _ _ hB
            obtain ⟨B', c1, fn1, D1, tmps1, c2, c3, c4, c5⟩ := q1.lps i _ (loop_lp hq)
            rw [hB1] at c1
            obtain rfl := Option.some.inj c1
            obtain ⟨d1, d2⟩ := q1.setLp (r := .loop { q with at_ := 1 }) (ob := .loop (recOf { q with at_ := 1 } fn1 D1 tmps1)) (loop_lp hq) hB1 (by intro _ _ _ z; cases z)
              (fun C' hx => ⟨fn1, D1, tmps1, by show (w1.heap.setIfInBounds B _)[B]? = _; rw [Array.getElem?_setIfInBounds_self_of_lt (Array.getElem?_eq_some_iff.1 c2).1], c3, fun j => (c4 j).mono hx, fun m t l hm hl j => (c5 m t l hm hl j).mono (hx.cut m t l)⟩)
            have hbr : (Instr.beginRound B).run L.P w1 = .ok () { w1 with heap := w1.heap.setIfInBounds B (.loop (recOf { q with at_ := 1 } fn1 D1 tmps1)) } := by
              have := run_beginRound (P := L.P) c2 (by simp [recOf, hqa, stateOf])
              exact this
            refine ⟨_, hbr, ?_⟩
            refine sound lp.body lp.A.y e1 (s1.setLp i (.loop { q with at_ := 1 })) _ r b1 _ C1 _ hK d1 (q3.mono d2) (hrd0 (q2.trans d2)) ?_
            intro x2 e2 s2 b2 w2 C2 hK2 g1 g2 g3
            unfold finR at hK2
            split at hK2
            · rename_i q' hq'
              cases hq1 : Nat.beq q'.at_ 1 with
              | false => rw [hq1] at hK2; simp at hK2
              | true =>
                rw [hq1] at hK2
                simp only [cond_true] at hK2
                have hB2 := g2.lp _ _ (d2.lp _ _ hB1)
                obtain ⟨B', c1', fn2, D2, tmps2, c2', c3', c4', c5'⟩ := g1.lps i _ (loop_lp hq')
                rw [hB2] at c1'
                obtain rfl := Option.some.inj c1'
                obtain ⟨m1, m2⟩ := g1.setLp (r := .loop { q' with at_ := bif isNormal x2 then 0 else 2, pend := x2 }) (ob := .loop (recOf { q' with at_ := bif isNormal x2 then 0 else 2, pend := x2 } fn2 D2 tmps2)) (loop_lp hq') hB2 (by intro _ _ _ z; cases z)
                  (fun C' hx => ⟨fn2, D2, tmps2, by show (w2.heap.setIfInBounds B _)[B]? = _; rw [Array.getElem?_setIfInBounds_self_of_lt (Array.getElem?_eq_some_iff.1 c2').1], c3', fun j => (c4' j).mono hx, fun m t l hm hl j => (c5' m t l hm hl j).mono (hx.cut m t l)⟩)
                have hXX := ((q2.trans d2).trans g2).trans m2
                have hL := m1.leave (List.mem_cons_self ..) (bs' := bs) (fun _ x => List.mem_cons_of_mem _ x) fun m t l hm => H.bnd m t l hm
                obtain rfl := Option.some.inj hK2
                have hend : ∀ jump, pendOf x2 = jump → ∃ v w', (Instr.endRound B jump).run L.P w2 = .ok v w' ∧ Post (.v (.bool (isNormal x2)), (s2.setLp i (.loop { q' with at_ := bif isNormal x2 then 0 else 2, pend := x2 })).back st.stk.length st.tk.length st.lp.length) bs w C (.returned v) w' := by
                  intro jump hj
                  refine ⟨.bool jump.isNone, { w2 with heap := w2.heap.setIfInBounds B (.loop (recOf { q' with at_ := bif isNormal x2 then 0 else 2, pend := x2 } fn2 D2 tmps2)) }, ?_, .bool jump.isNone, C2.cut st.stk.length st.tk.length st.lp.length, rfl, hL, H.ext_back hXX, ?_⟩
                  · rw [run_endRound c2' jump]
                    subst hj
                    cases x2 <;> rfl
                  · have : jump.isNone = isNormal x2 := by subst hj; cases x2 <;> rfl
                    rw [this]; exact .v rfl
                cases x2 with
                | normal => exact hend none rfl
                | exit id => exact hend (some (.exit id)) rfl
                | ret => exact hend (some .ret) rfl
            · cases hK2
        · cases hK

theorem evF_good {L : Lib} (ok : LibOk L) : ∀ k, Good L.P (evF L k)
  | 0 => by intro f args st r h; cases h
  | k + 1 => by
    intro g args st r h
    cases g with
    | func f =>
      have h : (match L.prim f with
        | some g => g args st
        | none => match L.P.funcs[f]? with
          | some fn => match fn.body with
            | some c => evBody L (evF L k) (itK k) f fn c args st
            | none => none
          | none => none) = some r := h
      cases hp : L.prim f with
      | some g =>
        rw [hp] at h
        exact ok.prim f g hp (.func f) args st r (by simpa using h)
      | none =>
        rw [hp] at h
        simp only at h
        cases hf : L.P.funcs[f]? with
        | none => rw [hf] at h; cases h
        | some fn =>
          rw [hf] at h
          simp only at h
          cases hb : fn.body with
          | none => rw [hb] at h; cases h
          | some c =>
            rw [hb] at h
            simp only at h
            exact ⟨⟨fn, hf, ok.name f fn hf, by rw [hb]; rfl⟩, fun w C bs xs H hs hr => body_ok ok (evF_good ok k) hf hb h H hs hr⟩
    | yield i =>
      have h : (match st.loop i with
        | some r => evRound L (evF L k) (itK k) i r args st
        | none => none) = some r := h
      cases hl : st.loop i with
      | none => rw [hl] at h; cases h
      | some lp =>
        rw [hl] at h
        exact fun w C bs xs B hB H hs hr => round_ok ok (evF_good ok k) hl h hB H hs hr
    | _ => cases h

end Go.AM
