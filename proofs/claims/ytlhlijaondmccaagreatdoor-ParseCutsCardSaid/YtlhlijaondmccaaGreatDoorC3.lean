/- Part 3 of the proof of a law of the parser, its names made short by a program. No condition. -/
import Derived.Test.YtlhlijaondmccaaGreatDoorC2
import Derived.RangeFuncLeaves
import GoSem.ClaimWide
import Derived.IntWalk
import Derived.RecoverIn
import Derived.Lib.IndexMore
import Derived.Lib.IndexAny
import Derived.Lib.ItoaNum
import Derived.Lib.Bytealg
import Derived.Test.YtlhlijaondmccaaGreatDoorProg
import Derived.KernelRfl
set_option linter.all false
set_option maxRecDepth 100000
set_option maxHeartbeats 4000000
open _root_.Array renaming getD_eq_getD_getElem? → aS, getElem?_eq_getElem → bw, getElem?_setIfInBounds_ne → eI
open _root_.Bool renaming and_eq_true → an, and_self → bn, and_true → bC, false_eq_true → ae, not_false → bf
open _root_.List renaming all_cons → bq, all_eq_true → dH, all_nil → bT, drop_zero → aO, getElem?_append → fO, getElem?_cons_succ → az, getElem?_cons_zero → aB, getElem?_drop → ik, getElem?_eq_getElem → cO, getElem?_take → fP, length_append → bH, length_cons → ai, map_cons → aZ, mem_cons_of_mem → bS, mem_cons_self → bI, mem_of_getElem? → eJ, take_zero → bj
open _root_.Nat renaming add_zero → bu, beq → aj, ble → dI, blt → fZ, eq_of_beq_eq_true → ax, le_of_ble_eq_true → eG, le_refl → av, zero_le → dE
open _root_.Option renaming bind_some → ag, map_some → aN
open _root_.Or renaming inl → dw, inr → dr
namespace Go.AM
open Go Go.RowKit
section
variable {Cf : Cfg} {lo : Nat} {w : World} {C : Ctx} {st : St} {bs : List (Nat × Nat × Nat)}
theorem CO {agg : Bool} {size : Nat} {x : Value} {p r : PV} (h : ak agg size p st = some r) (hx : Rep w C x p) : ∃ ad, x = .pointer (some ad) := by
 unfold ak at h; split at h
 · cases hx with | ptr _ => exact ⟨_, rfl⟩
 · cases hx with | fp _ _ _ _ _ => exact ⟨_, rfl⟩
 · cases h
def yj (tmps : Array Value) : ResultVar → Sem Value
 | .tmp t => pure (tmps.getD t undef)
 | .cell a t => do loadVar t (← asAddr (tmps.getD a undef))
theorem mJ {R : Type} {a : Act} {e : Env} (H : Sim w C st bs) (hE : ∀ i, Rep w C (a.tmps.getD i undef) (e i)) {r : R} : ∀ (rs : List ResultVar) (K : List PV → Option R), fU Cf rs e st K = some r →
 ∃ ps vs, K ps = some r ∧ (rs.mapM (yj a.tmps)).run Cf.P w = .ok vs w ∧ vs.length = ps.length ∧ ∀ (i : Nat) (x : Value) (p : PV), vs[i]? = some x → ps[i]? = some p → Rep w C x p
 | [], K, h => ⟨[], [], h, by simp, rfl, by simp⟩
 | .tmp t :: rs, K, h => by
  obtain ⟨ps, vs, h1, h2, h3, h4⟩ := mJ H hE rs _ h; refine ⟨e t :: ps, a.tmps.getD t undef :: vs, h1, by simp [List.mapM_cons, yj, h2], by simp [h3], fun i x p hx hp => ?_⟩
  cases i with
  | zero => simp at hx hp; subst hx; subst hp; have := hE t; rw [aS] at this; exact this
  | succ i => simp at hx hp; exact h4 i x p hx hp
 | .cell ad t :: rs, K, h => by
  simp only [fU] at h; split at h
  · rename_i d hu
    obtain ⟨p, hp, h⟩ := Option.bind_eq_some_iff.1 h; obtain ⟨ps, vs, h1, h2, h3, h4⟩ := mJ H hE rs _ h; obtain ⟨v, hv, hr⟩ := sX H ⟨d, hu⟩ hp (hE ad); obtain ⟨q, hq⟩ := CO hp (hE ad)
    have hrun : (yj a.tmps (.cell ad t)).run Cf.P w = .ok v w := by
     simp only [yj, hq]; rw [hq] at hv; simpa [Instr.loadAt, Instr.sureAddr, asAddr] using hv
    refine ⟨p :: ps, v :: vs, h1, by simp [List.mapM_cons, hrun, h2], by simp [h3], fun i x p' hx hp' => ?_⟩
    cases i with
    | zero => simp at hx hp'; subst hx; subst hp'; exact hr
    | succ i => simp at hx hp'; exact h4 i x p' hx hp'
  · cases h
theorem rj {fn : Func} {tmps : Array Value} {vs : List Value} (h : (fn.results.toList.mapM (yj tmps)).run Cf.P w = .ok vs w) :
 (results fn tmps).run Cf.P w = .ok (if h : vs.toArray.size = 1 then vs.toArray[0] else .tuple vs.toArray) w := by
 have : results fn tmps = (do let vs ← fn.results.mapM (yj tmps); pure (if h : vs.size = 1 then vs[0] else .tuple vs)) := by
  unfold results
  congr 1
 rw [this, Array.mapM_eq_mapM_toList]; simp only [Sem.run_bind, Sem.run_map, h, Result.andThen_ok, Sem.run_pure]
theorem w7 {ps : List PV} {vs : List Value} (hl : vs.length = ps.length) (hr : ∀ (i : Nat) (x : Value) (p : PV), vs[i]? = some x → ps[i]? = some p → Rep w C x p) :
 Rep w C (if h : vs.toArray.size = 1 then vs.toArray[0] else .tuple vs.toArray) (lj ps) := by
 match ps, vs, hl, hr with
 | [], [], _, _ => exact .tup rfl (by simp)
 | [p], [v], _, hr => exact hr 0 v p rfl rfl
 | p :: q :: ps, v :: u :: vs, hl, hr =>
  rw [dif_neg (by simp)]
  exact .tup (by simpa using hl) fun i x r hx hp => hr i x r (by simpa using hx) hp
end
def gone (C : Ctx) (st : St) (m : Nat) (B : Nat) (_ : Nat) : Prop := ∃ b cs, m ≤ b ∧ C.σ false b = some B ∧ st.blk false b = some cs ∧ cs ≠ []
def Ctx.fin (C : Ctx) (st : St) (m t l : Nat) : Ctx := ⟨fun B o => C.S B o ∨ gone C st m B o, (C.cut m t l).σ, (C.cut m t l).tl, (C.cut m t l).lp, C.N⟩
section
variable {w : World} {C : Ctx} {st : St} {bs bs' : List (Nat × Nat × Nat)} {m t l : Nat}
theorem rF (w : World) (C : Ctx) (st : St) (m t l : Nat) : Ext w (C.cut m t l) w (C.fin st m t l) :=
 Ext.same rfl (fun _ _ x => dw x) (fun _ _ _ x => x) (fun _ _ B f to e _ x => ⟨B, f, to, e, x, av _, fun _ => ⟨rfl, rfl, rfl⟩⟩) (fun _ _ x => x)
theorem xN (w : World) (C : Ctx) (st : St) (m t l : Nat) : Ext w C.fz w (C.fin st m t l).fz := by
 refine Ext.same rfl (fun _ _ x => dw x) (fun h b B x => ?_) (fun _ _ _ _ _ _ _ x => by simp [Ctx.fz] at x) (fun _ _ x => by simp [Ctx.fz] at x)
 cases h with
 | true => exact x
 | false => simp [Ctx.fz] at x
theorem Sim.fin (H : Sim w C st bs) (h0 : (m, t, l) ∈ bs) (hin : ∀ x ∈ bs', x ∈ bs) (hbs : ∀ m' t' l', (m', t', l') ∈ bs' → m' ≤ m ∧ t' ≤ t ∧ l' ≤ l) : Sim w (C.fin st m t l) (st.back m t l) bs' := by
 have hL := H.leave h0 hin hbs; refine (hL.more (X := gone C st m) ?_).1
 rintro B o ⟨b, cs, hb, hσ, hcs, hne⟩
 refine ⟨H.σlt hσ, fun h' b' cs' hσ' hcs' => ?_, fun ow tt B' f to e s x y z q => ?_⟩
 · obtain ⟨k1, k2⟩ := nj hcs'
   have hσ2 : C.σ h' b' = some B := by
    cases h' with
    | true => exact hσ'
    | false => simp only [Ctx.cut] at hσ'; rw [if_pos (k2 rfl)] at hσ'; exact hσ'
   rcases H.inj _ _ _ _ _ hσ2 hσ with ⟨rfl, rfl⟩ | q | q
   · have := k2 rfl; omega
   · rw [k1] at q; exact Option.some.inj q
   · rw [hcs] at q; exact absurd (Option.some.inj q) hne
 · subst q
   have htl : C.tl ow tt = some (B', f, to, e, s) := by
    cases ow with
    | fr => simp only [Ctx.cut] at x; split at x <;> first | exact x | cases x
    | bl a b2 =>
     cases a with
     | true => exact x
     | false => simp only [Ctx.cut] at x; split at x <;> first | exact x | cases x
   exact absurd hσ (((H.tok ow tt B' f to e s htl).2 o y z).2.1.1 false b)
theorem tJ (H : Sim w C st bs) {n : Nat} {x : Value} {p q : PV} (h : lz m st p = some q) (hs : sf false m n q = true) (hx : Rep w C x p) : Rep w (C.fin st m t l) x q := by
 unfold lz at h; split at h
 · rename_i b off len sz
   cases hb : dI m b with
   | false =>
    rw [hb] at h; obtain rfl := Option.some.inj h; exact (w6 t l hx hs).mono (rF w C st m t l)
   | true =>
    rw [hb] at h; simp only [cond_true] at h; obtain ⟨cs, hcs, h⟩ := Option.bind_eq_some_iff.1 h; obtain ⟨ds, hds, h⟩ := Option.bind_eq_some_iff.1 h
    cases hq : ds.all (sf false 0 4) && !aj sz 0 with
    | false => rw [hq] at h; simp at h
    | true =>
     rw [hq] at h; obtain rfl := Option.some.inj h; have hb := eG hb; obtain ⟨old, hold, hle, rfl⟩ := pZ hcs; obtain ⟨p1, p2⟩ := lk hds
     have hdl : ds.length = len * sz := by rw [p1]; simp; omega
     cases hx with
     | @rs _ _ _ _ _ cap _ B arr elem fr h1 h2 h3 h4 =>
      obtain ⟨B', arr', elem', fr', a1, a2, a3, a4, a5, a6, a7, a8⟩ := H.blk false b old hold; rw [h1] at a1; obtain rfl := Option.some.inj a1; rw [h3] at a2; cases a2
      have hget : ∀ (i j : Nat) (e : List PV) (p : PV), (chunks sz len ds)[i]? = some e → e[j]? = some p → ∃ p' y, old[off + (i * sz + j)]? = some p' ∧ eR p' = some p ∧ arr[off + (i * sz + j)]? = some y := by
       intro i j e p he hp; obtain ⟨q1, q2, q3⟩ := iR sz len ds i e hdl he; obtain ⟨p', hp1, hp2⟩ := p2 _ p (q3 j p hp); rw [fP] at hp1; split at hp1
       · rw [ik] at hp1
         have := (List.getElem?_eq_some_iff.1 hp1).1; exact ⟨p', _, hp1, hp2, bw (by omega)⟩
       · cases hp1
      have hf : ∀ (i j : Nat) (e : List PV) (p : PV), (chunks sz len ds)[i]? = some e → e[j]? = some p → arr[off + (i * sz + j)]? = some (arr[off + (i * sz + j)]?.getD .nilFunc) := by
       intro i j e p he hp; obtain ⟨_, y, _, _, hy⟩ := hget i j e p he hp
       rw [hy]; rfl
      refine .sl sz (fun i j => arr[off + (i * sz + j)]?.getD .nilFunc) (ju _ _ _).symm h2 (fun i e he => (iR sz len ds i e hdl he).2.1) (fun i e j p he hp => ?_) (fun i e j p he hp => ?_) (fun i e j p he hp => ?_) (fun i e j p he hp => ?_) trivial
      · obtain ⟨p', y, k1, _, _⟩ := hget i j e p he hp
        exact dr ⟨b, old, hb, h1, hold, fun z => by rw [z] at k1; simp at k1⟩
      · rw [Nat.add_assoc, World.cell?, h3]
        exact hf i j e p he hp
      · exact a6 _ _ (hf i j e p he hp)
      · obtain ⟨p', y, k1, k2, k3⟩ := hget i j e p he hp
        have := a7 _ y p' k3 k1; rw [k3]; exact (lR (C' := C.fz) k2 this rfl (Ctx.CA C)).mono (xN w C st m t l)
 · obtain rfl := Option.some.inj h
   exact (w6 t l (oW hx) hs).mono (rF w C st m t l)
theorem qY : ∀ {cs ds : List PV}, kY m st cs = some ds → ds.length = cs.length ∧ ∀ (i : Nat) (q : PV), ds[i]? = some q → ∃ p, cs[i]? = some p ∧ lz m st p = some q
 | [], ds, h => by obtain rfl := Option.some.inj h; exact ⟨rfl, by simp⟩
 | c :: cs, ds, h => by
  simp only [kY] at h; obtain ⟨q, hq, h⟩ := Option.bind_eq_some_iff.1 h; obtain ⟨qs, hqs, h⟩ := Option.bind_eq_some_iff.1 h; obtain rfl := Option.some.inj h; obtain ⟨h1, h2⟩ := qY hqs; refine ⟨by simp [h1], fun i r hr => ?_⟩
  cases i with
  | zero => simp at hr; subst hr; exact ⟨c, rfl, hq⟩
  | succ i => simp at hr; simpa using h2 i r hr
theorem py : ∀ {cs ds : List PV}, lG m st cs = some ds → ds.length = cs.length ∧ ∀ (i : Nat) (q : PV), ds[i]? = some q → ∃ p, cs[i]? = some p ∧ j0 m st p = some q
 | [], ds, h => by obtain rfl := Option.some.inj h; exact ⟨rfl, by simp⟩
 | c :: cs, ds, h => by
  simp only [lG] at h; obtain ⟨q, hq, h⟩ := Option.bind_eq_some_iff.1 h; obtain ⟨qs, hqs, h⟩ := Option.bind_eq_some_iff.1 h; obtain rfl := Option.some.inj h; obtain ⟨h1, h2⟩ := py hqs; refine ⟨by simp [h1], fun i r hr => ?_⟩
  cases i with
  | zero => simp at hr; subst hr; exact ⟨c, rfl, hq⟩
  | succ i => simp at hr; simpa using h2 i r hr
theorem rS (H : Sim w C st bs) {n : Nat} {x : Value} {p q : PV} (h : j0 m st p = some q) (hs : sf false m n q = true) (hx : Rep w C x p) : Rep w (C.fin st m t l) x q := by
 unfold j0 at h; split at h
 · obtain ⟨ds, hds, h⟩ := Option.bind_eq_some_iff.1 h
   obtain rfl := Option.some.inj h; obtain ⟨g1, g2⟩ := qY hds
   cases n with
   | zero => simp [sf] at hs
   | succ n =>
    simp only [sf, dH] at hs
    cases hx with
    | agg h1 h2 h3 =>
     refine .agg (by rw [g1]; exact h1) h2 fun i x q hx hq => ?_
     obtain ⟨p, hp, hc⟩ := g2 i q hq; exact tJ H hc (hs q (eJ hq)) (h3 i x p hx hp)
 · exact tJ H h hs hx
theorem rT (H : Sim w C st bs) {n : Nat} {x : Value} {p q : PV} (h : j5 m st p = some q) (hs : sf false m n q = true) (hx : Rep w C x p) : Rep w (C.fin st m t l) x q := by
 unfold j5 at h; split at h
 · obtain ⟨ds, hds, h⟩ := Option.bind_eq_some_iff.1 h
   obtain rfl := Option.some.inj h; obtain ⟨g1, g2⟩ := py hds
   cases n with
   | zero => simp [sf] at hs
   | succ n =>
    simp only [sf, dH] at hs
    cases hx with
    | tup h1 h3 =>
     refine .tup (by rw [g1]; exact h1) fun i x q hx hq => ?_
     obtain ⟨p, hp, hc⟩ := g2 i q hq; exact rS H hc (hs q (eJ hq)) (h3 i x p hx hp)
 · exact rS H h hs hx
theorem qC {P : Program} {fn : Func} {tmps : Array Value} {R : Ending → World → Prop} {w0 : World} {C0 : Ctx} {lo : Nat} (hlo : lo = w0.heap.size) {u : FrameMode} (hu : u ≠ .run)
 {J : World → Prop} (hJ : ∀ w w', (∀ (x : Value) (p : PV), Rep w C x p → Rep w' C x p) → J w → J w') :
 ∀ (ds : List Deferred) (w : World), Sim w C st bs → Ext w0 C0 w C → Marks w lo ds → J w → C.N ≤ lo →
  (∀ w', Sim w' C st bs → Ext w0 C0 w' C → J w' → LeavesInM (fen none) 0 P fn tmps R [] u w') → LeavesInM (fen none) 0 P fn tmps R ds u w
 | [], w, H, hx, hm, hr, hN, hk => hk w H hx hr
 | d :: ds, w, H, hx, hm, hr, hN, hk => by
  obtain ⟨D, rfl, h1, h2⟩ := hm.ok d (bI ..)
  obtain ⟨k1, k2, k3⟩ := H.setObj (ob := .deferred none) h2 (by omega) (fun i hi => by
   obtain ⟨r, hr⟩ := H.kM i D hi; obtain ⟨B, a1, a2⟩ := H.lps i r hr; rw [hi] at a1; obtain rfl := Option.some.inj a1
   cases r with
   | iter s pos => have a2 : w.heap[D]? = some (.stringIter s pos) := a2; rw [h2] at a2; cases a2
   | loop r => obtain ⟨_, _, _, q, _⟩ := a2; rw [h2] at q; cases q) (by intro _ _ _ q; cases q) (by intro _ _ _ q; cases q) (lo := lo) (fun _ _ _ => h1) hx hlo
  refine ⟨hu, dw ⟨D, { w with heap := w.heap.setIfInBounds D (.deferred none) }, rfl, ?_, ?_⟩⟩
  · simp [Instr.takeDeferred, getObj, setObj, Sem.run, h2]
  · refine qC hlo hu hJ ds _ k1 k2 ⟨by simpa using hm.le, fun d' hd' => ?_, (List.pairwise_cons.1 hm.nd).2⟩ (hJ _ _ (fun x p => k3) hr) hN hk
    obtain ⟨D', rfl, g1, g2⟩ := hm.ok d' (bS _ hd'); refine ⟨D', rfl, g1, ?_⟩
    show (w.heap.setIfInBounds D _)[D']? = _
    rw [eI]
    · exact g2
    · rintro rfl
      exact (List.pairwise_cons.1 hm.nd).1 _ hd' D rfl rfl
theorem wJ {P : Program} {fn : Func} {tmps : Array Value} {R : Ending → World → Prop} {e : Env} {w0 : World} {C0 : Ctx} {lo : Nat} (hlo : lo = w0.heap.size)
 (ds : List Deferred) (w : World) (H : Sim w C st bs) (hx : Ext w0 C0 w C) (hm : Marks w lo ds) (hr : ∀ i, Rep w C (tmps.getD i undef) (e i)) (hN : C.N ≤ lo)
 (hk : ∀ w', Sim w' C st bs → Ext w0 C0 w' C → (∀ i, Rep w' C (tmps.getD i undef) (e i)) → ∃ v, (results fn tmps).run P w' = .ok v w' ∧ R (.returned v) w') : LeavesInM (fen none) 0 P fn tmps R ds .returning w :=
 qC hlo (by simp) (J := fun w => ∀ i, Rep w C (tmps.getD i undef) (e i)) (fun w w' h hj i => h _ _ (hj i)) ds w H hx hm hr hN fun w' h1 h2 h3 => hk w' h1 h2 h3
theorem AO {P : Program} {fn : Func} {tmps : Array Value} {R : Ending → World → Prop} {w0 : World} {C0 : Ctx} {lo : Nat} (hlo : lo = w0.heap.size) {chain : List PanicEntry}
 (ds : List Deferred) (w : World) (H : Sim w C st bs) (hx : Ext w0 C0 w C) (hm : Marks w lo ds) (hN : C.N ≤ lo)
 (hk : ∀ w', Sim w' C st bs → Ext w0 C0 w' C → R (.panicked chain) w') : LeavesInM (fen none) 0 P fn tmps R ds (.panicking chain) w :=
 qC hlo (by simp) (J := fun _ => True) (fun _ _ _ _ => trivial) ds w H hx hm trivial hN fun w' h1 h2 _ => hk w' h1 h2
end
structure vB (gv : GV) (L : Lib) : Prop where
 gl : GOk gv L.gl
 name : ∀ (f : Nat) (fn : Func), L.P.funcs[f]? = some fn → (fn.name == "runtime.NumGoroutine") = false
 mixed : L.P.follows .mixedOrders = true
 mD : ∀ f q, L.mD f = some q → ∀ call, Good gv L.pn L.P call → Good gv L.pn L.P fun f' args st => match f' with
  | .func k => if k = f then q.g call args st else none
  | _ => none
theorem EI {gv : GV} {L : Lib} (ok : vB gv L) {call : bD} (G : Good gv L.pn L.P call) {k f : Nat} {fn : Func} {c : Code} (hf : L.P.funcs[f]? = some fn) (hb : fn.body = some c) {args : List PV} {st : St} {r : PV × St}
 (h : iD L call (itK k) f fn c args st = some r) {w : World} {C : Ctx} {bs : List (Nat × Nat × Nat)} {xs : Array Value} (hg : mY gv w C) (H : Sim w C st bs) (hs : xs.size = args.length)
 (hr : ∀ (i : Nat) (x : Value) (p : PV), xs[i]? = some x → args[i]? = some p → Rep w C x p) :
 Calls L.P f xs w (rq r bs w C) := by
 unfold iD at h
 cases hn : dI args.length fn.ntmps with
 | false => rw [hn] at h; simp at h
 | true =>
  rw [hn] at h; simp only [cond_true] at h; have hn := eG hn; refine re (rd := none) (n := 0) (callsIn_of_wp_marks hf hb trivial ?_)
  have hbase : ∀ m t l, (m, t, l) ∈ ((st.stk.length, st.tk.length, st.lp.length) :: bs) → m ≤ st.stk.length := by
   intro m t l hm
   rcases List.mem_cons.1 hm with hm | hm
   · cases hm; exact av _
   · exact (H.bnd m t l hm).1
  let Cf : Cfg := ⟨L.P, call, fn.ntmps, st.stk.length, itK k, L.imp, L.md f, none, st.lp.length, L.gl, L.pn⟩
  refine mr (Cf := Cf) (rd := none) (lo := w.heap.size) (bs := (st.stk.length, st.tk.length, st.lp.length) :: bs) G (k := k) rfl hbase st.tk.length (bI ..) (uX G hbase ok.mixed) c (L.ann f) (jO 0 args) st _ r _ w C _ h H.enter (eK.enter ⟨hg, ok.gl⟩ hs hn hr) trivial ?_; intro x e' st' a' w' C' hK q1 q2 q3
  have go : nA x = false → fU Cf fn.results.toList e' st' (fun ps => fin st.stk.length st.tk.length st.lp.length ps st') = some r → bodyPostM (fen none) 0 L.P fn (rq r bs w C) .ret a' w' := by
   intro hx hres; have q3 := q3.rel hx
   refine wJ (e := e') rfl a'.defers w' q1 q2 q3.defers q3.rep (by rw [q2.N]; exact H.low.1) fun w2 H2 X2 hr2 => ?_
   obtain ⟨ps, vs, p1, p2, p3, p4⟩ := mJ (Cf := Cf) H2 hr2 _ _ hres; refine ⟨_, rj (Cf := Cf) p2, ?_⟩; unfold fin at p1; obtain ⟨p, hp, p1⟩ := Option.bind_eq_some_iff.1 p1
   cases hsf : sf false st.stk.length 4 p with
   | false => rw [hsf] at p1; simp at p1
   | true =>
    rw [hsf] at p1; obtain rfl := Option.some.inj p1; refine ⟨C'.fin st' st.stk.length st.tk.length st.lp.length, H2.fin (bI ..) (fun _ x => bS _ x) (fun m t l hm => H.bnd m t l hm), ?_, Ends.of (rT H2 hp hsf (w7 p3 p4))⟩; exact (H.nv X2).trans (rF w2 C' st' _ _ _)
  cases hpn : L.pn.any (aj f) with
  | false =>
   rw [hpn] at hK; simp only [cond_false] at hK
   cases x with
   | normal => exact go rfl hK
   | ret => exact go rfl hK
   | exit i => cases hK
   | pan t v => cases hK
  | true =>
   rw [hpn] at hK; simp only [cond_true] at hK
   cases x with
   | normal => exact go rfl hK
   | ret => exact go rfl hK
   | exit i => cases hK
   | pan t v =>
    obtain rfl := Option.some.inj hK; have q3 : Ar gv w.heap.size w' C' Cf.n a' := q3
    refine AO rfl a'.defers w' q1 q2 q3.defers (by rw [q2.N]; exact H.low.1) fun w2 H2 X2 => ?_
    exact ⟨C'.cut st.stk.length st.tk.length st.lp.length, H2.leave (bI ..) (bs' := bs) (fun _ x => bS _ x) fun m t l hm => H.bnd m t l hm, H.nv X2, rfl⟩
theorem eK.oV {gv : GV} {g : Nat → PV} {lo n : Nat} {w : World} {C : Ctx} : ∀ (ps : List Nat) (args : List PV) (xs : List Value) (e : Env) (tmps : Array Value), eK gv g lo w C e n { tmps := tmps, defers := [] } → ps.length = args.length → xs.length = args.length →
 (∀ (i : Nat) (x : Value) (p : PV), xs[i]? = some x → args[i]? = some p → Rep w C x p) → eK gv g lo w C (oV n e ps args) n { tmps := (ps.zip xs).foldl (fun tmps (t, a) => tmps.setIfInBounds t a) tmps, defers := [] }
 | [], args, xs, e, tmps, h, h1, h2, hr => by
  obtain rfl : args = [] := List.length_eq_zero_iff.1 h1.symm; exact h
 | t :: ps, p :: args, x :: xs, e, tmps, h, h1, h2, hr => by
  have := h.put (some t) (hr 0 x p rfl rfl)
  exact eK.oV ps args xs _ _ this (by simpa using h1) (by simpa using h2) fun i x p hx hp => hr (i + 1) x p (by simpa using hx) (by simpa using hp)
 | t :: ps, [], xs, e, tmps, h, h1, h2, hr => by simp at h1
 | t :: ps, p :: args, [], e, tmps, h, h1, h2, hr => by simp at h2
theorem nJ {P : Program} {w : World} {B : Nat} {r : Loop} (h : w.heap[B]? = some (.loop r)) : (Instr.getLoop B).run P w = .ok r w := by simp [Instr.getLoop, getObj, Sem.run, h]
theorem rk {P : Program} {w : World} {B : Nat} {r : Loop} (h : w.heap[B]? = some (.loop r)) (r' : Loop) : (setObj B (.loop r')).run P w = .ok () { w with heap := w.heap.setIfInBounds B (.loop r') } := by simp [setObj, Sem.run, h]
theorem vu {P : Program} {w : World} {B : Nat} {r : Loop} (h : w.heap[B]? = some (.loop r)) (jump : Option Code) :
 (Instr.endRound B jump).run P w = .ok (.bool jump.isNone) { w with heap := w.heap.setIfInBounds B (.loop { r with state := if jump.isNone then .ready else .done, pending := jump }) } := by
 simp only [Instr.endRound, Sem.run_bind, nJ h, Result.andThen_ok, rk h, Sem.run_pure]
theorem sP {P : Program} {w : World} {B : Nat} {r : Loop} (h : w.heap[B]? = some (.loop r)) (hr : r.state = .ready) :
 (Instr.beginRound B).run P w = .ok () { w with heap := w.heap.setIfInBounds B (.loop { r with state := .busy }) } := by
 simp only [Instr.beginRound, Sem.run_bind, nJ h, Result.andThen_ok, rk h, hr, Sem.run_pure]
theorem Bc {P : Program} {w : World} {B : Nat} {r : Loop} {xs : Array Value} (h : w.heap[B]? = some (.loop r)) (hs : xs.size = r.params.size) :
 (Instr.yield B xs).run P w = .ok (.round B r.fn ((r.params.zip xs).foldl (fun tmps (t, a) => tmps.setIfInBounds t a) r.tmps) r.assign r.body) w := by
 simp [Instr.yield, nJ h, hs]
theorem pT {st : St} {i : Nat} {r : Lp} (h : st.loop i = some r) : st.lp[i]? = some (.loop r) := by
 unfold St.loop at h; split at h
 · rename_i r' hr; rw [hr, Option.some.inj h]
 · cases h
theorem Df {gv : GV} {L : Lib} (ok : vB gv L) {call : bD} (G : Good gv L.pn L.P call) {k i : Nat} {lp : Lp} {args : List PV} {st : St} {r : PV × St} (hlp : st.loop i = some lp)
 (h : jc L call (itK k) i lp args st = some r) {w : World} {C : Ctx} {bs : List (Nat × Nat × Nat)} {xs : Array Value} {B : Nat} (hB : C.lp i = some B) (hg : mY gv w C) (H : Sim w C st bs) (hs : xs.size = args.length)
 (hr : ∀ (i : Nat) (x : Value) (p : PV), xs[i]? = some x → args[i]? = some p → Rep w C x p) :
 ∃ fn tmps assign body, (Instr.yield B xs).run L.P w = .ok (.round B fn tmps assign body) w ∧ RoundIn (fen none) 0 L.P B fn tmps assign body w (rq r bs w C) := by
 unfold jc at h
 cases hc : aj lp.at_ 0 && aj args.length lp.ps.length with
 | false => rw [hc] at h; simp at h
 | true =>
  rw [hc] at h; simp only [cond_true] at h; rw [an] at hc; have hat := ax hc.1; have hlen := ax hc.2; obtain ⟨B', a1, fn, D, tmps, a2, a3, a4, a5⟩ := H.lps i _ (pT hlp); rw [hB] at a1; obtain rfl := Option.some.inj a1
  have hsz : xs.size = lp.ps.toArray.size := by simp; omega
  have hE0 : eK gv L.gl w.heap.size w C (oV lp.n (fe lp.live lp.vs) lp.ps args) lp.n { tmps := (lp.ps.zip xs.toList).foldl (fun tmps (t, a) => tmps.setIfInBounds t a) tmps, defers := [] } :=
   eK.oV lp.ps args xs.toList _ tmps ⟨⟨hg, ok.gl⟩, a3, a4, Marks.nil (av _)⟩ hlen.symm (by simpa using hs) fun i x p hx hp => hr i x p (by simpa using hx) hp
  have hfold : (lp.ps.toArray.zip xs).foldl (fun tmps (t, a) => tmps.setIfInBounds t a) tmps = (lp.ps.zip xs.toList).foldl (fun (tmps : Array Value) (t, a) => tmps.setIfInBounds t a) tmps := by
   rw [← Array.foldl_toList, Array.toList_zip]
  refine ⟨fn, (lp.ps.zip xs.toList).foldl (fun tmps (t, a) => tmps.setIfInBounds t a) tmps, lp.assign, lp.body, ?_, ?_⟩
  · rw [← hfold]
    exact Bc a2 hsz
  · have hbase : ∀ m t l, (m, t, l) ∈ ((st.stk.length, st.tk.length, st.lp.length) :: bs) → m ≤ st.stk.length := by
     intro m t l hm
     rcases List.mem_cons.1 hm with hm | hm
     · cases hm; exact av _
     · exact (H.bnd m t l hm).1
    let Cf : Cfg := ⟨L.P, call, lp.n, st.stk.length, itK k, L.imp, lp.md, some i, st.lp.length, L.gl, L.pn⟩
    have hrd0 : ∀ {w' : World} {C' : Ctx}, Ext w C w' C' → uE Cf C' (some B) := fun x => x.lp _ _ hB
    have sound := @mr gv Cf (some B) w.heap.size ((st.stk.length, st.tk.length, st.lp.length) :: bs) G (k := k) rfl hbase st.tk.length (bI ..) (uX G hbase ok.mixed); refine roundIn_of_wpIn trivial ?_; refine sound lp.assign lp.A.x _ st _ r _ w C _ h H.enter hE0 (hrd0 (Ext.refl w C)) ?_; intro x e1 s1 b1 w1 C1 hK q1 q2 q3
    cases hx : gD x with
    | false => rw [hx] at hK; simp at hK
    | true =>
     rw [hx] at hK; simp only [cond_true] at hK
     obtain rfl : x = .normal := by cases x <;> first | rfl | (simp [gD] at hx)
     unfold uN at hK; split at hK
     · rename_i q hq
       cases hq0 : aj q.at_ 0 with
       | false => rw [hq0] at hK; simp at hK
       | true =>
        rw [hq0] at hK; simp only [cond_true] at hK; have hqa := ax hq0; have hB1 := q2.lp _ _ hB; obtain ⟨B', c1, fn1, D1, tmps1, c2, c3, c4, c5⟩ := q1.lps i _ (pT hq); rw [hB1] at c1; obtain rfl := Option.some.inj c1
        obtain ⟨d1, d2⟩ := q1.ll (r := .loop { q with at_ := 1 }) (ob := .loop (nG { q with at_ := 1 } fn1 D1 tmps1)) (pT hq) hB1 (by intro _ _ _ z; cases z)
         (fun C' hx => ⟨fn1, D1, tmps1, by show (w1.heap.setIfInBounds B _)[B]? = _; rw [Array.getElem?_setIfInBounds_self_of_lt (Array.getElem?_eq_some_iff.1 c2).1], c3, fun j => (c4 j).mono hx, fun m t l hm hl j => (c5 m t l hm hl j).mono (hx.cut m t l)⟩)
        have hbr : (Instr.beginRound B).run L.P w1 = .ok () { w1 with heap := w1.heap.setIfInBounds B (.loop (nG { q with at_ := 1 } fn1 D1 tmps1)) } := by
         have := sP (P := L.P) c2 (by simp [nG, hqa, qe]); exact this
        refine ⟨_, hbr, ?_⟩; refine sound lp.body lp.A.y e1 (s1.ll i (.loop { q with at_ := 1 })) _ r b1 _ C1 _ hK d1 ((q3 : eK gv Cf.gl w.heap.size w1 C1 e1 Cf.n b1).mono d2) (hrd0 (q2.trans d2)) ?_; intro x2 e2 s2 b2 w2 C2 hK2 g1 g2 g3; unfold EN at hK2; split at hK2
        · rename_i q' hq'
          cases hq0 : aj q'.at_ 1 && !nA x2 with
          | false => rw [hq0] at hK2; simp at hK2
          | true =>
           rw [hq0] at hK2; simp only [cond_true] at hK2; rw [an] at hq0; have hq1 := hq0.1
           have hpx : nA x2 = false := by simpa using hq0.2
           have hB2 := g2.lp _ _ (d2.lp _ _ hB1); obtain ⟨B', c1', fn2, D2, tmps2, c2', c3', c4', c5'⟩ := g1.lps i _ (pT hq'); rw [hB2] at c1'; obtain rfl := Option.some.inj c1'
           obtain ⟨m1, m2⟩ := g1.ll (r := .loop { q' with at_ := bif gD x2 then 0 else 2, oq := x2 }) (ob := .loop (nG { q' with at_ := bif gD x2 then 0 else 2, oq := x2 } fn2 D2 tmps2)) (pT hq') hB2 (by intro _ _ _ z; cases z)
            (fun C' hx => ⟨fn2, D2, tmps2, by show (w2.heap.setIfInBounds B _)[B]? = _; rw [Array.getElem?_setIfInBounds_self_of_lt (Array.getElem?_eq_some_iff.1 c2').1], c3', fun j => (c4' j).mono hx, fun m t l hm hl j => (c5' m t l hm hl j).mono (hx.cut m t l)⟩)
           have hXX := ((q2.trans d2).trans g2).trans m2
           have hL := m1.leave (bI ..) (bs' := bs) (fun _ x => bS _ x) fun m t l hm => H.bnd m t l hm
           obtain rfl := Option.some.inj hK2
           have hend : ∀ jump, mB x2 = jump → ∃ v w', (Instr.endRound B jump).run L.P w2 = .ok v w' ∧ rq (.v (.bool (gD x2)), (s2.ll i (.loop { q' with at_ := bif gD x2 then 0 else 2, oq := x2 })).back st.stk.length st.tk.length st.lp.length) bs w C (.returned v) w' := by
            intro jump hj; refine ⟨.bool jump.isNone, { w2 with heap := w2.heap.setIfInBounds B (.loop (nG { q' with at_ := bif gD x2 then 0 else 2, oq := x2 } fn2 D2 tmps2)) }, ?_, C2.cut st.stk.length st.tk.length st.lp.length, hL, H.nv hXX, ?_⟩
            · rw [vu c2' jump]
              subst hj
              cases x2 <;> first | rfl | cases hpx
            · have : jump.isNone = gD x2 := by subst hj; cases x2 <;> first | rfl | cases hpx
              rw [this]; exact Ends.of (.v rfl)
           cases x2 with
           | normal => exact hend none rfl
           | exit id => exact hend (some (.exit id)) rfl
           | ret => exact hend (some .ret) rfl
           | pan t v => cases hpx
        · cases hK2
     · cases hK
theorem Cu {m t l : Nat} {ps : List PV} {s : St} {r : PV × St} (h : fin m t l ps s = some r) : im r.1 = false := by
 unfold fin at h; obtain ⟨p, hp, h⟩ := Option.bind_eq_some_iff.1 h
 cases hs : sf false m 4 p with
 | false => rw [hs] at h; simp at h
 | true =>
  rw [hs] at h; obtain rfl := Option.some.inj h
  cases p <;> first | rfl | (simp [sf] at hs)
theorem EO {m t l i : Nat} {x : Ex} {s : St} {r : PV × St} (h : EN m t l i x s = some r) : im r.1 = false := by
 unfold EN at h; split at h
 · rename_i q hq
   cases hs : aj q.at_ 1 && !nA x with
   | false => rw [hs] at h; simp at h
   | true => rw [hs] at h; obtain rfl := Option.some.inj h; rfl
 · cases h
theorem sE {R : Type} {q : Rs × St} {K : PV → St → Option R} {N : TypeId → Value → St → Option R} {r : R} (h : mW q K N = some r) : (∃ p s, K p s = some r) ∨ ∃ t x s, N t x s = some r := by
 obtain ⟨q, s⟩ := q
 cases q with
 | ret p => exact dw ⟨p, s, h⟩
 | pan t x => exact dr ⟨t, x, s, h⟩
theorem uZ {Cf : Cfg} {R : Type} {ops : Array Oper} {K : Env → St → Option R} {N : TypeId → Value → St → Option R} {r : R} : ∀ (os : List Oper) (e : Env) (st : St), kJ Cf ops os e st K N = some r → (∃ e s, K e s = some r) ∨ ∃ t x s, N t x s = some r
 | [], e, st, h => dw ⟨e, st, h⟩
 | o :: os, e, st, h => by
  simp only [kJ] at h; rw [dM] at h; obtain ⟨q, hq, h⟩ := Option.bind_eq_some_iff.1 h
  rcases sE h with ⟨p, s, h⟩ | h
  · exact uZ os _ _ h
  · exact dr h
theorem pF {Cf : Cfg} : ∀ (c : Code) (A : Ann) (e : Env) (st : St) {R : Type} (K : Ex → Env → St → Option R) (r : R), dV Cf c A e st K = some r → ∃ x e s, K x e s = some r := by
 intro c
 induction c with
 | skip => intro A e st R K r h; exact ⟨_, _, _, h⟩
 | region id ops d =>
  intro A e st R K r h
  cases d with
  | false =>
   have h : kJ Cf ops ops.toList e st (fun e' st' => K .normal e' st') (fun t x st' => K (.pan t x) e st') = some r := h
   rcases uZ _ _ _ h with ⟨e', s, h⟩ | ⟨t, x, s, h⟩
   · exact ⟨_, _, _, h⟩
   · exact ⟨_, _, _, h⟩
  | true =>
   have h : (bif ib ops (Region.before ops) ops.toList 0 then nu Cf ops e st (fun e' st' => K .normal e' st') (fun t x st' => K (.pan t x) e st') else none) = some r := h
   cases hc : ib ops (Region.before ops) ops.toList 0 with
   | false => rw [hc] at h; simp at h
   | true =>
    rw [hc] at h; simp only [cond_true] at h; unfold nu at h; split at h
    · obtain ⟨dd, E, S, p, T, h | ⟨k, o, t, x, s', PA, h⟩⟩ := qg ops.toList 0 e st [] [] rfl h
      · exact ⟨_, _, _, h.2⟩
      · exact ⟨_, _, _, h⟩
    · rename_i k t hla
      obtain ⟨z, hz, h⟩ := Option.bind_eq_some_iff.1 h; obtain ⟨k', o, hk', hok, hlo, hb0⟩ := oQ _ _ hla
      obtain rfl : k' = k := by omega
      have hok : ops[k']? = some o := by simpa using hok
      obtain ⟨l1, l2, l3⟩ := sr hlo
      have hk0 : ∀ j, bit ops k' j = false := fun j => by unfold bit; rw [hb0]; exact Nat.zero_testBit j
      have hka : kd Cf ops k' = .aP := by simp [kd, hok, kindOf, l1]
      obtain ⟨dd, E, S, p, T, _, hr⟩ := qS hk0 hka (B3 hc) ops.toList 0 e st [] [] rfl rfl (fun x hx => by cases hx) h
      rcases hr with hr | ⟨kp, t, x, s', PA, hr1, hr2⟩
      · exact ⟨_, _, _, hr.2⟩
      · exact ⟨_, _, _, hr1⟩
 | seq x y ihx ihy =>
  intro A e st R K r h; obtain ⟨z, e', s, h⟩ := ihx A.x e st _ r h
  rcases o5 h with ⟨_, h⟩ | ⟨_, h⟩
  · exact ihy A.y e' s K r h
  · exact ⟨_, _, _, h⟩
 | cond b x y _ _ =>
  intro A e st R K r h; have h : ay (ej Cf.gl e b) (fun t => (bif t then dV Cf x A.x e st (leave A.live) else dV Cf y A.y e st (leave A.live)).bind fun r => K r.1 (fe A.live r.2.1) r.2.2) = some r := h; unfold ay at h; split at h
  · obtain ⟨q, hq, h⟩ := Option.bind_eq_some_iff.1 h
    exact ⟨_, _, _, h⟩
  · cases h
 | block id x ih =>
  intro A e st R K r h; obtain ⟨z, e', s, h⟩ := ih A.x e st _ r h; exact ⟨_, _, _, h⟩
 | loop x _ =>
  intro A e st R K r h; obtain ⟨q, hq, h⟩ := Option.bind_eq_some_iff.1 h; exact ⟨_, _, _, h⟩
 | rangeFunc g ps x y _ _ =>
  intro A e st R K r h
  have h : fK (ej Cf.gl e g) (fun f caps => bif nz Cf st && fi f then
   (Cf.call f (.clo (.yield st.lp.length) [] :: caps) { st with lp := st.lp ++ [.loop ⟨A.live, A.live.map e, Cf.n, Cf.md, ps.toList, x, y, A.x, 0, .normal⟩] }).bind fun r => ed r fun _ s => mR s st.stk.length st.tk.length st.lp.length fun x s => K x e s
    else none) = some r := h
  have go : ∀ (f : Fn) (caps : List PV), (bif nz Cf st && fi f then
   (Cf.call f (.clo (.yield st.lp.length) [] :: caps) { st with lp := st.lp ++ [.loop ⟨A.live, A.live.map e, Cf.n, Cf.md, ps.toList, x, y, A.x, 0, .normal⟩] }).bind fun r => ed r fun _ s => mR s st.stk.length st.tk.length st.lp.length fun x s => K x e s
    else none) = some r → ∃ x e s, K x e s = some r := by
   intro f caps h
   cases hb : nz Cf st && fi f with
   | false => rw [hb] at h; simp at h
   | true =>
    rw [hb] at h; simp only [cond_true] at h; obtain ⟨q, hq, h⟩ := Option.bind_eq_some_iff.1 h; obtain ⟨_, h⟩ := mz h; unfold mR at h; split at h
    · rename_i lp hlp
      cases hc : aj lp.at_ 1 || nA lp.oq with
      | true => rw [hc] at h; simp at h
      | false => rw [hc] at h; exact ⟨_, _, _, h⟩
    · cases h
  unfold fK at h; split at h
  · exact go _ _ h
  · exact go _ _ h
  · cases h
 | exit id => intro A e st R K r h; exact ⟨_, _, _, h⟩
 | ret => intro A e st R K r h; exact ⟨_, _, _, h⟩
 | scope x ih => intro A e st R K r h; exact ih A e st K r h
 | label l => intro A e st R K r h; exact ⟨_, _, _, h⟩
 | goto l => intro A e st R K r h; cases h
 | refuse s => intro A e st R K r h; cases h
theorem mI {Cf : Cfg} {R : Type} : ∀ (rs : List ResultVar) (e : Env) (st : St) (K : List PV → Option R) (r : R), fU Cf rs e st K = some r → ∃ ps, K ps = some r
 | [], e, st, K, r, h => ⟨_, h⟩
 | .tmp t :: rs, e, st, K, r, h => by
  obtain ⟨ps, h⟩ := mI rs e st _ r h; exact ⟨_, h⟩
 | .cell a t :: rs, e, st, K, r, h => by
  simp only [fU] at h; split at h
  · obtain ⟨p, hp, h⟩ := Option.bind_eq_some_iff.1 h
    obtain ⟨ps, h⟩ := mI rs e st _ r h; exact ⟨_, h⟩
  · cases h
theorem EH {L : Lib} {call : bD} {it : bN} {f : FuncId} {fn : Func} {c : Code} {args : List PV} {st : St} {r : PV × St} (hpn : L.pn.any (aj f) = false) (h : iD L call it f fn c args st = some r) : im r.1 = false := by
 unfold iD at h
 cases hn : dI args.length fn.ntmps with
 | false => rw [hn] at h; simp at h
 | true =>
  rw [hn] at h; simp only [cond_true] at h; obtain ⟨x, e, s, h⟩ := pF c _ _ _ _ r h; rw [hpn] at h; simp only [cond_false] at h
  have go : fU ⟨L.P, call, fn.ntmps, st.stk.length, it, L.imp, L.md f, none, st.lp.length, L.gl, L.pn⟩ fn.results.toList e s (fun ps => fin st.stk.length st.tk.length st.lp.length ps s) = some r → im r.1 = false := fun h => by
   obtain ⟨ps, h⟩ := mI _ _ _ _ _ h; exact Cu h
  cases x with
  | normal => exact go h
  | ret => exact go h
  | exit i => cases h
  | pan t v => cases h
theorem De {L : Lib} {call : bD} {it : bN} {i : Nat} {lp : Lp} {args : List PV} {st : St} {r : PV × St} (h : jc L call it i lp args st = some r) : im r.1 = false := by
 unfold jc at h
 cases hn : aj lp.at_ 0 && aj args.length lp.ps.length with
 | false => rw [hn] at h; simp at h
 | true =>
  rw [hn] at h; simp only [cond_true] at h; obtain ⟨x, e, s, h⟩ := pF _ _ _ _ _ r h
  cases hx : gD x with
  | false => rw [hx] at h; simp at h
  | true =>
   rw [hx] at h; simp only [cond_true] at h; unfold uN at h; split at h
   · rename_i q hq
     cases h0 : aj q.at_ 0 with
     | false => rw [h0] at h; simp at h
     | true =>
      rw [h0] at h; simp only [cond_true] at h; obtain ⟨x, e, s, h⟩ := pF _ _ _ _ _ r h; exact EO h
   · cases h
theorem pG {gv : GV} {L : Lib} (ok : vB gv L) : ∀ k, Good gv L.pn L.P (evF L k)
 | 0 => by intro f args st r h; cases h
 | k + 1 => by
  intro g args st r h
  cases g with
  | func f =>
   have h : (match L.mD f with
    | some q => q.g (evF L k) args st
    | none => match L.P.funcs[f]? with
     | some fn => match fn.body with
      | some c => iD L (evF L k) (itK k) f fn c args st
      | none => none
     | none => none) = some r := h
   cases hp : L.mD f with
   | some g =>
    rw [hp] at h; exact ok.mD f g hp (evF L k) (pG ok k) (.func f) args st r (by simpa using h)
   | none =>
    rw [hp] at h; simp only at h
    cases hf : L.P.funcs[f]? with
    | none => rw [hf] at h; cases h
    | some fn =>
     rw [hf] at h; simp only at h
     cases hb : fn.body with
     | none => rw [hb] at h; cases h
     | some c =>
      rw [hb] at h; simp only at h; refine ⟨fun hpn => ?_, ⟨fn, hf, ok.name f fn hf, by rw [hb]; rfl⟩, fun w C bs xs hg H hs hr => EI ok (pG ok k) hf hb h hg H hs hr⟩; exact EH hpn h
  | yield i =>
   have h : (match st.loop i with
    | some r => jc L (evF L k) (itK k) i r args st
    | none => none) = some r := h
   cases hl : st.loop i with
   | none => rw [hl] at h; cases h
   | some lp =>
    rw [hl] at h; exact ⟨De h, fun w C bs xs B hB hg H hs hr => Df ok (pG ok k) hl h hB hg H hs hr⟩
  | _ => cases h
def Cg (w : World) : Ctx := ⟨fun B _ => B < w.heap.size, fun _ _ => none, fun _ _ => none, fun _ => none, w.heap.size⟩
def st0 : St := ⟨[], [], [], []⟩
theorem II (w : World) : Sim w (Cg w) st0 [] := by
 refine ⟨?_, ?_, ?_, fun B o h => h, ?_, ?_, ?_, ?_, ⟨av _, ?_, ?_⟩, ?_, ?_, ?_⟩
 · intro h b cs x; cases h <;> simp [St.blk, St.bk, st0] at x
 · intro h b B x; cases x
 · intro h b h' b' B x; cases x
 · intro o t B f to e s x; cases x
 · intro o t e s x
   cases o with
   | fr => simp [St.tok, st0] at x
   | bl h b => cases h <;> simp [St.tok, St.bk, st0] at x
 · intro h t h' t' B f to e s f' to' e' s' x; cases x
 · intro m t l x; cases x
 · intro h b B x; cases x
 · intro i B x; cases x
 · intro i r x; simp [st0] at x
 · intro i B x; cases x
 · intro i i' B x; cases x
theorem AK {gv : GV} {L : Lib} (ok : vB gv L) {k f : Nat} {args : List PV} {b : Bool} {st' : St} (h : evF L k (.func f) args st0 = some (.v (.bool b), st')) {w : World} (hg : mY gv w (Cg w)) {xs : Array Value} (hs : xs.size = args.length)
 (hr : ∀ (i : Nat) (x : Value) (p : PV), xs[i]? = some x → args[i]? = some p → Rep w (Cg w) x p) :
 Calls L.P f xs w fun e w' => e = .returned (.bool b) ∧ Below w.heap.size w w' := by
 obtain ⟨_, _, g⟩ := pG ok k (.func f) args st0 _ h; refine (g w (Cg w) [] xs hg (II w) hs hr).mono ?_
 rintro e w' ⟨C', h1, h2, v, rfl, h3⟩
 cases h3; exact ⟨rfl, h2.below⟩
theorem Fm (w : World) (C : Ctx) (k : IntKind) (n : Int) : Rep w C (.int k n) (.v (.int k n)) := .v rfl
theorem Fp (w : World) (C : Ctx) (s : ByteArray) : Rep w C (.string s) (.v (.string s)) := .v rfl
open Go
theorem Evt.const {R : Type} {x : Option R} {r : R} (h : x = some r) : Evt (fun _ => x) r := ⟨0, fun _ _ => h⟩
theorem Evt.bind {R S : Type} {F : Nat → Option R} {G : Nat → R → Option S} {a : R} {r : S} (h : Evt F a) (g : Evt (fun k => G k a) r) : Evt (fun k => (F k).bind (G k)) r := by
 obtain ⟨k1, h1⟩ := h; obtain ⟨k2, h2⟩ := g; refine ⟨max k1 k2, fun k hk => ?_⟩
 show (F k).bind (G k) = some r
 rw [h1 k (by omega), ag]; exact h2 k (by omega)
theorem Evt.congr {R : Type} {F G : Nat → Option R} {r : R} (h : Evt F r) (e : ∀ k, F k = G k) : Evt G r := by
 obtain ⟨k1, h1⟩ := h; exact ⟨k1, fun k hk => by rw [← e]; exact h1 k hk⟩
theorem Evt.all {α : Type} {p : α → Nat → Prop} : ∀ (l : List α), (∀ x ∈ l, ∃ k0, ∀ k, k0 ≤ k → p x k) → ∃ k0, ∀ k, k0 ≤ k → ∀ x ∈ l, p x k
 | [], _ => ⟨0, by simp⟩
 | a :: l, h => by
  obtain ⟨k1, h1⟩ := h a (bI ..)
  obtain ⟨k2, h2⟩ := Evt.all l fun x hx => h x (bS _ hx)
  refine ⟨max k1 k2, fun k hk x hx => ?_⟩
  rcases List.mem_cons.1 hx with rfl | hx
  · exact h1 k (by omega)
  · exact h2 k (by omega) x hx
structure Lim (Ck : Nat → Cfg) (C : Cfg) : Prop where
 P : ∀ k, (Ck k).P = C.P
 n : ∀ k, (Ck k).n = C.n
 base : ∀ k, (Ck k).base = C.base
 imp : ∀ k, (Ck k).imp = C.imp
 md : ∀ k, (Ck k).md = C.md
 rd : ∀ k, (Ck k).rd = C.rd
 lb : ∀ k, (Ck k).lb = C.lb
 gl : ∀ k, (Ck k).gl = C.gl
 pn : ∀ k, (Ck k).pn = C.pn
 call : ∀ f args st r, C.call f args st = some r → Evt (fun k => (Ck k).call f args st) r
 it : ∀ (b : List PV → St → Option (Ex × List PV × St)) (bk : Nat → List PV → St → Option (Ex × List PV × St)), (∀ vs st r, b vs st = some r → Evt (fun k => bk k vs st) r) → ∀ vs st r, C.it b vs st = some r → Evt (fun k => (Ck k).it (bk k) vs st) r
section
variable {Ck : Nat → Cfg} {C : Cfg} (H : Lim Ck C)
include H
theorem Bl {R : Type} {m : Nat} {b : Builtin} {ats : Array TypeId} {xs : List PV} {st : St} {K : PV → St → Option R} {Kk : Nat → PV → St → Option R} {r : R} (h : oC C m b ats xs st K = some r)
 (hK : ∀ p s, K p s = some r → Evt (fun k => Kk k p s) r) : Evt (fun k => oC (Ck k) m b ats xs st (Kk k)) r := by
 unfold oC at h ⊢; simp only [H.P, H.base]; split at h
 · obtain ⟨p, hp, h⟩ := Option.bind_eq_some_iff.1 h; simp only [hp, ag]; exact hK _ _ h
 · obtain ⟨p, hp, h⟩ := Option.bind_eq_some_iff.1 h; simp only [hp, ag]; exact hK _ _ h
 · obtain ⟨p, hp, h⟩ := Option.bind_eq_some_iff.1 h; simp only [hp, ag]; exact hK _ _ h
 · obtain ⟨p, hp, h⟩ := Option.bind_eq_some_iff.1 h; simp only [hp, ag]; exact hK _ _ h
 · split at h
   · cases h
   · obtain ⟨ys, hy, h⟩ := Option.bind_eq_some_iff.1 h
     obtain ⟨q, hq, h⟩ := Option.bind_eq_some_iff.1 h
     simp only [hy, hq, ag]; exact hK _ _ h
   · cases h
 · split at h
   · obtain ⟨ys, hy, h⟩ := Option.bind_eq_some_iff.1 h
     obtain ⟨q, hq, h⟩ := Option.bind_eq_some_iff.1 h
     simp only [hy, hq, ag]; exact hK _ _ h
   · cases h
 · obtain ⟨q, hq, h⟩ := Option.bind_eq_some_iff.1 h
   simp only [hq, ag]; exact hK _ _ h
 · cases h
theorem EX (k : Nat) (g : FuncId) : wu (Ck k) g = wu C g := by unfold wu; rw [H.pn]
omit H in
theorem AT {R : Type} {q : PV × St} {K : PV → St → Option R} {N : TypeId → Value → St → Option R} {Kk : Nat → PV → St → Option R} {Nk : Nat → TypeId → Value → St → Option R} {r : R} (h : aV q K N = some r)
 (hK : ∀ p s, K p s = some r → Evt (fun k => Kk k p s) r) (hN : ∀ t x s, N t x s = some r → Evt (fun k => Nk k t x s) r) : Evt (fun k => aV q (Kk k) (Nk k)) r := by
 obtain ⟨p, s⟩ := q
 cases p <;> first | exact hN _ _ _ h | exact hK _ _ h
omit H in
theorem qI {R : Type} {q : PV × St} {K : PV → St → Option R} {Kk : Nat → PV → St → Option R} {r : R} (h : ed q K = some r)
 (hK : ∀ p s, K p s = some r → Evt (fun k => Kk k p s) r) : Evt (fun k => ed q (Kk k)) r := by
 obtain ⟨p, s⟩ := q
 cases p <;> first | exact hK _ _ h | (cases h)
theorem uu {R : Type} {o : Oper} {e : Env} {st : St} {K : PV → St → Option R} {N : TypeId → Value → St → Option R} {Kk : Nat → PV → St → Option R} {Nk : Nat → TypeId → Value → St → Option R} {r : R} (h : iW C o e st K N = some r)
 (hK : ∀ p s, K p s = some r → Evt (fun k => Kk k p s) r) (hN : ∀ t x s, N t x s = some r → Evt (fun k => Nk k t x s) r) : Evt (fun k => iW (Ck k) o e st (Kk k) (Nk k)) r := by
 unfold iW at h ⊢; simp only [H.P, H.base, H.md, H.gl]
 split at h <;> first
  | exact hK _ _ h
  | (obtain ⟨p, hp, h⟩ := Option.bind_eq_some_iff.1 h; simp only [hp, ag]; exact hK _ _ h)
  | (obtain ⟨p, hp, h⟩ := Option.bind_eq_some_iff.1 h; obtain ⟨q, hq, h⟩ := Option.bind_eq_some_iff.1 h; simp only [hp, hq, ag]; exact hK _ _ h)
  | (cases h; done)
  | skip
 · -- buildSlice
   cases hm : aj (C.md.of o.dst) 0 with
   | true =>
    rw [hm] at h
    obtain ⟨p, hp, h⟩ := Option.bind_eq_some_iff.1 h; simp only [hp, cond_true, ag]; exact hK _ _ h
   | false =>
    rw [hm] at h
    obtain ⟨p, hp, h⟩ := Option.bind_eq_some_iff.1 h; simp only [hp, cond_false, ag]; exact hK _ _ h
 · -- load
   split at h
   · obtain ⟨p, hp, h⟩ := Option.bind_eq_some_iff.1 h; simp only [hp, ag]; exact hK _ _ h
   · cases h
 · -- call
   split at h
   · exact Bl H h hK
   · rename_i g hc
     simp only [EX H]; obtain ⟨q, hq, h⟩ := Option.bind_eq_some_iff.1 h; refine (H.call _ _ _ _ hq).bind ?_
     cases hi : wu C g with
     | true => rw [hi] at h; exact AT h hK hN
     | false => rw [hi] at h; exact hK _ _ h
   · unfold fK at h ⊢
     split at h
     · obtain ⟨q, hq, h⟩ := Option.bind_eq_some_iff.1 h
       exact (H.call _ _ _ _ hq).bind (qI h hK)
     · obtain ⟨q, hq, h⟩ := Option.bind_eq_some_iff.1 h
       exact (H.call _ _ _ _ hq).bind (qI h hK)
     · cases h
   · cases h
 · -- panic
   unfold uc at h ⊢; split at h
   · exact hN _ _ _ h
   · cases h
theorem eY {R : Type} {ops : Array Oper} {o : Oper} {e : Env} {st : St} {K : PV → St → Option R} {N : TypeId → Value → St → Option R} {Kk : Nat → PV → St → Option R} {Nk : Nat → TypeId → Value → St → Option R} {r : R} (h : guarded C ops o e st K N = some r)
 (hK : ∀ p s, K p s = some r → Evt (fun k => Kk k p s) r) (hN : ∀ t x s, N t x s = some r → Evt (fun k => Nk k t x s) r) : Evt (fun k => guarded (Ck k) ops o e st (Kk k) (Nk k)) r := by
 unfold guarded at h ⊢; split at h
 · exact uu H h hK hN
 · rename_i j want hg
   split at h
   · rename_i t ht
     obtain ⟨q, hq, h⟩ := Option.bind_eq_some_iff.1 h; refine Evt.bind (a := q) ?_ (hK _ _ h); unfold onG at hq ⊢; split at hq
     · rename_i b hb
       cases hw : (b == want) with
       | true =>
        rw [hw] at hq; simp only [hw, cond_true] at hq ⊢
        exact uu H hq (fun p s hps => Evt.const hps) fun t x s hps => by cases hps
       | false =>
        rw [hw] at hq; simp only [hw, cond_false] at hq ⊢; exact Evt.const hq
     · exact Evt.const hq
     · cases hq
   · cases h
theorem qx {R : Type} {ops : Array Oper} {K : Env → St → Option R} {N : TypeId → Value → St → Option R} {Kk : Nat → Env → St → Option R} {Nk : Nat → TypeId → Value → St → Option R} {r : R} (hK : ∀ e s, K e s = some r → Evt (fun k => Kk k e s) r) (hN : ∀ t x s, N t x s = some r → Evt (fun k => Nk k t x s) r) :
 ∀ (os : List Oper) (e : Env) (st : St), kJ C ops os e st K N = some r → Evt (fun k => kJ (Ck k) ops os e st (Kk k) (Nk k)) r
 | [], e, st, h => hK e st h
 | o :: os, e, st, h => by
  simp only [kJ, H.n] at h ⊢; exact eY H h (fun p s hp => qx hK hN os _ _ hp) hN
theorem ke {ops : Array Oper} {o : Oper} {e : Env} {s : St} {r : Rs × St} (h : alone C ops o e s = some r) : Evt (fun k => alone (Ck k) ops o e s) r :=
 eY H h (fun _ _ hp => Evt.const hp) fun _ _ _ hp => Evt.const hp
omit H in
theorem ir {R : Type} {c : Prop} {ck : Nat → Prop} {x : Option R} {xk : Nat → Option R} {r : R} (h : bR c x = some r) (hc : c → ∃ k0, ∀ k, k0 ≤ k → ck k) (hx : x = some r → Evt xk r) : Evt (fun k => bR (ck k) (xk k)) r := by
 unfold bR at h ⊢; split at h
 · rename_i hh
   obtain ⟨k1, h1⟩ := hc hh; obtain ⟨k2, h2⟩ := hx h
   exact ⟨max k1 k2, fun k hk => by
    have := h1 k (by omega); simp only [this, if_true]
    exact h2 k (by omega)⟩
 · cases h
omit H in
theorem gP {R α : Type} {p : α → Prop} {pk : Nat → α → Prop} (hp : ∀ a, p a → ∃ k0, ∀ k, k0 ≤ k → pk k a) {xk : Nat → Option R} {r : R} : ∀ (l : List α) {x : Option R}, iP (l.map p) x = some r → (x = some r → Evt xk r) → Evt (fun k => iP (l.map (pk k)) (xk k)) r
 | [], x, h, hx => hx h
 | a :: l, x, h, hx => by
  simp only [aZ, iP] at h ⊢
  exact ir h (hp a) fun h => gP hp l h hx
theorem mw {R : Type} {ops : Array Oper} {bs : Array Nat} {k0 : Nat} {st : St} {aP : List (Nat × St)} {fin : Option R} {fink : Nat → Option R} {r : R} (hf : fin = some r → Evt fink r) :
 ∀ (os : List Oper) (i : Nat) (e : Env), kE C ops bs k0 st aP fin os i e = some r → Evt (fun k => kE (Ck k) ops bs k0 st aP (fink k) os i e) r
 | [], i, e, h => hf h
 | o :: os, i, e, h => by
  have htold : ∀ (x : Seen) (s : St), told C ops x s → ∃ k0, ∀ k, k0 ≤ k → told (Ck k) ops x s := fun x s hx => ke H hx
  simp only [kE, H.n, H.imp, H.md] at h ⊢
  cases hb : (bs.getD i 0).testBit k0 with
  | true =>
   rw [hb] at h; simp only [cond_true] at h ⊢; exact mw hf os (i + 1) e h
  | false =>
   rw [hb] at h; simp only [cond_false] at h ⊢; split at h
   · exact eY H h (fun p s hp => mw hf os _ _ hp) fun _ _ _ hp => by cases hp
   · exact eY H h (fun p s hp => ir hp (fun hc => ⟨0, fun _ _ => hc⟩) fun hp =>
      gP (pk := fun k a => told (Ck k) ops ⟨i, o, e, p⟩ a.2) (fun a ha => htold _ _ ha) _ hp fun hp => mw hf os _ _ hp) fun _ _ _ hp => by cases hp
   · cases h
theorem kG {R : Type} {ops : Array Oper} {bs : Array Nat} {K : Env → St → Option R} {N : TypeId → Value → St → Option R} {Kk : Nat → Env → St → Option R} {Nk : Nat → TypeId → Value → St → Option R} {r : R} (hK : ∀ e s, K e s = some r → Evt (fun k => Kk k e s) r) (hN : ∀ t x s, N t x s = some r → Evt (fun k => Nk k t x s) r) :
 ∀ (os : List Oper) (i : Nat) (e : Env) (st : St) (seen : List Seen) (aP : List (Nat × St)), kF C ops bs os i e st seen aP K N = some r → Evt (fun k => kF (Ck k) ops bs os i e st seen aP (Kk k) (Nk k)) r
 | [], i, e, st, seen, aP, h => hK e st h
 | o :: os, i, e, st, seen, aP, h => by
  have htold : ∀ (x : Seen) (s : St), told C ops x s → ∃ k0, ∀ k, k0 ≤ k → told (Ck k) ops x s := fun x s hx => ke H hx
  simp only [kF, H.n, H.imp, H.md] at h ⊢; split at h
  · exact eY H h (fun p s hp => kG hK hN os _ _ _ _ _ hp) fun _ _ _ hp => by cases hp
  · exact eY H h (fun p s hp => ir hp (fun hc => ⟨0, fun _ _ => hc⟩) fun hp =>
     gP (pk := fun k a => told (Ck k) ops ⟨i, o, e, p⟩ a.2) (fun a ha => htold _ _ ha) _ hp fun hp => kG hK hN os _ _ _ _ _ hp) fun _ _ _ hp => by cases hp
  · cases hb : aP.all (fun a => (bs.getD i 0).testBit a.1) with
    | false => rw [hb] at h; simp at h
    | true =>
     rw [hb] at h; simp only [cond_true] at h ⊢
     exact eY H h (fun p s hp => gP (pk := fun k x => told (Ck k) ops x s) (fun a ha => htold _ _ ha) _ hp fun hp => kG hK hN os _ _ _ _ _ hp)
      fun t x s hp => mw H (fun hp => hN t x s hp) os _ _ hp
omit H in
theorem jA {R : Type} {ops : Array Oper} {bs : Array Nat} {k1 m k0 : Nat} {z : List PV} {st : St} {aP : List (Nat × St)} {r' r : R} : ∀ {os : List Oper} {i : Nat} {e : Env}, gT C ops bs k1 z m k0 st aP (some r') os i e = some r → r' = r
 | [], i, e, h => Option.some.inj h
 | o :: os, i, e, h => by
  simp only [gT] at h
  cases hb : (bs.getD i 0).testBit k0 with
  | true => rw [hb, cond_true] at h; exact jA h
  | false =>
   rw [hb, cond_false] at h
   cases hk : aj i k1 with
   | true => rw [hk, cond_true] at h; exact jA h
   | false =>
    rw [hk, cond_false] at h; split at h
    · rw [dM] at h
      obtain ⟨⟨q, s⟩, hq, h⟩ := Option.bind_eq_some_iff.1 h
      cases q with
      | ret p => exact jA h
      | pan t x => cases h
    · rw [dM] at h
      obtain ⟨⟨q, s⟩, hq, h⟩ := Option.bind_eq_some_iff.1 h
      cases q with
      | ret p => exact jA (fY (gf (gf h).2).2).2
      | pan t x => cases h
    · cases h
theorem jz {R : Type} {ops : Array Oper} {bs : Array Nat} {k1 m k0 : Nat} {z : List PV} {st : St} {aP : List (Nat × St)} {fin : Option R} {fink : Nat → Option R} {r : R} (hf : fin = some r → Evt fink r) :
 ∀ (os : List Oper) (i : Nat) (e : Env), gT C ops bs k1 z m k0 st aP fin os i e = some r → Evt (fun k => gT (Ck k) ops bs k1 z m k0 st aP (fink k) os i e) r
 | [], i, e, h => hf h
 | o :: os, i, e, h => by
  have htold : ∀ (x : Seen) (s : St), told C ops x s → ∃ k0, ∀ k, k0 ≤ k → told (Ck k) ops x s := fun x s hx => ke H hx
  simp only [gT, H.n, H.imp, H.md] at h ⊢
  cases hb : (bs.getD i 0).testBit k0 with
  | true =>
   rw [hb] at h; simp only [cond_true] at h ⊢; exact jz hf os (i + 1) e h
  | false =>
   rw [hb] at h; simp only [cond_false] at h ⊢
   cases hk : aj i k1 with
   | true =>
    rw [hk] at h; simp only [cond_true] at h ⊢; exact jz hf os (i + 1) _ h
   | false =>
    rw [hk] at h; simp only [cond_false] at h ⊢; split at h
    · exact eY H h (fun p s hp => jz hf os _ _ hp) fun _ _ _ hp => by cases hp
    · exact eY H h (fun p s hp => ir hp (fun hc => ⟨0, fun _ _ => hc⟩) fun hp => ir hp (fun hc => htold _ _ hc) fun hp =>
       gP (pk := fun k a => told (Ck k) ops ⟨i, o, e, p⟩ a.2) (fun a ha => htold _ _ ha) _ hp fun hp => jz hf os _ _ hp) fun _ _ _ hp => by cases hp
    · cases h
theorem kI {R : Type} {ops : Array Oper} {bs : Array Nat} {k1 m : Nat} {z : List PV} {K : Env → St → Option R} {N : TypeId → Value → St → Option R} {Kk : Nat → Env → St → Option R} {Nk : Nat → TypeId → Value → St → Option R} {r : R} (hK : ∀ e s, K e s = some r → Evt (fun k => Kk k e s) r) (hN : ∀ t x s, N t x s = some r → Evt (fun k => Nk k t x s) r) :
 ∀ (os : List Oper) (i : Nat) (e : Env) (st : St) (seen : List Seen) (aP : List (Nat × St)), kH C ops bs k1 z m os i e st seen aP K N = some r → Evt (fun k => kH (Ck k) ops bs k1 z m os i e st seen aP (Kk k) (Nk k)) r
 | [], i, e, st, seen, aP, h => hK e _ h
 | o :: os, i, e, st, seen, aP, h => by
  have htold : ∀ (x : Seen) (s : St), told C ops x s → ∃ k0, ∀ k, k0 ≤ k → told (Ck k) ops x s := fun x s hx => ke H hx
  have hd := kG H (K := K) (N := N) (Kk := Kk) (Nk := Nk) (ops := ops) (bs := bs) hK hN (o :: os) i e; simp only [kH, H.n, H.imp, H.md] at h ⊢
  cases hk : aj i k1 with
  | true =>
   rw [hk] at h; simp only [cond_true] at h ⊢; exact kI hK hN os (i + 1) _ _ _ _ h
  | false =>
   rw [hk] at h; simp only [cond_false] at h ⊢; split at h
   · exact eY H h (fun p s hp => kI hK hN os _ _ _ _ _ hp) fun _ _ _ hp => by cases hp
   · cases hb : (bs.getD i 0).testBit k1 with
     | true => rw [hb] at h; cases h
     | false =>
      rw [hb] at h; simp only [cond_false] at h ⊢
      exact eY H h (fun p s hp => ir hp (fun hc => ⟨0, fun _ _ => hc⟩) fun hp => ir hp (fun hc => htold _ _ hc) fun hp =>
       gP (pk := fun k a => told (Ck k) ops ⟨i, o, e, p⟩ a.2) (fun a ha => htold _ _ ha) _ hp fun hp => kI hK hN os _ _ _ _ _ hp) fun _ _ _ hp => by cases hp
   · cases hb : (bs.getD i 0).testBit k1 with
     | true =>
      rw [hb] at h; simp only [cond_true] at h ⊢; exact hd _ _ _ h
     | false =>
      rw [hb] at h; simp only [cond_false] at h ⊢
      cases hb : aP.all (fun a => (bs.getD i 0).testBit a.1) with
      | false => rw [hb] at h; simp at h
      | true =>
       rw [hb] at h; simp only [cond_true] at h ⊢
       refine eY H h (fun p s hp => ir hp (fun hc => ke H hc) fun hp => ir hp (fun hc => ⟨0, fun _ _ => hc⟩) fun hp =>
        gP (pk := fun k x => told (Ck k) ops x s) (fun a ha => htold _ _ ha) _ hp fun hp => gP (pk := fun k x => told (Ck k) ops x (s.push z)) (fun a ha => htold _ _ ha) _ hp fun hp => kI hK hN os _ _ _ _ _ hp) fun t x s hp => ?_
       refine ir hp (fun hc => ke H hc) fun hp => ?_
       obtain ⟨r', hr', hp⟩ := Option.bind_eq_some_iff.1 hp
       obtain ⟨hc, hp⟩ : N t x (s.push z) = some r' ∧ gT C ops bs k1 z m i st aP (some r') os (i + 1) e = some r := by
        unfold bR at hp; split at hp
        · rename_i hh; exact ⟨hh, hp⟩
        · cases hp
       obtain rfl : r' = r := jA hp; refine (hN t x s hr').bind (ir (c := True) (x := gT C ops bs k1 z m i st aP (some r') os (i + 1) e) (by unfold bR; rw [if_pos trivial]; exact hp) (fun _ => hN t x _ hc) fun hp => jz H (fun hq => Evt.const hq) os _ _ hp)
theorem AH {R : Type} {ops : Array Oper} {K : Env → St → Option R} {N : TypeId → Value → St → Option R} {Kk : Nat → Env → St → Option R} {Nk : Nat → TypeId → Value → St → Option R} {r : R} {e : Env} {st : St} (hK : ∀ e s, K e s = some r → Evt (fun k => Kk k e s) r) (hN : ∀ t x s, N t x s = some r → Evt (fun k => Nk k t x s) r)
 (h : nu C ops e st K N = some r) : Evt (fun k => nu (Ck k) ops e st (Kk k) (Nk k)) r := by
 unfold nu at h ⊢; simp only [H.P, H.imp, H.md] at h ⊢; split at h
 · exact kG H hK hN ops.toList 0 e st [] [] h
 · obtain ⟨z, hz, h⟩ := Option.bind_eq_some_iff.1 h
   simp only [hz, ag]; exact kI H hK hN ops.toList 0 e st [] [] h
theorem mq : ∀ (c : Code) (A : Ann) (e : Env) (st : St) {R : Type} (K : Ex → Env → St → Option R) (Kk : Nat → Ex → Env → St → Option R) (r : R), dV C c A e st K = some r →
 (∀ x e s, K x e s = some r → Evt (fun k => Kk k x e s) r) → Evt (fun k => dV (Ck k) c A e st (Kk k)) r := by
 intro c
 induction c with
 | skip => intro A e st R K Kk r h hK; exact hK _ _ _ h
 | region id ops d =>
  intro A e st R K Kk r h hK
  cases d with
  | false => exact qx H (fun e s hk => hK _ _ _ hk) (fun t x s hk => hK _ _ _ hk) ops.toList e st h
  | true =>
   have h : (bif ib ops (Region.before ops) ops.toList 0 then nu C ops e st (fun e' st' => K .normal e' st') (fun t x st' => K (.pan t x) e st') else none) = some r := h
   show Evt (fun k => bif ib ops (Region.before ops) ops.toList 0 then nu (Ck k) ops e st (fun e' st' => Kk k .normal e' st') (fun t x st' => Kk k (.pan t x) e st') else none) r
   cases hc : ib ops (Region.before ops) ops.toList 0 with
   | false => rw [hc] at h; simp at h
   | true =>
    rw [hc] at h; exact AH H (fun e s hk => hK _ _ _ hk) (fun t x s hk => hK _ _ _ hk) h
 | seq x y ihx ihy =>
  intro A e st R K Kk r h hK
  refine ihx A.x e st _ _ r h fun z e' s' hz => ?_
  cases z with
  | normal => exact ihy A.y e' s' K Kk r hz hK
  | exit i => exact hK _ _ _ hz
  | ret => exact hK _ _ _ hz
  | pan t v => exact hK _ _ _ hz
 | cond b x y ihx ihy =>
  intro A e st R K Kk r h hK; have h : ay (ej C.gl e b) (fun t => (bif t then dV C x A.x e st (leave A.live) else dV C y A.y e st (leave A.live)).bind fun r => K r.1 (fe A.live r.2.1) r.2.2) = some r := h
  show Evt (fun k => ay (ej (Ck k).gl e b) (fun t => (bif t then dV (Ck k) x A.x e st (leave A.live) else dV (Ck k) y A.y e st (leave A.live)).bind fun r => Kk k r.1 (fe A.live r.2.1) r.2.2)) r
  simp only [H.gl]; unfold ay at h ⊢; split at h
  · rename_i t ht
    obtain ⟨q, hq, h⟩ := Option.bind_eq_some_iff.1 h; refine Evt.bind (a := q) ?_ (hK _ _ _ h)
    cases t with
    | true => exact ihx A.x e st _ _ q hq fun z e' s' hz => Evt.const hz
    | false => exact ihy A.y e st _ _ q hq fun z e' s' hz => Evt.const hz
  · cases h
 | block id x ih =>
  intro A e st R K Kk r h hK
  exact ih A.x e st _ _ r h fun z e' s' hz => hK _ _ _ hz
 | loop x ih =>
  intro A e st R K Kk r h hK; obtain ⟨q, hq, h⟩ := Option.bind_eq_some_iff.1 h
  show Evt (fun k => ((Ck k).it (fun vs s => dV (Ck k) x A.x (fe A.live vs) s (oR A.tr (Ck k).base (Ck k).lb s.stk.length A.live)) (A.live.map e) st).bind fun r => Kk k r.1 (fe A.live r.2.1) r.2.2) r
  refine Evt.bind (a := q) (H.it _ _ (fun vs s r hr => ?_) _ _ _ hq) (hK _ _ _ h); simp only [H.base, H.lb]
  exact ih A.x _ s _ _ r hr fun z e' s' hz => Evt.const hz
 | rangeFunc g ps x y _ _ =>
  intro A e st R K Kk r h hK
  have h : fK (ej C.gl e g) (fun f caps => bif nz C st && fi f then
   (C.call f (.clo (.yield st.lp.length) [] :: caps) { st with lp := st.lp ++ [.loop ⟨A.live, A.live.map e, C.n, C.md, ps.toList, x, y, A.x, 0, .normal⟩] }).bind fun r => ed r fun _ s => mR s st.stk.length st.tk.length st.lp.length fun x s => K x e s
    else none) = some r := h
  show Evt (fun k => fK (ej (Ck k).gl e g) (fun f caps => bif nz (Ck k) st && fi f then
   ((Ck k).call f (.clo (.yield st.lp.length) [] :: caps) { st with lp := st.lp ++ [.loop ⟨A.live, A.live.map e, (Ck k).n, (Ck k).md, ps.toList, x, y, A.x, 0, .normal⟩] }).bind fun r => ed r fun _ s => mR s st.stk.length st.tk.length st.lp.length fun x s => Kk k x e s
    else none)) r
  have hrd : ∀ k, nz (Ck k) st = nz C st := fun k => by unfold nz; rw [H.rd]
  simp only [H.n, H.md, H.gl, hrd]
  have go : ∀ (f : Fn) (caps : List PV), (bif nz C st && fi f then
   (C.call f (.clo (.yield st.lp.length) [] :: caps) { st with lp := st.lp ++ [.loop ⟨A.live, A.live.map e, C.n, C.md, ps.toList, x, y, A.x, 0, .normal⟩] }).bind fun r => ed r fun _ s => mR s st.stk.length st.tk.length st.lp.length fun x s => K x e s
   else none) = some r → Evt (fun k => bif nz C st && fi f then
   ((Ck k).call f (.clo (.yield st.lp.length) [] :: caps) { st with lp := st.lp ++ [.loop ⟨A.live, A.live.map e, C.n, C.md, ps.toList, x, y, A.x, 0, .normal⟩] }).bind fun r => ed r fun _ s => mR s st.stk.length st.tk.length st.lp.length fun x s => Kk k x e s
   else none) r := by
   intro f caps h
   cases hb : nz C st && fi f with
   | false => rw [hb] at h; simp at h
   | true =>
    rw [hb] at h; simp only [cond_true] at h ⊢; obtain ⟨q, hq, h⟩ := Option.bind_eq_some_iff.1 h; refine Evt.bind (a := q) (H.call _ _ _ _ hq) (qI h fun _ s h => ?_); unfold mR at h ⊢; split at h
    · rename_i lp hlp
      cases hc : aj lp.at_ 1 || nA lp.oq with
      | true => rw [hc] at h; simp at h
      | false => rw [hc] at h; exact hK _ _ _ h
    · cases h
  unfold fK at h ⊢; split at h
  · exact go _ _ h
  · exact go _ _ h
  · cases h
 | exit id => intro A e st R K Kk r h hK; exact hK _ _ _ h
 | ret => intro A e st R K Kk r h hK; exact hK _ _ _ h
 | scope x ih => intro A e st R K Kk r h hK; exact ih A e st K Kk r h hK
 | label l => intro A e st R K Kk r h hK; exact hK _ _ _ h
 | goto l => intro A e st R K Kk r h hK; cases h
 | refuse s => intro A e st R K Kk r h hK; cases h
end
open Classical in
noncomputable def tX {R : Type} (F : Nat → Option R) : Option R := if h : ∃ r, Evt F r then some h.choose else none
theorem lP {R : Type} {F : Nat → Option R} {r : R} (h : Evt F r) : tX F = some r := by
 unfold tX
 have hx : ∃ r, Evt F r := ⟨r, h⟩
 rw [dif_pos hx]; obtain ⟨k1, h1⟩ := h; obtain ⟨k2, h2⟩ := hx.choose_spec; have := h1 (max k1 k2) (by omega); rw [h2 (max k1 k2) (by omega)] at this; exact this
theorem gu {R : Type} {F : Nat → Option R} {r : R} (h : tX F = some r) : Evt F r := by
 unfold tX at h; split at h
 · rename_i hx
   obtain rfl := Option.some.inj h; exact hx.choose_spec
 · cases h
noncomputable def E (L : Lib) : bD := fun f args st => tX fun k => evF L k f args st
noncomputable def itE : bN := fun b vs st => tX fun k => iter b k vs st
theorem CH {b : List PV → St → Option (Ex × List PV × St)} {bk : Nat → List PV → St → Option (Ex × List PV × St)} (hb : ∀ vs st r, b vs st = some r → Evt (fun k => bk k vs st) r) :
 ∀ (n : Nat) (vs : List PV) (st : St) (r : Ex × List PV × St), iter b n vs st = some r → Evt (fun k => iter (bk k) k vs st) r
 | 0, vs, st, r, h => by cases h
 | n + 1, vs, st, r, h => by
  simp only [iter] at h; obtain ⟨q, hq, h⟩ := Option.bind_eq_some_iff.1 h; obtain ⟨k1, h1⟩ := hb vs st q hq
  replace h1 : ∀ k, k1 ≤ k → bk k vs st = some q := h1
  have key : ∃ k2, ∀ k j, k2 ≤ k → k2 ≤ j → iter (bk k) (j + 1) vs st = some r := by
   obtain ⟨x, vs', st'⟩ := q
   cases x with
   | normal =>
    obtain ⟨k3, h3⟩ := tV hb n vs' st' r h; exact ⟨max k1 k3, fun k j hk hj => by simp only [iter]; rw [h1 k (by omega)]; exact h3 k j (by omega) (by omega)⟩
   | exit i => exact ⟨k1, fun k j hk hj => by simp only [iter]; rw [h1 k (by omega)]; exact h⟩
   | ret => exact ⟨k1, fun k j hk hj => by simp only [iter]; rw [h1 k (by omega)]; exact h⟩
   | pan t v => exact ⟨k1, fun k j hk hj => by simp only [iter]; rw [h1 k (by omega)]; exact h⟩
  obtain ⟨k2, h2⟩ := key; refine ⟨k2 + 1, fun k hk => ?_⟩
  obtain ⟨j, rfl⟩ : ∃ j, k = j + 1 := ⟨k - 1, by omega⟩
  exact h2 (j + 1) j (by omega) (by omega)
where
 tV {b : List PV → St → Option (Ex × List PV × St)} {bk : Nat → List PV → St → Option (Ex × List PV × St)} (hb : ∀ vs st r, b vs st = some r → Evt (fun k => bk k vs st) r) :
  ∀ (n : Nat) (vs : List PV) (st : St) (r : Ex × List PV × St), iter b n vs st = some r → ∃ k0, ∀ k j, k0 ≤ k → k0 ≤ j → iter (bk k) j vs st = some r
 | 0, vs, st, r, h => by cases h
 | n + 1, vs, st, r, h => by
  simp only [iter] at h; obtain ⟨q, hq, h⟩ := Option.bind_eq_some_iff.1 h; obtain ⟨k1, h1⟩ := hb vs st q hq
  replace h1 : ∀ k, k1 ≤ k → bk k vs st = some q := h1
  obtain ⟨x, vs', st'⟩ := q
  cases x with
  | normal =>
   obtain ⟨k3, h3⟩ := tV hb n vs' st' r h; refine ⟨max k1 k3 + 1, fun k j hk hj => ?_⟩
   obtain ⟨j, rfl⟩ : ∃ i, j = i + 1 := ⟨j - 1, by omega⟩
   simp only [iter]; rw [h1 k (by omega)]; exact h3 k j (by omega) (by omega)
  | exit i =>
   refine ⟨k1 + 1, fun k j hk hj => ?_⟩
   obtain ⟨j, rfl⟩ : ∃ i, j = i + 1 := ⟨j - 1, by omega⟩
   simp only [iter]; rw [h1 k (by omega)]; exact h
  | ret =>
   refine ⟨k1 + 1, fun k j hk hj => ?_⟩
   obtain ⟨j, rfl⟩ : ∃ i, j = i + 1 := ⟨j - 1, by omega⟩
   simp only [iter]; rw [h1 k (by omega)]; exact h
  | pan t v =>
   refine ⟨k1 + 1, fun k j hk hj => ?_⟩
   obtain ⟨j, rfl⟩ : ∃ i, j = i + 1 := ⟨j - 1, by omega⟩
   simp only [iter]; rw [h1 k (by omega)]; exact h
theorem EY {b : List PV → St → Option (Ex × List PV × St)} {bk : Nat → List PV → St → Option (Ex × List PV × St)} (hb : ∀ vs st r, b vs st = some r → Evt (fun k => bk k vs st) r) {vs : List PV} {st : St} {r : Ex × List PV × St}
 (h : itE b vs st = some r) : Evt (fun k => itK k (bk k) vs st) r := by
 obtain ⟨k1, h1⟩ := gu h; exact CH hb k1 vs st r (h1 k1 (av _))
theorem sk (b : List PV → St → Option (Ex × List PV × St)) (vs : List PV) (st : St) : itE b vs st = (b vs st).bind fun r => bF r.1 (itE b r.2.1 r.2.2) fun _ => some r := by
 cases hb : b vs st with
 | none =>
  cases hi : itE b vs st with
  | none => rfl
  | some r =>
   exfalso
   obtain ⟨k1, h1⟩ := gu hi; have := h1 (k1 + 1) (by omega); simp only [iter, hb] at this; cases this
 | some q =>
  rw [ag]; obtain ⟨x, vs', st'⟩ := q
  cases x with
  | normal =>
   show itE b vs st = itE b vs' st'
   have hstep : ∀ k, iter b (k + 1) vs st = iter b k vs' st' := fun k => by simp only [iter, hb]; rfl
   cases hi : itE b vs' st' with
   | some r =>
    obtain ⟨k1, h1⟩ := gu hi; refine lP ⟨k1 + 1, fun k hk => ?_⟩
    obtain ⟨j, rfl⟩ : ∃ i, k = i + 1 := ⟨k - 1, by omega⟩
    show iter b (j + 1) vs st = some r
    rw [hstep]; exact h1 j (by omega)
   | none =>
    cases hj : itE b vs st with
    | none => rfl
    | some r =>
     exfalso
     obtain ⟨k1, h1⟩ := gu hj
     have : itE b vs' st' = some r := lP ⟨k1, fun k hk => by
      show iter b k vs' st' = some r
      rw [← hstep]; exact h1 (k + 1) (by omega)⟩
     rw [hi] at this; cases this
  | exit i => exact lP ⟨1, fun k hk => by obtain ⟨j, rfl⟩ : ∃ i, k = i + 1 := ⟨k - 1, by omega⟩; simp only [iter, hb]; rfl⟩
  | ret => exact lP ⟨1, fun k hk => by obtain ⟨j, rfl⟩ : ∃ i, k = i + 1 := ⟨k - 1, by omega⟩; simp only [iter, hb]; rfl⟩
  | pan t v => exact lP ⟨1, fun k hk => by obtain ⟨j, rfl⟩ : ∃ i, k = i + 1 := ⟨k - 1, by omega⟩; simp only [iter, hb]; rfl⟩
theorem gG {R : Type} {C1 C2 : Cfg} (h : C1.P = C2.P) : ∀ (rs : List ResultVar) (e : Env) (st : St) (K : List PV → Option R), fU C1 rs e st K = fU C2 rs e st K
 | [], e, st, K => rfl
 | .tmp t :: rs, e, st, K => gG h rs e st _
 | .cell a t :: rs, e, st, K => by
  simp only [fU, h]
  cases C2.P.underlying t with
  | none => rfl
  | some d =>
   show (ak (oI C2.P t) (szT C2.P t) (e a) st).bind (fun p => fU C1 rs e st fun ps => K (p :: ps)) = (ak (oI C2.P t) (szT C2.P t) (e a) st).bind (fun p => fU C2 rs e st fun ps => K (p :: ps))
   congr 1
   funext p
   exact gG h rs e st _
structure BK (callk : Nat → bD) (itk : Nat → bN) (call : bD) (it : bN) : Prop where
 call : ∀ f args st r, call f args st = some r → Evt (fun k => callk k f args st) r
 it : ∀ (b : List PV → St → Option (Ex × List PV × St)) (bk : Nat → List PV → St → Option (Ex × List PV × St)), (∀ vs st r, b vs st = some r → Evt (fun k => bk k vs st) r) → ∀ vs st r, it b vs st = some r → Evt (fun k => itk k (bk k) vs st) r
section
variable {callk : Nat → bD} {itk : Nat → bN} {call : bD} {it : bN} (H : BK callk itk call it) {L : Lib}
include H
theorem BK.lim (n base : Nat) (imp : List FuncId) (md : Md) (rd : Option Nat) (lb : Nat) (gl : Nat → PV) (pn : List FuncId) : Lim (fun k => ⟨L.P, callk k, n, base, itk k, imp, md, rd, lb, gl, pn⟩) ⟨L.P, call, n, base, it, imp, md, rd, lb, gl, pn⟩ :=
 ⟨fun _ => rfl, fun _ => rfl, fun _ => rfl, fun _ => rfl, fun _ => rfl, fun _ => rfl, fun _ => rfl, fun _ => rfl, fun _ => rfl, H.call, H.it⟩
theorem rR {f : FuncId} {fn : Func} {c : Code} {args : List PV} {st : St} {r : PV × St} (h : iD L call it f fn c args st = some r) : Evt (fun k => iD L (callk k) (itk k) f fn c args st) r := by
 unfold iD at h ⊢
 cases hn : dI args.length fn.ntmps with
 | false => rw [hn] at h; simp at h
 | true =>
  rw [hn] at h; simp only [cond_true] at h ⊢
  refine mq (H.lim fn.ntmps st.stk.length L.imp (L.md f) none st.lp.length L.gl L.pn) c (L.ann f) _ st _ _ r h fun x e s hx => ?_
  cases hpn : L.pn.any (aj f) with
  | false =>
   rw [hpn] at hx; simp only [hpn, cond_false] at hx ⊢
   cases x with
   | normal => exact (Evt.const hx).congr fun k => by simp only [dF]; refine gG ?_ _ _ _ _; rfl
   | ret => exact (Evt.const hx).congr fun k => by simp only [dF]; refine gG ?_ _ _ _ _; rfl
   | exit i => cases hx
   | pan t v => cases hx
  | true =>
   rw [hpn] at hx; simp only [hpn, cond_true] at hx ⊢
   cases x with
   | normal => exact (Evt.const hx).congr fun k => by simp only [fQ]; refine gG ?_ _ _ _ _; rfl
   | ret => exact (Evt.const hx).congr fun k => by simp only [fQ]; refine gG ?_ _ _ _ _; rfl
   | exit i => cases hx
   | pan t v => exact Evt.const hx
theorem Bb {i : Nat} {lp : Lp} {args : List PV} {st : St} {r : PV × St} (h : jc L call it i lp args st = some r) : Evt (fun k => jc L (callk k) (itk k) i lp args st) r := by
 unfold jc at h ⊢
 cases hn : aj lp.at_ 0 && aj args.length lp.ps.length with
 | false => rw [hn] at h; simp at h
 | true =>
  rw [hn] at h; simp only [cond_true] at h ⊢
  refine mq (H.lim lp.n st.stk.length L.imp lp.md (some i) st.lp.length L.gl L.pn) lp.assign lp.A.x _ st _ _ r h fun x e s hx => ?_
  cases hx2 : gD x with
  | false => rw [hx2] at hx; simp at hx
  | true =>
   rw [hx2] at hx; simp only [cond_true] at hx ⊢; unfold uN at hx ⊢; split at hx
   · rename_i q hq
     cases h0 : aj q.at_ 0 with
     | false => rw [h0] at hx; simp at hx
     | true =>
      rw [h0] at hx; simp only [cond_true] at hx ⊢
      exact mq (H.lim lp.n st.stk.length L.imp lp.md (some i) st.lp.length L.gl L.pn) lp.body lp.A.y e _ _ _ r hx fun x e s hx => Evt.const hx
   · cases hx
end
theorem lK {R : Type} {x : Option R} {r : R} (h : Evt (fun _ => x) r) : x = some r := by
 obtain ⟨k, h⟩ := h; exact h k (av _)
theorem sa {L : Lib} : ∀ (k : Nat) (g : Fn) (args : List PV) (st : St) (r : PV × St), evF L k g args st = some r → evF L (k + 1) g args st = some r
 | 0, g, args, st, r, h => by cases h
 | k + 1, g, args, st, r, h => by
  have hl : BK (fun _ => evF L (k + 1)) (fun _ => itK (k + 1)) (evF L k) (itK k) :=
   ⟨fun f args st r h => Evt.const (sa k f args st r h), fun b bk hb vs st r h => by
    obtain ⟨k1, h1⟩ : Evt (fun j => itK (k + 1) (bk j) vs st) r := by
     have : ∀ (n : Nat) (vs : List PV) (st : St) (r : Ex × List PV × St), iter b n vs st = some r → ∀ m, n ≤ m → Evt (fun j => iter (bk j) m vs st) r := by
      intro n
      induction n with
      | zero => intro vs st r h; cases h
      | succ n ih =>
       intro vs st r h m hm
       obtain ⟨m, rfl⟩ : ∃ i, m = i + 1 := ⟨m - 1, by omega⟩
       simp only [iter] at h ⊢; obtain ⟨q, hq, h⟩ := Option.bind_eq_some_iff.1 h; refine (hb _ _ _ hq).bind ?_; obtain ⟨x, vs', st'⟩ := q
       cases x with
       | normal => exact ih vs' st' r h m (by omega)
       | exit i => exact Evt.const h
       | ret => exact Evt.const h
       | pan t v => exact Evt.const h
     exact this k vs st r h (k + 1) (Nat.le_succ _)
    exact ⟨k1, h1⟩⟩
  cases g with
  | func f =>
   have h : (match L.mD f with
    | some q => q.g (evF L k) args st
    | none => match L.P.funcs[f]? with
     | some fn => match fn.body with
      | some c => iD L (evF L k) (itK k) f fn c args st
      | none => none
     | none => none) = some r := h
   show (match L.mD f with
    | some q => q.g (evF L (k + 1)) args st
    | none => match L.P.funcs[f]? with
     | some fn => match fn.body with
      | some c => iD L (evF L (k + 1)) (itK (k + 1)) f fn c args st
      | none => none
     | none => none) = some r
   cases hp : L.mD f with
   | some q => rw [hp] at h; exact lK (q.lim (Ck := fun _ => evF L (k + 1)) (fun f args st r h => Evt.const (sa k f args st r h)) args st r h)
   | none =>
    rw [hp] at h; simp only at h ⊢
    cases hf : L.P.funcs[f]? with
    | none => rw [hf] at h; cases h
    | some fn =>
     rw [hf] at h; simp only at h ⊢
     cases hb : fn.body with
     | none => rw [hb] at h; cases h
     | some c =>
      rw [hb] at h; exact lK (rR hl h)
  | yield i =>
   have h : (match st.loop i with
    | some r => jc L (evF L k) (itK k) i r args st
    | none => none) = some r := h
   show (match st.loop i with
    | some r => jc L (evF L (k + 1)) (itK (k + 1)) i r args st
    | none => none) = some r
   cases hq : st.loop i with
   | none => rw [hq] at h; cases h
   | some lp =>
    rw [hq] at h; exact lK (Bb hl h)
  | _ => cases h
theorem Co {L : Lib} {k : Nat} {g : Fn} {args : List PV} {st : St} {r : PV × St} (h : evF L k g args st = some r) : ∀ j, k ≤ j → evF L j g args st = some r := by
 intro j hj
 obtain ⟨d, rfl⟩ : ∃ d, j = k + d := ⟨j - k, by omega⟩
 induction d with
 | zero => exact h
 | succ d ih => exact sa _ _ _ _ _ (ih (by omega))
theorem DL {L : Lib} {k : Nat} {g : Fn} {args : List PV} {st : St} {r : PV × St} (h : evF L k g args st = some r) : E L g args st = some r := lP ⟨k, Co h⟩
theorem xY (L : Lib) (k : Nat) : BK (fun _ => E L) (fun _ => itE) (evF L k) (itK k) := by
 refine ⟨fun f args st r h => Evt.const (DL h), fun b bk hb vs st r h => ?_⟩
 have : ∀ (n : Nat) (vs : List PV) (st : St) (r : Ex × List PV × St), iter b n vs st = some r → Evt (fun j => itE (bk j) vs st) r := by
  intro n
  induction n with
  | zero => intro vs st r h; cases h
  | succ n ih =>
   intro vs st r h; simp only [iter] at h; obtain ⟨q, hq, h⟩ := Option.bind_eq_some_iff.1 h
   refine Evt.congr (F := fun j => (bk j vs st).bind fun r => bF r.1 (itE (bk j) r.2.1 r.2.2) fun _ => some r) ?_ fun j => (sk (bk j) vs st).symm
   refine (hb _ _ _ hq).bind ?_; obtain ⟨x, vs', st'⟩ := q
   cases x with
   | normal => exact ih vs' st' r h
   | exit i => exact Evt.const h
   | ret => exact Evt.const h
   | pan t v => exact Evt.const h
 exact this k vs st r h
theorem Hd (L : Lib) : BK (fun k => evF L k) itK (E L) itE := ⟨fun f args st r h => gu h, fun b bk hb vs st r h => EY hb h⟩
theorem yI {L : Lib} {f : FuncId} {q : qT} (hp : L.mD f = some q) (args : List PV) (st : St) : E L (.func f) args st = q.g (E L) args st := by
 have step : ∀ k, evF L (k + 1) (.func f) args st = q.g (evF L k) args st := fun k => by
  show (match L.mD f with
   | some q => q.g (evF L k) args st
   | none => _) = _
  rw [hp]
 cases hg : q.g (E L) args st with
 | some r =>
  obtain ⟨k, hk⟩ := q.lim (Ck := fun k => evF L k) (fun f args st r h => gu h) args st r hg; exact DL (k := k + 1) ((step k).trans (hk k (av _)))
 | none =>
  cases he : E L (.func f) args st with
  | none => rfl
  | some r =>
   obtain ⟨k, hk⟩ := gu he; have h1 := hk (k + 1) (by omega); simp only [] at h1; rw [step] at h1; have := lK (q.lim (Ck := fun _ => E L) (fun f args st r h => Evt.const (DL h)) args st r h1)
   rw [hg] at this; cases this
theorem rL {L : Lib} {f : FuncId} {g : List PV → St → Option (PV × St)} (hp : L.mD f = some (.pure g)) (args : List PV) (st : St) : E L (.func f) args st = g args st := yI hp args st
theorem F8 {L : Lib} {f : FuncId} {fn : Func} {c : Code} (hp : L.mD f = none) (hf : L.P.funcs[f]? = some fn) (hb : fn.body = some c) (args : List PV) (st : St) : E L (.func f) args st = iD L (E L) itE f fn c args st := by
 have step : ∀ k, evF L (k + 1) (.func f) args st = iD L (evF L k) (itK k) f fn c args st := fun k => by
  show (match L.mD f with
   | some q => q.g (evF L k) args st
   | none => match L.P.funcs[f]? with
    | some fn => match fn.body with
     | some c => iD L (evF L k) (itK k) f fn c args st
     | none => none
    | none => none) = _
  rw [hp]; simp only [hf, hb]
 cases hg : iD L (E L) itE f fn c args st with
 | some r =>
  obtain ⟨k, hk⟩ := rR (Hd L) hg; exact DL (k := k + 1) ((step k).trans (hk k (av _)))
 | none =>
  cases he : E L (.func f) args st with
  | none => rfl
  | some r =>
   obtain ⟨k, hk⟩ := gu he; have := hk (k + 1) (by omega); simp only [] at this; rw [step] at this; have := lK (rR (xY L k) this); rw [hg] at this; cases this
theorem Hx {L : Lib} {g : Fn} {args : List PV} {st : St} {r : PV × St} (h : E L g args st = some r) : ∃ k, evF L k g args st = some r := by
 obtain ⟨k, hk⟩ := gu h; exact ⟨k, hk k (av _)⟩
def _root_.Go.Code.l : Code → Code
 | .seq a _ | .cond _ a _ | .block _ a | .loop a | .scope a | .rangeFunc _ _ a _ => a
 | c => c
def _root_.Go.Code.r : Code → Code
 | .seq _ b | .cond _ _ b | .rangeFunc _ _ _ b => b
 | c => c
def aW (places : List (Nat × Nat)) (z : List PV) (parts : List (Nat × PV)) : Option PV := (cj (fun i => places.toArray[i]?) z parts).bind fun cs => some (.agg cs)
def jh (sz : Nat) (z : List PV) (n : Nat) (parts : List (Nat × PV)) : Option (List PV × Nat) := (cj (fun i => some (i * sz, sz)) (gm n z) parts).bind fun cs => (cC cs).bind fun ds => some (ds, sz)
def aX (sz : Nat) (z : List PV) (n : Nat) (parts : List (Nat × PV)) : Option PV := (jh sz z n parts).bind fun r => some (.sl (chunks r.2 n r.1) .full)
def dv (base : Nat) (z : List PV) (sz bytes : Nat) (s : PV) (ys : List (List PV)) (st : St) : Option (PV × St) := match s with
 | .rs h b off len sz' => (some z).bind fun _ => pf base sz bytes (.rs h b off len sz') ys st
 | s => nS sz bytes s ys st
theorem bL {L : Lib} {f : FuncId} {fn : Func} (hp : L.mD f = none) (hf : L.P.funcs[f]? = some fn) (args : List PV) (st : St) : E L (.func f) args st = match fn.body with
 | some c => iD L (E L) itE f fn c args st
 | none => none := by
 cases hb : fn.body with
 | some c => exact F8 hp hf hb args st
 | none =>
  cases he : E L (.func f) args st with
  | none => rfl
  | some r =>
   obtain ⟨k, hk⟩ := gu he; have := hk (k + 1) (by omega); simp only [evF, hp, hf, hb] at this; cases this
theorem gW (a b : Nat) : aj a b = decide (a = b) := by
 cases h : aj a b with
 | true => rw [ax h]; simp
 | false => simp [Nat.ne_of_beq_eq_false h]
theorem gU (a b : Int) : (a == b) = decide (a = b) := by
 by_cases h : a = b <;> simp [h]
theorem gK (a b : Nat) : dI a b = decide (a ≤ b) := by
 cases h : dI a b with
 | true => simp [eG h]
 | false =>
  have : ¬ a ≤ b := fun z => by rw [← Nat.ble_eq] at z; rw [z] at h; cases h
  simp [this]
theorem gE (a b : Nat) : fZ a b = decide (a < b) := by
 rw [fZ, gK]; congr 1
theorem cY (x : Value) : ah (.v x) = .v x := rfl
theorem cu (es : List (List PV)) (c : Cap) : ah (.sl es c) = .sl es .dead := rfl
theorem bV (f : Fn) (cs : List PV) : ah (.clo f cs) = .clo f cs := rfl
theorem bW (h : Bool) (b off : Nat) : ah (.ptr h b off) = .ptr h b off := rfl
theorem dS (own : Bool) (m n : Nat) (x : Value) : sf own m (n + 1) (.v x) = true := rfl
theorem fk (own : Bool) (m n : Nat) (es : List (List PV)) (c : Cap) : sf own m (n + 1) (.sl es c) = c.sf own m := rfl
theorem dY (own : Bool) (m n b off : Nat) : sf own m (n + 1) (.ptr false b off) = decide (b < m) := gE b m
theorem dh (own : Bool) (m n b off : Nat) : sf own m (n + 1) (.ptr true b off) = true := rfl
theorem dW (own : Bool) (m n : Nat) (g : FuncId) : sf own m (n + 1) (.clo (.func g) []) = true := by cases own <;> rfl
theorem dc (own : Bool) (m : Nat) : Cap.sf own m .dead = true := rfl
theorem dX (own : Bool) (m : Nat) : Cap.sf own m .nil = true := rfl
theorem de (own : Bool) (m : Nat) : Cap.sf own m .full = true := rfl
theorem fj (m t e : Nat) : Cap.sf true m (.own .fr t e) = true := rfl
theorem bX {β : Type} (x : Option β) : bR True x = x := by simp [bR]
theorem cv (st : St) (es : List (List PV)) (c : Cap) : cm st (.sl es c) = some es := rfl
def St.app (s : St) (bl : List Blk) (tk : List (Nat × Nat)) (lp : List Aux) : St := ⟨s.stk ++ bl, s.hp, s.tk ++ tk, s.lp ++ lp⟩
theorem al (s : St) : s.app [] [] [] = s := by simp [St.app]
theorem cr (s : St) (bl : List Blk) (tk : List (Nat × Nat)) (lp : List Aux) (cs : List PV) : (s.app bl tk lp).push cs = s.app (bl ++ [⟨cs, []⟩]) tk lp := by simp [St.app, St.push]
theorem cw (s : St) (bl : List Blk) (tk : List (Nat × Nat)) (lp : List Aux) : (s.app bl tk lp).stk.length = s.stk.length + bl.length := by simp [St.app]
theorem dQ (s : St) (bl : List Blk) (tk : List (Nat × Nat)) (lp : List Aux) : (s.app bl tk lp).tk.length = s.tk.length + tk.length := by simp [St.app]
theorem dU (s : St) (bl : List Blk) (tk : List (Nat × Nat)) (lp : List Aux) : (s.app bl tk lp).lp.length = s.lp.length + lp.length := by simp [St.app]
theorem vH (s : St) (bl : List Blk) (tk : List (Nat × Nat)) (lp : List Aux) : (s.app bl tk lp).back s.stk.length s.tk.length s.lp.length = s := by simp [St.app, St.back]
theorem rE (s : St) (bl : List Blk) (tk : List (Nat × Nat)) (lp : List Aux) (j : Nat) : (s.app bl tk lp).blk false (s.stk.length + j) = (bl[j]?).map Blk.cs := by
 simp only [St.blk, St.bk, St.app]; rw [List.getElem?_append_right (by omega)]
 congr 2
 omega
theorem ng {s : St} {b : Nat} (h : b < s.stk.length) (bl : List Blk) (tk : List (Nat × Nat)) (lp : List Aux) : (s.app bl tk lp).blk false b = s.blk false b := by
 simp only [St.blk, St.bk, St.app]; rw [List.getElem?_append_left h]
theorem nC (agg : Bool) (sz off j : Nat) (s : St) (bl : List Blk) (tk : List (Nat × Nat)) (lp : List Aux) : ak agg sz (.ptr false (s.stk.length + j) off) (s.app bl tk lp) = ((bl[j]?).map Blk.cs).bind (part agg sz off) := by
 simp only [ak, rE]
theorem CN {agg : Bool} {sz off b : Nat} {s : St} (h : b < s.stk.length) (bl : List Blk) (tk : List (Nat × Nat)) (lp : List Aux) : ak agg sz (.ptr false b off) (s.app bl tk lp) = ak agg sz (.ptr false b off) s := by
 simp only [ak, ng h]
theorem cZ (agg : Bool) (sz off : Nat) (cs : List PV) (s : St) : ak agg sz (.fp cs off) s = part agg sz off cs := rfl
theorem jq (s : St) (bl : List Blk) (tk : List (Nat × Nat)) (lp : List Aux) (j : Nat) (cs : List PV) : (s.app bl tk lp).af false (s.stk.length + j) cs = s.app (bl.modify j fun x => ⟨cs, x.tk⟩) tk lp := by
 simp only [St.af, St.upB, St.app]
 congr 1
 apply List.ext_getElem?; intro i; rw [List.getElem?_modify, fO, fO, List.getElem?_modify]
 by_cases h : i < s.stk.length
 · rw [if_pos h, if_pos h]
   have : s.stk.length + j ≠ i := by omega
   simp [this]
 · rw [if_neg h, if_neg h]
   have : (s.stk.length + j = i) = (j = i - s.stk.length) := by apply propext; omega
   simp only [this]
def du (bl : List Blk) (j off sz : Nat) (v : PV) : Option (List Blk) := (cellsOf v).bind fun cs => (bl[j]?).bind fun old =>
 bif aj cs.length sz && !aj sz 0 && (dI (off + cs.length) old.cs.length && aG cs) then some (bl.modify j fun x => ⟨laid old.cs off cs, x.tk⟩) else none
theorem lX (sz off j : Nat) (v : PV) (s : St) (bl : List Blk) (tk : List (Nat × Nat)) (lp : List Aux) : aq s.stk.length sz (.ptr false (s.stk.length + j) off) v (s.app bl tk lp) = (du bl j off sz v).map fun bl => s.app bl tk lp := by
 simp only [aq, du, putCells, rE]
 cases hc : cellsOf v with
 | none => rfl
 | some cs =>
  simp only [ag]
  cases hb : bl[j]? with
  | none => cases aj cs.length sz && !aj sz 0 <;> rfl
  | some old =>
   simp only [aN, ag]
   have hlt : fZ (s.stk.length + j) s.stk.length = false := by
    cases h : fZ (s.stk.length + j) s.stk.length with
    | false => rfl
    | true => rw [Nat.blt_eq] at h; omega
   cases aj cs.length sz && !aj sz 0 <;> cases dI (off + cs.length) old.cs.length && aG cs <;> simp [hlt, jq]
theorem n7 (agg : Bool) (sz off : Nat) (s : St) (bl : List Blk) (tk : List (Nat × Nat)) (lp : List Aux) : ak agg sz (.ptr false s.stk.length off) (s.app bl tk lp) = ((bl[0]?).map Blk.cs).bind (part agg sz off) := nC agg sz off 0 s bl tk lp
theorem mL (sz off : Nat) (v : PV) (s : St) (bl : List Blk) (tk : List (Nat × Nat)) (lp : List Aux) : aq s.stk.length sz (.ptr false s.stk.length off) v (s.app bl tk lp) = (du bl 0 off sz v).map fun bl => s.app bl tk lp := lX sz off 0 v s bl tk lp
theorem lM (s : St) (n : Nat) (bl : List Blk) (tk : List (Nat × Nat)) (lp : List Aux) (x : Ex) (vs : List PV) : eN s.stk.length s.lp.length (s.stk.length + n) x vs (s.app bl tk lp) =
 bif lp.all cN && vs.all (sf true (s.stk.length + n) 4) && (bl.take n).all (fun b => b.cs.all (sf true (s.stk.length + n) 4)) then some (x, vs, s.app (bl.take n) tk lp) else none := by
 have h1 : (s.app bl tk lp).lp.drop s.lp.length = lp := by simp [St.app]
 have h2 : ((s.app bl tk lp).stk.drop s.stk.length).take (s.stk.length + n - s.stk.length) = bl.take n := by simp [St.app]
 have h3 : ({ s.app bl tk lp with stk := (s.app bl tk lp).stk.take (s.stk.length + n) } : St) = s.app (bl.take n) tk lp := by
  simp only [St.app]
  congr 1
  rw [List.take_append, List.take_of_length_le (by omega)]
  congr 2
  omega
 simp only [eN, h1, h2, h3]
theorem my (s : St) (bl : List Blk) (tk : List (Nat × Nat)) (lp : List Aux) (x : Ex) (vs : List PV) : eN s.stk.length s.lp.length s.stk.length x vs (s.app bl tk lp) =
 bif lp.all cN && vs.all (sf true s.stk.length 4) then some (x, vs, s.app [] tk lp) else none := by
 have := lM s 0 bl tk lp x vs; simp only [bu, bj, bT, bC] at this; exact this
theorem gb (P : Program) (x : Value) (h : ji x = true) : fF (fo P (pure x)) = some (.v x) := by
 show fF (some x) = _
 simp [fF, h]
section
variable (P : Program) (cst : Bool) (t : TypeId) (k : IntKind) (a b : Int)
theorem pq (op : BinOp) : aH P cst op t (.v (.int k a)) (.v (.int k b)) = fF (fo P (binOp op t (.int k a) (.int k b))) := rfl
theorem cP : aH P cst .add t (.v (.int k a)) (.v (.int k b)) = some (.v (.int k (k.wrap (a + b)))) := by rw [pq, show binOp .add t (.int k a) (.int k b) = pure (.int k (k.wrap (a + b))) by simp [binOp, Op.intArith]]; exact gb P _ rfl
theorem cX : aH P cst .sub t (.v (.int k a)) (.v (.int k b)) = some (.v (.int k (k.wrap (a - b)))) := by rw [pq, show binOp .sub t (.int k a) (.int k b) = pure (.int k (k.wrap (a - b))) by simp [binOp, Op.intArith]]; exact gb P _ rfl
theorem cV : aH P cst .mul t (.v (.int k a)) (.v (.int k b)) = some (.v (.int k (k.wrap (a * b)))) := by rw [pq, show binOp .mul t (.int k a) (.int k b) = pure (.int k (k.wrap (a * b))) by simp [binOp, Op.intArith]]; exact gb P _ rfl
theorem nT (op : BinOp) (h : op = .eql ∨ op = .neq ∨ op = .lss ∨ op = .leq ∨ op = .gtr ∨ op = .geq) : aH P cst op t (.v (.int k a)) (.v (.int k b)) = fF (fo P (Op.intCmp op a b)) := by
 rw [pq]; rcases h with rfl | rfl | rfl | rfl | rfl | rfl <;> simp [binOp]
theorem cQ : aH P cst .eql t (.v (.int k a)) (.v (.int k b)) = some (.v (.bool (decide (a = b)))) := by rw [nT _ _ _ _ _ _ _ (by simp)]; exact gb P _ rfl
theorem cW : aH P cst .neq t (.v (.int k a)) (.v (.int k b)) = some (.v (.bool (!decide (a = b)))) := by rw [nT _ _ _ _ _ _ _ (by simp)]; exact gb P _ rfl
theorem cU : aH P cst .lss t (.v (.int k a)) (.v (.int k b)) = some (.v (.bool (decide (a < b)))) := by rw [nT _ _ _ _ _ _ _ (by simp)]; exact gb P _ rfl
theorem cT : aH P cst .leq t (.v (.int k a)) (.v (.int k b)) = some (.v (.bool (decide (a ≤ b)))) := by rw [nT _ _ _ _ _ _ _ (by simp)]; exact gb P _ rfl
theorem cS : aH P cst .gtr t (.v (.int k a)) (.v (.int k b)) = some (.v (.bool (decide (a > b)))) := by rw [nT _ _ _ _ _ _ _ (by simp)]; exact gb P _ rfl
theorem cR : aH P cst .geq t (.v (.int k a)) (.v (.int k b)) = some (.v (.bool (decide (a ≥ b)))) := by rw [nT _ _ _ _ _ _ _ (by simp)]; exact gb P _ rfl
theorem dZ : aUn P .not (.v (.bool cst)) = some (.v (.bool (!cst))) := by cases cst <;> rfl
variable (x y : ByteArray)
theorem rK (h : x.size + y.size ≤ 9223372036854775807) : aH P cst .add t (.v (.string x)) (.v (.string y)) = some (.v (.string (x ++ y))) := by
 show fF (fo P (Op.stringOp .add x y)) = _
 have : ¬ (((x.size + y.size : Nat) : Int) > IntKind.i64.max) := by simp [IntKind.max, IntKind.bits]; omega
 simp only [Op.stringOp, this, if_false]; exact gb P _ rfl
theorem dR : (x == y) = decide (x = y) := by
 cases x with | mk x => cases y with | mk y =>
 have h : ((⟨x⟩ : ByteArray) == ⟨y⟩) = (x == y) := rfl; rw [h]
 by_cases e : x = y
 · subst e; simp
 · have : (⟨x⟩ : ByteArray) ≠ ⟨y⟩ := fun q => e (by injection q)
   simp [e, this]
theorem zc : (x.toList == y.toList) = decide (x = y) := by
 rw [← beq_toListBytes, dR]
theorem di : aH P cst .eql t (.v (.string x)) (.v (.string y)) = some (.v (.bool (decide (x = y)))) := by rw [← zc]; rfl
theorem dj : aH P cst .neq t (.v (.string x)) (.v (.string y)) = some (.v (.bool (!decide (x = y)))) := by rw [← zc]; rfl
end
theorem nZ (s : St) (bl : List Blk) (tk : List (Nat × Nat)) (lp : List Aux) (ps : List PV) : fin s.stk.length s.tk.length s.lp.length ps (s.app bl tk lp) =
 (j5 s.stk.length (s.app bl tk lp) (lj ps)).bind fun p => bif sf false s.stk.length 4 p then some (p, s) else none := by
 simp only [fin, vH]
theorem Cv (s : St) (ps : List PV) : fin s.stk.length s.tk.length s.lp.length ps s =
 (j5 s.stk.length s (lj ps)).bind fun p => bif sf false s.stk.length 4 p then some (p, s) else none := by
 have := nZ s [] [] [] ps
 rwa [al] at this
theorem zo (s : St) (bl : List Blk) (tk : List (Nat × Nat)) (lp : List Aux) (x : Value) : fin s.stk.length s.tk.length s.lp.length [.v x] (s.app bl tk lp) = some (.v x, s.app [] [] []) := by
 rw [nZ, al]; rfl
theorem u0 (s : St) (bl : List Blk) (tk : List (Nat × Nat)) (lp : List Aux) (es : List (List PV)) (c : Cap) : fin s.stk.length s.tk.length s.lp.length [.sl es c] (s.app bl tk lp) = some (.sl es .dead, s.app [] [] []) := by
 rw [nZ, al]; rfl
theorem ER (s : St) (es : List (List PV)) (c : Cap) : fin s.stk.length s.tk.length s.lp.length [.sl es c] s = some (.sl es .dead, s) := by rw [Cv]; rfl
def dL : PV → Bool
 | .v _ | .sl _ _ => true
 | _ => false
theorem Cx {own : Bool} {m n : Nat} {p : PV} (h : dL p = true) : sf own m (n + 1) (bU p) = true := by
 cases p <;> simp_all [dL, bU, sf, Cap.sf]
theorem ou {m : Nat} {s : St} : ∀ {cs : List PV}, cs.all dL = true → kY m s cs = some (cs.map bU)
 | [], _ => rfl
 | c :: cs, h => by
  simp only [bq, an] at h
  have h1 : lz m s c = some (bU c) := by
   cases c <;> simp_all [dL, lz]
  simp only [kY, h1, ou h.2, ag, aZ]
theorem EP (s : St) (bl : List Blk) (tk : List (Nat × Nat)) (lp : List Aux) {cs : List PV} (h : cs.all dL = true) : fin s.stk.length s.tk.length s.lp.length [.agg cs] (s.app bl tk lp) = some (.agg (cs.map bU), s.app [] [] []) := by
 rw [nZ, al]
 have : j5 s.stk.length (s.app bl tk lp) (lj [PV.agg cs]) = some (.agg (cs.map bU)) := by
  simp only [lj, j5, j0, ou h, ag]
 rw [this]
 have h2 : sf false s.stk.length 4 (.agg (cs.map bU)) = true := by
  show (cs.map bU).all (sf false s.stk.length 3) = true
  rw [dH]; intro p hp; obtain ⟨q, hq, rfl⟩ := List.mem_map.1 hp; exact Cx (dH.1 h q hq)
 rw [ag, h2]; rfl
theorem uL {sz bytes : Nat} {es ys : List (List PV)} {c : Cap} (s : St) (bl : List Blk) (tk : List (Nat × Nat)) (lp : List Aux) (base : Nat) (z : List PV) (hc : c = .nil ∨ c = .full)
 (h1 : (es.length + ys.length) * bytes ≤ dO) (h2 : dm sz es = true) (h3 : dm sz ys = true) (h4 : sz ≠ 0) (h5 : bytes ≠ 0) :
 dv base z sz bytes (.sl es c) ys (s.app bl tk lp) = some (.sl (es ++ ys) (.own .fr (s.tk.length + tk.length) (es.length + ys.length)), s.app bl (tk ++ [(es.length + ys.length, sz)]) lp) := by
 have e4 : aj sz 0 = false := by cases h : aj sz 0 with | false => rfl | true => exact absurd (ax h) h4
 have e5 : aj bytes 0 = false := by cases h : aj bytes 0 with | false => rfl | true => exact absurd (ax h) h5
 have e1 : dI ((es.length + ys.length) * bytes) dO = true := by rw [Nat.ble_eq]; exact h1
 rcases hc with rfl | rfl <;> simp only [dv, nS, e1, h2, h3, e4, e5, bf, bC, cond_true, dQ, St.oc, St.app, bH, List.append_assoc]
theorem xE {sz bytes j : Nat} {es ys : List (List PV)} {e : Nat} (s : St) (bl : List Blk) {tk : List (Nat × Nat)} (lp : List Aux) (base : Nat) (z : List PV) (ht : tk[j]? = some (e, sz))
 (h1 : (es.length + ys.length) * bytes ≤ dO) (h2 : dm sz es = true) (h3 : dm sz ys = true) (h4 : sz ≠ 0) (h5 : bytes ≠ 0) :
 dv base z sz bytes (.sl es (.own .fr (s.tk.length + j) e)) ys (s.app bl tk lp) = some (.sl (es ++ ys) (.own .fr (s.tk.length + j) (e + ys.length)), s.app bl (tk.set j (e + ys.length, sz)) lp) := by
 have e4 : aj sz 0 = false := by cases h : aj sz 0 with | false => rfl | true => exact absurd (ax h) h4
 have e5 : aj bytes 0 = false := by cases h : aj bytes 0 with | false => rfl | true => exact absurd (ax h) h5
 have e1 : dI ((es.length + ys.length) * bytes) dO = true := by rw [Nat.ble_eq]; exact h1
 have htok : (s.app bl tk lp).tok .fr (s.tk.length + j) = some (e, sz) := by
  simp only [St.tok, St.app]; rw [List.getElem?_append_right (by omega)]
  rw [show s.tk.length + j - s.tk.length = j by omega]; exact ht
 have hset : (s.app bl tk lp).gq .fr (s.tk.length + j) (e + ys.length, sz) = s.app bl (tk.set j (e + ys.length, sz)) lp := by
  simp only [St.gq, St.app]
  congr 1
  rw [List.set_append_right _ _ (by omega), show s.tk.length + j - s.tk.length = j by omega]
 simp only [dv, nS, e1, h2, h3, e4, e5, bf, bC, cond_true, htok, Nat.beq_refl, bn, hset]
theorem kP {α : Type} {sz : Nat} (f : α → List PV) (h : ∀ a, (f a).length = sz) (l : List α) : dm sz (l.map f) = true := by
 unfold dm; rw [dH]; intro e he; obtain ⟨a, _, rfl⟩ := List.mem_map.1 he
 rw [h]; exact Nat.beq_refl _
theorem bQ {b : List PV → St → Option (Ex × List PV × St)} {vs vs' : List PV} {st st' : St} (h : b vs st = some (.normal, vs', st')) : itE b vs st = itE b vs' st' := by
 rw [sk, h]; rfl
theorem ft {b : List PV → St → Option (Ex × List PV × St)} {vs vs' : List PV} {st st' : St} {i : Nat} (h : b vs st = some (.exit i, vs', st')) : itE b vs st = some (.exit i, vs', st') := by
 rw [sk, h]; rfl
theorem eF {b : List PV → St → Option (Ex × List PV × St)} {vs vs' : List PV} {st st' : St} (h : b vs st = some (.ret, vs', st')) : itE b vs st = some (.ret, vs', st') := by
 rw [sk, h]; rfl
def Own (s : St) (tk : List (Nat × Nat)) (c : Cap) (n sz : Nat) : Prop :=
 (c = .nil ∨ c = .full) ∨ ∃ j, c = .own .fr (s.tk.length + j) n ∧ tk[j]? = some (n, sz)
def uv : Cap → Option Nat
 | .own _ t _ => some t
 | _ => none
def ql (a b : Cap) : Prop := uv b = none ∨ uv a ≠ uv b
theorem ql.symm {a b : Cap} (h : ql a b) : ql b a := by
 rcases h with h | h
 · cases ha : uv a with
   | none => exact .inl ha
   | some t => exact .inr (by rw [h, ha]; simp)
 · exact .inr fun e => h e.symm
theorem Own.nil (s : St) (tk : List (Nat × Nat)) (n sz : Nat) : Own s tk .nil n sz := .inl (.inl rfl)
theorem vI {s : St} {tk : List (Nat × Nat)} {c : Cap} {sz bytes : Nat} {es ys : List (List PV)} (h : Own s tk c es.length sz)
 (h1 : (es.length + ys.length) * bytes ≤ dO) (h2 : dm sz es = true) (h3 : dm sz ys = true) (h4 : sz ≠ 0) (h5 : bytes ≠ 0) :
 ∃ c' tk', (∀ (bl : List Blk) (lp : List Aux) (base : Nat) (z : List PV), dv base z sz bytes (.sl es c) ys (s.app bl tk lp) = some (.sl (es ++ ys) c', s.app bl tk' lp)) ∧ Own s tk' c' (es ++ ys).length sz ∧
  c'.sf true 0 = true ∧ (∀ {c2 n2 sz2}, Own s tk c2 n2 sz2 → ql c c2 → Own s tk' c2 n2 sz2 ∧ ql c' c2) := by
 rcases h with h | ⟨j, rfl, hj⟩
 · refine ⟨_, _, fun bl lp base z => uL s bl tk lp base z h h1 h2 h3 h4 h5, .inr ⟨tk.length, by simp, by simp⟩, rfl, ?_⟩
   intro c2 n2 sz2 ho _
   rcases ho with ho | ⟨i, rfl, hi⟩
   · exact ⟨.inl ho, .inl (by rcases ho with rfl | rfl <;> rfl)⟩
   · have : i < tk.length := (List.getElem?_eq_some_iff.1 hi).1
     refine ⟨.inr ⟨i, rfl, by rw [List.getElem?_append_left this]; exact hi⟩, .inr ?_⟩
     simp [uv]; omega
 · refine ⟨_, _, fun bl lp base z => xE s bl lp base z hj h1 h2 h3 h4 h5, .inr ⟨j, by simp, ?_⟩, rfl, ?_⟩
   · have : j < tk.length := (List.getElem?_eq_some_iff.1 hj).1
     simp [this]
   · intro c2 n2 sz2 ho hd
     rcases ho with ho | ⟨i, rfl, hi⟩
     · exact ⟨.inl ho, .inl (by rcases ho with rfl | rfl <;> rfl)⟩
     · have : j ≠ i := by
        rcases hd with hd | hd
        · cases hd
        · intro e; subst e; exact hd rfl
       refine ⟨.inr ⟨i, rfl, by rw [List.getElem?_set_ne this]; exact hi⟩, .inr ?_⟩
       simp [uv]; omega
theorem po {s : St} {tk : List (Nat × Nat)} {c : Cap} {sz bytes : Nat} {es ys : List (List PV)} (h : Own s tk c es.length sz)
 (h1 : (es.length + ys.length) * bytes ≤ dO) (h2 : dm sz es = true) (h3 : dm sz ys = true) (h4 : sz ≠ 0) (h5 : bytes ≠ 0) :
 ∃ c' tk', (∀ (bl : List Blk) (lp : List Aux) (base : Nat) (z : List PV), dv base z sz bytes (.sl es c) ys (s.app bl tk lp) = some (.sl (es ++ ys) c', s.app bl tk' lp)) ∧ Own s tk' c' (es ++ ys).length sz :=
 let ⟨c', tk', a, b, _⟩ := vI h h1 h2 h3 h4 h5
 ⟨c', tk', a, b⟩
theorem Own.sfc {s : St} {tk : List (Nat × Nat)} {c : Cap} {n sz : Nat} (h : Own s tk c n sz) (m : Nat) : c.sf true m = true := by
 rcases h with (rfl | rfl) | ⟨j, rfl, _⟩ <;> rfl
theorem fg (c : PV) : part false 1 0 [c] = some c := rfl
theorem laidB : ∀ (pre old post cs : List PV), old.length = cs.length → laid (pre ++ old ++ post) pre.length cs = pre ++ cs ++ post
 | pre, [], post, [], _ => rfl
 | pre, o :: old, post, c :: cs, h => by
  have : (pre ++ o :: old ++ post).set pre.length c = (pre ++ [c]) ++ old ++ post := by simp
  rw [laid, this, show pre.length + 1 = (pre ++ [c]).length by simp, laidB (pre ++ [c]) old post cs (by simpa using h)]; simp
theorem da (P : Program) (k : IntKind) (a b : Int) : yW P (.v (.int k a)) (.v (.int k b)) = some (.v (.int k (if b > a then b else a))) := gb P (.int k (if b > a then b else a)) rfl
theorem db (P : Program) (k : IntKind) (a b : Int) : yX P (.v (.int k a)) (.v (.int k b)) = some (.v (.int k (if b < a then b else a))) := gb P (.int k (if b < a then b else a)) rfl
def St.hpp (s : St) (hs : List Blk) : St := { s with hp := s.hp ++ hs }
theorem u5 (s : St) (hs : List Blk) : (s.hpp hs).stk.length = s.stk.length := rfl
theorem xT (s : St) (hs : List Blk) : (s.hpp hs).tk.length = s.tk.length := rfl
theorem xS (s : St) (hs : List Blk) : (s.hpp hs).lp.length = s.lp.length := rfl
def qP : PV → Bool
 | .v _ => true
 | .sl _ c => match c with | .own _ _ _ => false | _ => true
 | _ => false
theorem j8 {h : Bool} {b : Nat} : ∀ {cs : List PV} {st : St}, cs.all qP = true → nE h b cs st = some (cs, st)
 | [], st, _ => rfl
 | c :: cs, st, hc => by
  simp only [bq, an] at hc
  have h1 : sA h b c st = some (c, st) := by
   cases c with
   | sl es cp => cases cp <;> simp_all [sA, qP]
   | _ => simp_all [sA, qP]
  simp only [nE, h1, j8 hc.2, ag]
section
variable (s : St) (hs bl : List Blk) (tk : List (Nat × Nat)) (lp : List Aux)
theorem CC (base sz off j : Nat) {v : PV} {cs : List PV} (hv : AM.cellsOf v = some cs) (h : cs.all qP = true) : aq base sz (.ptr false (s.stk.length + j) off) v ((s.hpp hs).app bl tk lp) = (du bl j off sz v).map fun bl => (s.hpp hs).app bl tk lp := by
 have hb : ((s.hpp hs).app bl tk lp).blk false (s.stk.length + j) = (bl[j]?).map Blk.cs := rE (s.hpp hs) bl tk lp j
 have hs' : ∀ cs, ((s.hpp hs).app bl tk lp).af false (s.stk.length + j) cs = (s.hpp hs).app (bl.modify j fun x => ⟨cs, x.tk⟩) tk lp := jq (s.hpp hs) bl tk lp j
 simp only [aq, du, putCells, hb, hv, ag]
 cases hbj : bl[j]? with
 | none => cases aj cs.length sz && !aj sz 0 <;> rfl
 | some old =>
  simp only [aN, ag]
  cases aj cs.length sz && !aj sz 0 <;> cases dI (off + cs.length) old.cs.length && aG cs <;> cases fZ (s.stk.length + j) base <;> simp [j8 h, hs']
theorem sj (base sz off j : Nat) (es : List (List PV)) : aq base sz (.ptr false (s.stk.length + j) off) (.sl es .dead) ((s.hpp hs).app bl tk lp) = (du bl j off sz (.sl es .dead)).map fun bl => (s.hpp hs).app bl tk lp := CC s hs bl tk lp base sz off j rfl rfl
end
def valOf : PV → Option Value
 | .v x => some x
 | .ifc t x => some (.iface t x)
 | _ => none
def lE : List PV → Option (List Value)
 | [] => some []
 | p :: ps => (valOf p).bind fun x => (lE ps).bind fun xs => some (x :: xs)
def nF : PV → Bool
 | .v x => ji x
 | .ni => true
 | _ => false
def jB (h : List Value → Option PV) : List PV → St → Option (PV × St) := fun args st => (lE args).bind fun vs => (h vs).bind fun p => bif nF p then some (p, st) else none
inductive vC : Value → PV → Prop
 | v {x : Value} : vC x (.v x)
 | ni {t : TypeId} {x : Value} : vC (.iface t x) .ni
section
variable {w w' : World} {C : Ctx} {st : St} {bs : List (Nat × Nat × Nat)}
theorem tP (H : Sim w C st bs) (b : Below w.heap.size w w') : Ext w C w' C :=
 ⟨b.size, rfl, b.mono H.low.1, fun _ _ h => h, fun B o h => b.cell (p := ⟨B, o, none⟩) (H.Sok B o h), fun _ _ _ h => h, fun _ _ B f to e _ h => ⟨B, f, to, e, h, av _, fun _ => ⟨rfl, rfl, rfl⟩⟩, fun _ _ h => h,
  fun h c B hB arr elem fr hc => ⟨arr, elem, fr, (b.block B (Array.getElem?_eq_some_iff.1 hc).1).trans hc, rfl⟩, fun D h => (b.block D (Array.getElem?_eq_some_iff.1 h).1).trans h⟩
theorem xe (b : Below w.heap.size w w') {B o : Nat} (h : spare w C B o) : spare w' C B o := by
 obtain ⟨h1, h2, arr, elem, fr, h3, h4, h5⟩ := h; exact ⟨h1, h2, arr, elem, fr, (b.block B (Array.getElem?_eq_some_iff.1 h3).1).trans h3, h4, h5⟩
theorem Bi (H : Sim w C st bs) (b : Below w.heap.size w w') : Sim w' C st bs := by
 have x := tP H b; refine { H with blk := ?_, Sok := fun B o h => Nat.lt_of_lt_of_le (H.Sok B o h) b.size, tok := ?_, low := ⟨Nat.le_trans H.low.1 b.size, H.low.2⟩, lps := ?_ }
 · intro h c cs hc
   obtain ⟨B, arr, elem, fr, h1, h2, h3, h4, h5, h6, h7, h8⟩ := H.blk h c cs hc; exact ⟨B, arr, elem, fr, h1, (b.block B (Array.getElem?_eq_some_iff.1 h2).1).trans h2, h3, h4, h5, h6, fun o y p hy hp => (h7 o y p hy hp).mono x, fun m t l hm hh o y p hy hp => (h8 m t l hm hh o y p hy hp).mono (x.cut m t l)⟩
 · intro o t B f to e s h
   obtain ⟨h1, h2⟩ := H.tok o t B f to e s h; exact ⟨h1, fun i hi hj => xe b (h2 i hi hj)⟩
 · intro i r hr
   obtain ⟨B, h1, h2⟩ := H.lps i r hr; exact ⟨B, h1, h2.mono x fun ob ho _ => (b.block B (Array.getElem?_eq_some_iff.1 ho).1).trans ho⟩
end
theorem Bz {w : World} {C : Ctx} {p : PV} {x y : Value} (h : valOf p = some y) (hp : Rep w C x p) : x = y := by
 cases p with
 | v z => cases hp; exact Option.some.inj h
 | ifc t z => cases hp; exact Option.some.inj h
 | _ => cases h
theorem tg {w : World} {C : Ctx} : ∀ {ps : List PV} {vs : List Value} {xs : List Value}, lE ps = some vs → xs.length = ps.length → (∀ (i : Nat) (x : Value) (p : PV), xs[i]? = some x → ps[i]? = some p → Rep w C x p) → xs = vs
 | [], vs, xs, h, hl, _ => by
  simp only [lE, Option.some.injEq] at h; subst h; exact List.length_eq_zero_iff.1 hl
 | p :: ps, vs, [], h, hl, _ => by simp at hl
 | p :: ps, vs, x :: xs, h, hl, hr => by
  simp only [lE] at h; obtain ⟨y, h0, h⟩ := Option.bind_eq_some_iff.1 h; obtain ⟨ys, h1, h2⟩ := Option.bind_eq_some_iff.1 h; obtain rfl := Option.some.inj h2; rw [Bz h0 (hr 0 x p rfl rfl), tg h1 (by simpa using hl) fun i x p hx hp => hr (i + 1) x p hx hp]
def GV.at (gv : GV) (w : World) : Prop := (∀ g o v, gv.cell g o = some v → w.cell? ⟨g, o, none⟩ = some v) ∧ Below gv.w0.heap.size gv.w0 w
theorem lS {gv : GV} {pn : List FuncId} {P : Program} {f : FuncId} {h : List Value → Option PV} (hfn : ∃ fn, P.funcs[f]? = some fn ∧ (fn.name == "runtime.NumGoroutine") = false ∧ fn.body.isNone = false)
 (ct : ∀ (w : World) vs p, gv.at w → h vs = some p → Calls P f vs.toArray w fun e w' => (∃ v, e = .returned v ∧ vC v p) ∧ Below w.heap.size w w') :
 Good gv pn P fun f' args st => match f' with
  | .func k => if k = f then jB h args st else none
  | _ => none := by
 intro g args st r hr
 cases g with
 | func k =>
  simp only at hr
  by_cases hk : k = f
  · subst hk
    rw [if_pos rfl] at hr; obtain ⟨vs, h1, hr⟩ := Option.bind_eq_some_iff.1 hr; obtain ⟨p, h2, hr⟩ := Option.bind_eq_some_iff.1 hr
    cases hf : nF p with
    | false => rw [hf] at hr; simp at hr
    | true =>
     rw [hf, cond_true, Option.some.injEq] at hr; subst hr; refine ⟨fun _ => by cases p <;> first | rfl | (simp [nF] at hf), hfn, fun w C bs xs hg H hs hrep => ?_⟩
     have e : xs = vs.toArray := by
      have : xs.toList = vs := tg h1 (by simpa using hs) fun i x p hx hp => hrep i x p (by simpa using hx) hp
      rw [← this]
     subst e; refine (ct w vs p ⟨fun g o v hv => (hg.1 g o v hv).2, hg.2.2⟩ h2).mono ?_
     rintro e w' ⟨⟨v, rfl, hv⟩, b⟩
     refine ⟨C, Bi H b, tP H b, Ends.of ?_⟩
     cases hv with
     | v => exact .v hf
     | ni => exact .ni
  · rw [if_neg hk] at hr; cases hr
 | yield i => cases hr
 | _ => cases hr
theorem lens3 (s : St) : ∃ N T Lb, s.stk.length = N ∧ s.tk.length = T ∧ s.lp.length = Lb := ⟨_, _, _, rfl, rfl, rfl⟩
def bs (l : List UInt8) : ByteArray := ⟨l.toArray⟩
abbrev str (l : List UInt8) : PV := .v (.string (bs l))
theorem fw (a : Array UInt8) : ByteArray.mk a = bs a.toList := rfl
theorem AA (s : ByteArray) : bs s.data.toList = s := rfl
theorem lY (l : List UInt8) : (bs l).data.toList = l := rfl
theorem eo {a b : List UInt8} : bs a = bs b ↔ a = b := by
 constructor
 · intro h
   have : (bs a).data.toList = (bs b).data.toList := by rw [h]
   exact this
 · rintro rfl; rfl
theorem cq (l : List UInt8) : (bs l).size = l.length := by show l.toArray.size = _; simp
theorem GX {l : List UInt8} {i : Nat} (h : i < l.length) : (bs l)[i]? = some l[i] := by
 have hs : i < (bs l).size := by rw [cq]; exact h
 exact (getElem?_pos (bs l) i hs).trans rfl
theorem nV (a b : List UInt8) : bs a ++ bs b = bs (a ++ b) := by
 apply ByteArray.ext
 show (bs a ++ bs b).data = (a ++ b).toArray
 rw [ByteArray.data_append]; simp [bs]
theorem gS (l : List UInt8) (lo hi : Nat) : (bs l).extract lo hi = bs ((l.take hi).drop lo) := by
 apply ByteArray.ext; rw [ByteArray.data_extract]
 show l.toArray.extract lo hi = ((l.take hi).drop lo).toArray
 rw [List.drop_take, List.extract_toArray]
theorem jC {α β : Type} (P : Program) (f : α → Sem β) (s : Sem α) : fo P (s >>= f) = (fo P s).bind fun a => fo P (f a) := by
 induction s with
 | pure a => rfl
 | program k ih => exact ih P
 | _ => rfl
theorem mE {P : Program} {t : TypeId} {d : TypeDesc} (h : P.underlying t = some d) : fo P (underlying t) = some d := by
 show fo P (match P.underlying t with | some d => pure d | none => stuck "no such type") = _
 rw [h]; rfl
theorem jD {α : Type} (P : Program) (a : α) : fo P (pure a : Sem α) = some a := rfl
section
variable {P : Program} {t : TypeId}
theorem EW (ht : P.underlying t = some .string) {l : List UInt8} {i : Nat} (k : IntKind) (h : i < l.length) : cG P t (str l) (.v (.int k (i : Int))) = some (.v (.int .u8 (l[i].toNat : Int))) := by
 have : fo P (Instr.index t (.string (bs l)) (.int k (i : Int))) = some (.int .u8 (l[i].toNat : Int)) := by
  simp only [Instr.index, asIntOf, jC, jD, mE ht, ag]
  have e : (0 : Int) ≤ (i : Int) := by omega
  simp only [e, if_true, Int.toNat_natCast, GX h]
  rfl
 simp [cG, this, fF, ji]
theorem hG {k : IntKind} {i n : Nat} {c : BoundsCode} (h : i ≤ n) : fo P (Instr.sliceBound (.int k (i : Int)) n c) = some i := by
 have e : (0 : Int) ≤ (i : Int) ∧ (i : Int) ≤ (n : Int) := by omega
 simp only [Instr.sliceBound, asIntOf, jC, jD, ag, e, and_self, if_true, Int.toNat_natCast]
theorem FB (ht : P.underlying t = some .string) {l : List UInt8} {lo hi : Nat} (k k' : IntKind) (h : lo ≤ hi) (h' : hi ≤ l.length) :
 fm P t (str l) (some (.v (.int k (lo : Int)))) (some (.v (.int k' (hi : Int)))) none = some (str ((l.take hi).drop lo)) := by
 have : fo P (Instr.slice t (.string (bs l)) (some (.int k (lo : Int))) (some (.int k' (hi : Int))) none) = some (.string (bs ((l.take hi).drop lo))) := by
  simp only [Instr.slice, Instr.sliceBounds, jC, jD, mE ht, ag, Option.isSome_none, ae, if_false, cq]
  first
   | simp only [hG h', hG h, ag, gS, List.take_length, aO]
   | simp only [hG h', ag, gS, List.take_length, aO]
   | simp only [hG h, ag, gS, List.take_length, aO]
 simp [fm, yc, ht, this, fF, ji]
theorem Dq (ht : P.underlying t = some .string) {l : List UInt8} {lo : Nat} (k : IntKind) (h : lo ≤ l.length) :
 fm P t (str l) (some (.v (.int k (lo : Int)))) none none = some (str (l.drop lo)) := by
 have : fo P (Instr.slice t (.string (bs l)) (some (.int k (lo : Int))) none none) = some (.string (bs (l.drop lo))) := by
  simp only [Instr.slice, Instr.sliceBounds, jC, jD, mE ht, ag, Option.isSome_none, ae, if_false, cq]
  first
   | simp only [hG h', hG h, ag, gS, List.take_length, aO]
   | simp only [hG h', ag, gS, List.take_length, aO]
   | simp only [hG h, ag, gS, List.take_length, aO]
 simp [fm, yc, ht, this, fF, ji]
theorem Dn (ht : P.underlying t = some .string) {l : List UInt8} {hi : Nat} (k' : IntKind) (h' : hi ≤ l.length) :
 fm P t (str l) none (some (.v (.int k' (hi : Int)))) none = some (str (l.take hi)) := by
 have : fo P (Instr.slice t (.string (bs l)) none (some (.int k' (hi : Int))) none) = some (.string (bs (l.take hi))) := by
  simp only [Instr.slice, Instr.sliceBounds, jC, jD, mE ht, ag, Option.isSome_none, ae, if_false, cq]
  first
   | simp only [hG h', hG h, ag, gS, List.take_length, aO]
   | simp only [hG h', ag, gS, List.take_length, aO]
   | simp only [hG h, ag, gS, List.take_length, aO]
 simp [fm, yc, ht, this, fF, ji]
end
theorem uS {l : List UInt8} {i : Nat} (h : i < l.length) : (bs l).get! i = l[i] := by
 show (l.toArray)[i]! = l[i]
 rw [getElem!_pos _ _ (by simpa using h)]; simp
theorem decode_ascii {l : List UInt8} {i : Nat} (h : i < l.length) (hb : l[i].toNat < 128) : Utf8.decode (bs l) i = (l[i].toNat, 1) := by
 unfold Utf8.decode; simp only [bu, uS h]; rw [if_pos hb]
theorem kg {l : List UInt8} {j : Nat} (h : (decide (j < (bs l).size) && (((bs l).get! j).toNat / 64 == 2)) = true) : ∃ hj : j < l.length, 128 ≤ l[j].toNat := by
 simp only [an, decide_eq_true_eq, beq_iff_eq, cq] at h; obtain ⟨hj, h2⟩ := h; rw [uS hj] at h2; exact ⟨hj, by omega⟩
theorem decode_high {l : List UInt8} {i : Nat} (h : i < l.length) (hb : 128 ≤ l[i].toNat) :
 128 ≤ (Utf8.decode (bs l) i).1 ∧ (Utf8.decode (bs l) i).1 < 2097152 ∧ 1 ≤ (Utf8.decode (bs l) i).2 ∧ i + (Utf8.decode (bs l) i).2 ≤ l.length ∧ ∀ j (hj : j < l.length), i ≤ j → j < i + (Utf8.decode (bs l) i).2 → 128 ≤ l[j].toNat := by
 have one : ∀ {q : Nat × Nat}, q = (Utf8.runeError, 1) → 128 ≤ q.1 ∧ q.1 < 2097152 ∧ 1 ≤ q.2 ∧ i + q.2 ≤ l.length ∧ ∀ j (hj : j < l.length), i ≤ j → j < i + q.2 → 128 ≤ l[j].toNat := by
  rintro q rfl
  refine ⟨by decide, by decide, by decide, h, fun j hj h1 h2 => ?_⟩
  obtain rfl : j = i := by simp only at h2; omega
  exact hb
 generalize hq : Utf8.decode (bs l) i = q; unfold Utf8.decode at hq; simp only [bu, uS h] at hq; rw [if_neg (by omega)] at hq; have lt : l[i].toNat < 256 := l[i].toNat_lt; split at hq
 · rename_i h1
   simp only [an, beq_iff_eq] at h1; obtain ⟨j1, g1⟩ := kg (by simpa only [an, beq_iff_eq] using h1.2); split at hq
   · subst hq
     have : ((bs l).get! (i + 1)).toNat < 256 := UInt8.toNat_lt _; refine ⟨by simp only; omega, by simp only; omega, by simp only; omega, by simp only; omega, fun j hj a b => ?_⟩
     have : j = i ∨ j = i + 1 := by simp only at b; omega
     rcases this with rfl | rfl
     · exact hb
     · exact g1
   · exact one hq.symm
 · split at hq
   · rename_i h1
     simp only [an, beq_iff_eq] at h1; obtain ⟨j1, g1⟩ := kg (by simpa only [an, beq_iff_eq] using h1.1.2); obtain ⟨j2, g2⟩ := kg (by simpa only [an, beq_iff_eq] using h1.2); split at hq
     · rename_i h2
       simp only [an, decide_eq_true_eq, ge_iff_le] at h2; subst hq; refine ⟨by simp only; omega, by simp only; omega, by simp only; omega, by simp only; omega, fun j hj a b => ?_⟩
       have : j = i ∨ j = i + 1 ∨ j = i + 2 := by simp only at b; omega
       rcases this with rfl | rfl | rfl
       · exact hb
       · exact g1
       · exact g2
     · exact one hq.symm
   · split at hq
     · rename_i h1
       simp only [an, beq_iff_eq] at h1; obtain ⟨j1, g1⟩ := kg (by simpa only [an, beq_iff_eq] using h1.1.1.2); obtain ⟨j2, g2⟩ := kg (by simpa only [an, beq_iff_eq] using h1.1.2); obtain ⟨j3, g3⟩ := kg (by simpa only [an, beq_iff_eq] using h1.2); split at hq
       · rename_i h2
         simp only [an, decide_eq_true_eq, ge_iff_le] at h2; subst hq; refine ⟨by simp only; omega, by simp only; omega, by simp only; omega, by simp only; omega, fun j hj a b => ?_⟩
         have : j = i ∨ j = i + 1 ∨ j = i + 2 ∨ j = i + 3 := by simp only at b; omega
         rcases this with rfl | rfl | rfl | rfl
         · exact hb
         · exact g1
         · exact g2
         · exact g3
       · exact one hq.symm
     · exact one hq.symm
section
variable {s : St} {N T Lb : Nat}
theorem cI (s : St) (h : Bool) (b : Nat) (cs : List PV) : (s.af h b cs).stk.length = s.stk.length := by cases h <;> simp [St.af, St.upB]
theorem eu (s : St) (h : Bool) (b : Nat) (cs : List PV) : (s.af h b cs).tk.length = s.tk.length := by cases h <;> rfl
theorem ep (s : St) (h : Bool) (b : Nat) (cs : List PV) : (s.af h b cs).lp.length = s.lp.length := by cases h <;> rfl
theorem set_set (s : St) (h : Bool) (b : Nat) (c d : List PV) : (s.af h b c).af h b d = s.af h b d := by
 have e : ∀ l : List Blk, (l.modify b fun x => ⟨c, x.tk⟩).modify b (fun x => ⟨d, x.tk⟩) = l.modify b fun x => ⟨d, x.tk⟩ := fun l => by
  apply List.ext_getElem?; intro i; simp only [List.getElem?_modify]
  by_cases hi : b = i <;> simp [hi, Option.map_map, Function.comp_def]
 cases h <;> simp only [St.af, St.upB, e]
theorem Dj {h : Bool} {b : Nat} {cs : List PV} (hb : s.blk h b = some cs) : s.af h b cs = s := by
 have e : ∀ l : List Blk, (l[b]?).map Blk.cs = some cs → (l.modify b fun x => ⟨cs, x.tk⟩) = l := fun l hl => by
  apply List.ext_getElem?; intro i; rw [List.getElem?_modify]
  by_cases hi : b = i
  · subst hi
    obtain ⟨x, hx, rfl⟩ := Option.map_eq_some_iff.1 hl; simp [hx]
  · simp [hi]
 cases h
 · simp only [St.af, St.upB]; rw [e s.stk hb]
 · simp only [St.af, St.upB]; rw [e s.hp hb]
theorem EF {b : Nat} {cs : List PV} (hb : s.blk false b = some cs) : b < s.stk.length := by
 obtain ⟨x, hx, _⟩ := Option.map_eq_some_iff.1 (show (s.stk[b]?).map Blk.cs = some cs from hb); exact (List.getElem?_eq_some_iff.1 hx).1
theorem vw {b : Nat} (cs : List PV) (hb : b < s.stk.length) : (s.af false b cs).blk false b = some cs := by
 show ((s.stk.modify b fun x => ⟨cs, x.tk⟩)[b]?).map Blk.cs = some cs
 rw [List.getElem?_modify_eq, cO hb]
 rfl
variable (bl : List Blk) (tk : List (Nat × Nat)) (lp : List Aux)
theorem fA (hN : s.stk.length = N) (j : Nat) : (s.app bl tk lp).blk false (N + j) = (bl[j]?).map Blk.cs := by subst hN; exact rE s bl tk lp j
theorem fB (hN : s.stk.length = N) (j : Nat) (cs : List PV) : (s.app bl tk lp).af false (N + j) cs = s.app (bl.modify j fun x => ⟨cs, x.tk⟩) tk lp := by subst hN; exact jq s bl tk lp j cs
theorem bK {b : Nat} (hb : b < s.stk.length) (cs : List PV) : (s.app bl tk lp).af false b cs = (s.af false b cs).app bl tk lp := by
 simp only [St.af, St.upB, St.app]
 congr 1
 apply List.ext_getElem?; intro i; simp only [List.getElem?_modify, fO, List.length_modify]
 by_cases h : i < s.stk.length
 · simp [h]
 · have : b ≠ i := by omega
   simp [h, this]
theorem eD (hN : s.stk.length = N) (agg : Bool) (sz off j : Nat) : ak agg sz (.ptr false (N + j) off) (s.app bl tk lp) = ((bl[j]?).map Blk.cs).bind (part agg sz off) := by subst hN; exact nC agg sz off j s bl tk lp
theorem dA (hN : s.stk.length = N) (agg : Bool) (sz off : Nat) : ak agg sz (.ptr false N off) (s.app bl tk lp) = ((bl[0]?).map Blk.cs).bind (part agg sz off) := by subst hN; exact n7 agg sz off s bl tk lp
theorem fE {b : Nat} {cs : List PV} (hb : b < s.stk.length) (agg : Bool) (sz off : Nat) : ak agg sz (.ptr false b off) ((s.af false b cs).app bl tk lp) = part agg sz off cs := by
 have := vw cs hb; rw [CN (by rw [cI]; exact hb)]; simp only [ak, this, ag]
theorem dB (hN : s.stk.length = N) (sz off j : Nat) (v : PV) : aq N sz (.ptr false (N + j) off) v (s.app bl tk lp) = (du bl j off sz v).map fun bl => s.app bl tk lp := by subst hN; exact lX sz off j v s bl tk lp
theorem cF (hN : s.stk.length = N) (sz off : Nat) (v : PV) : aq N sz (.ptr false N off) v (s.app bl tk lp) = (du bl 0 off sz v).map fun bl => s.app bl tk lp := by subst hN; exact mL sz off v s bl tk lp
theorem bG {b off base : Nat} {cs : List PV} (hb : b < s.stk.length) (ho : off < cs.length) (v : Value) : aq base 1 (.ptr false b off) (.v v) ((s.af false b cs).app bl tk lp) = some ((s.af false b (cs.set off (.v v))).app bl tk lp) := by
 have h1 : ((s.af false b cs).app bl tk lp).blk false b = some cs := by rw [ng (by rw [cI]; exact hb), vw cs hb]
 have h2 : ∀ ds, ((s.af false b cs).app bl tk lp).af false b ds = (s.af false b ds).app bl tk lp := fun ds => by rw [bK _ _ _ (by rw [cI]; exact hb), set_set]
 have h3 : dI (off + [PV.v v].length) cs.length = true := by rw [Nat.ble_eq]; exact ho
 have h4 : aG [PV.v v] = true := rfl; simp only [aq, AM.cellsOf, ag, putCells, h1, h3, h4, bn, cond_true]; have h5 : (aj [PV.v v].length 1 && !aj 1 0) = true := rfl; rw [h5, cond_true]
 cases fZ b base <;> simp [nE, sA, h2, laid]
theorem dz (hN : s.stk.length = N) (hL : s.lp.length = Lb) (n : Nat) (x : Ex) (vs : List PV) : eN N Lb (N + n) x vs (s.app bl tk lp) =
 bif lp.all cN && vs.all (sf true (N + n) 4) && (bl.take n).all (fun b => b.cs.all (sf true (N + n) 4)) then some (x, vs, s.app (bl.take n) tk lp) else none := by subst hN; subst hL; exact lM s n bl tk lp x vs
theorem cE (hN : s.stk.length = N) (hL : s.lp.length = Lb) (x : Ex) (vs : List PV) : eN N Lb N x vs (s.app bl tk lp) =
 bif lp.all cN && vs.all (sf true N 4) then some (x, vs, s.app [] tk lp) else none := by subst hN; subst hL; exact my s bl tk lp x vs
theorem dy (hN : s.stk.length = N) (hT : s.tk.length = T) (hL : s.lp.length = Lb) (x : Value) : fin N T Lb [.v x] (s.app bl tk lp) = some (.v x, s) := by subst hN; subst hT; subst hL; rw [zo, al]
theorem dx (hN : s.stk.length = N) (hT : s.tk.length = T) (hL : s.lp.length = Lb) : fin N T Lb [] (s.app bl tk lp) = some (.tup [], s) := by subst hN; subst hT; subst hL; rw [nZ]; rfl
theorem cD (hN : s.stk.length = N) (hT : s.tk.length = T) (hL : s.lp.length = Lb) (es : List (List PV)) (c : Cap) : fin N T Lb [.sl es c] (s.app bl tk lp) = some (.sl es .dead, s) := by subst hN; subst hT; subst hL; rw [u0, al]
theorem cf (hN : s.stk.length = N) (hT : s.tk.length = T) (hL : s.lp.length = Lb) {cs : List PV} (h : cs.all dL = true) : fin N T Lb [.agg cs] (s.app bl tk lp) = some (.agg (cs.map bU), s) := by subst hN; subst hT; subst hL; rw [EP s bl tk lp h, al]
def cn : PV → Bool
 | .agg cs => cs.all eS
 | p => eS p
where eS : PV → Bool
 | .v _ | .sl _ _ | .ni | .ifc _ _ => true
 | _ => false
theorem Cy {own : Bool} {m n : Nat} {p : PV} (h : cn.eS p = true) : sf own m (n + 1) (bU p) = true := by
 cases p <;> simp_all [cn.eS, bU, sf, Cap.sf]
theorem ov {m : Nat} {s : St} : ∀ {cs : List PV}, cs.all cn.eS = true → kY m s cs = some (cs.map bU)
 | [], _ => rfl
 | c :: cs, h => by
  simp only [bq, an] at h
  have h1 : lz m s c = some (bU c) := by
   cases c <;> simp_all [cn.eS, lz]
  simp only [kY, h1, ov h.2, ag, aZ]
theorem uT {m : Nat} {s : St} {p : PV} (h : cn p = true) : j0 m s p = some (dt p) := by
 cases p with
 | agg cs => simp only [j0, ov h, ag]; rfl
 | _ => simp_all [cn, cn.eS, j0, lz, dt]
theorem nq {m : Nat} {s : St} : ∀ {cs : List PV}, cs.all cn = true → lG m s cs = some (cs.map dt)
 | [], _ => rfl
 | c :: cs, h => by
  simp only [bq, an] at h; simp only [lG, uT h.1, nq h.2, ag, aZ]
theorem Cw {own : Bool} {m n : Nat} {p : PV} (h : cn p = true) : sf own m (n + 2) (dt p) = true := by
 cases p with
 | agg cs =>
  show (cs.map bU).all (sf own m (n + 1)) = true
  rw [dH]; intro p hp; obtain ⟨q, hq, rfl⟩ := List.mem_map.1 hp; exact Cy (dH.1 h q hq)
 | _ => first | rfl | (simp_all [cn, cn.eS])
theorem cg (hN : s.stk.length = N) (hT : s.tk.length = T) (hL : s.lp.length = Lb) {a b : PV} {cs : List PV} (h : (a :: b :: cs).all cn = true) : fin N T Lb (a :: b :: cs) (s.app bl tk lp) = some (.tup ((a :: b :: cs).map dt), s) := by
 subst hN; subst hT; subst hL
 rw [nZ]
 have : j5 s.stk.length (s.app bl tk lp) (lj (a :: b :: cs)) = some (.tup ((a :: b :: cs).map dt)) := by
  simp only [lj, j5, nq h, ag]
 rw [this, ag]
 have h2 : sf false s.stk.length 4 (.tup ((a :: b :: cs).map dt)) = true := by
  show ((a :: b :: cs).map dt).all (sf false s.stk.length 3) = true
  rw [dH]; intro p hp; obtain ⟨q, hq, rfl⟩ := List.mem_map.1 hp; exact Cw (dH.1 h q hq)
 rw [h2]; rfl
theorem eC (hN : s.stk.length = N) (hT : s.tk.length = T) (hL : s.lp.length = Lb) : (s.app bl tk lp).back N T Lb = s := by subst hN; subst hT; subst hL; exact vH s bl tk lp
theorem zN {P : Program} {t : TypeId} (ht : P.underlying t = some .string) (l : ByteArray) (hL : s.lp.length = Lb) : nc P t (.v (.string l)) (s.app bl tk lp) = some (.it (Lb + lp.length), s.app bl tk (lp ++ [.iter l 0])) := by
 subst hL
 show (match P.underlying t, PV.v (.string l) with | some .string, .v (.string s') => some (PV.it (s.app bl tk lp).lp.length, { (s.app bl tk lp) with lp := (s.app bl tk lp).lp ++ [Aux.iter s' 0] }) | _, _ => none) = _
 rw [ht]; simp [St.app, List.append_assoc]
theorem eE (l : ByteArray) (pos : Nat) (hL : s.lp.length = Lb) : rQ (.it Lb) (s.app bl tk [.iter l pos]) =
 if pos < l.size then some (.tup [.v (.bool true), .v (.int .i64 pos), .v (.int .i32 (Utf8.decode l pos).1)], s.app bl tk [.iter l (pos + (Utf8.decode l pos).2)]) else some (.tup [.v (.bool false)], s.app bl tk [.iter l pos]) := by
 subst hL
 have h1 : (s.app bl tk [.iter l pos]).lp[s.lp.length]? = some (.iter l pos) := by simp [St.app]
 have h2 : (s.app bl tk [.iter l pos]).ll s.lp.length (.iter l (pos + (Utf8.decode l pos).2)) = s.app bl tk [.iter l (pos + (Utf8.decode l pos).2)] := by simp [St.ll, St.app]
 simp only [rQ, h1, gE, h2]
 by_cases h : pos < l.size <;> simp [h]
end
def me (P : Program) (o : Oper) : Prop := (∀ c, o.op ≠ .defer c) ∧ ∀ (a : Act) (w : World) (d : Deferred) (w' : World), (execOp a.eval o).run P w ≠ .ok (.defer d) w'
theorem put_defers (a : Act) (ds : List Deferred) (dst : Option Tmp) (v : Value) : ({ a with defers := ds } : Act).put dst v = { a.put dst v with defers := ds } := by cases dst <;> rfl
theorem xt {rd : Option Nat} {P : Program} {o : Oper} (hn : me P o) {a : Act} {ds : List Deferred} {w : World} {next : Act → World → Prop} {Q : Exit → Act → World → Prop}
 (h : o.wpIn (fen rd) 0 P a w (fun a' w' => next { a' with defers := ds } w') (fun e a' w' => Q e { a' with defers := ds } w')) : o.wpIn (fen rd) 0 P { a with defers := ds } w next Q := by
 refine ⟨fun _ _ => trivial, ?_⟩; have h := h.2; rw [Oper.semAt_eq _ _ _ hn.1] at h ⊢; have he : ({ a with defers := ds } : Act).eval = a.eval := rfl; rw [he]; have hnd := hn.2 a w; revert h hnd; generalize (execOp a.eval o).run P w = r; intro h hnd
 have lo : LetsOut (fun e a' w' => Q e { a' with defers := ds } w') → LetsOut Q := fun ⟨a, w, q⟩ => ⟨_, w, q⟩
 cases r with
 | ok x w' =>
  cases x with
  | value v => rw [Oper.uponIn_value] at h ⊢; rw [put_defers]; exact h
  | skip => rw [Oper.uponIn_skip] at h ⊢; rw [put_defers]; exact h
  | «defer» d => exact absurd rfl (hnd d w')
  | enter f args =>
   rw [Oper.uponIn_enter] at h ⊢; refine ⟨h.1, h.2.mono fun e w'' q => ?_⟩
   cases e with
   | returned v => simp only at q ⊢; rw [put_defers]; exact q
   | panicked ch => exact q
   | outgrown => exact lo q
  | row row args =>
   rw [Oper.uponIn_row] at h ⊢; simp only [put_defers]; exact h
  | round l f tmps asg body =>
   rw [Oper.uponIn_round] at h ⊢; refine ⟨h.1, h.2.mono fun e w'' q => ?_⟩
   cases e with
   | returned v => simp only at q ⊢; rw [put_defers]; exact q
   | panicked ch => exact q
   | outgrown => exact lo q
  | _ => exact h
 | halt hlt w' =>
  cases hlt <;> first | exact h | (rw [Oper.uponIn_panic] at h ⊢; exact h)
section
variable {gv : GV} {Cf : Cfg} {rd : Option Nat} {lo : Nat} {bs : List (Nat × Nat × Nat)} {Q : Exit → Act → World → Prop}
theorem C8 {n : Nat} {e : Env} {dst : Option Nat} {p : PV} {t : Nat} (h : dst ≠ some t) : put n e dst p t = e t := by
 cases dst with
 | none => rfl
 | some d =>
  have : aj t d = false := by
   rw [Bool.eq_false_iff]; intro q; exact h (by rw [ax q])
  unfold put; simp only
  cases fZ d n with
  | false => rfl
  | true => simp only [cond_true, upd, this, cond_false]
theorem lA {R : Type} (G : Good gv Cf.pn Cf.P Cf.call) (hbase : ∀ m t l, (m, t, l) ∈ bs → m ≤ Cf.base) {ops : Array Oper} {ds : List Deferred} {live : List Nat} {K : Env → St → Option R} {N : TypeId → Value → St → Option R} {r : R} :
 ∀ (os : List Oper) (i : Nat) (e : Env) (a : Act) (w : World) (C : Ctx) (st : St), ops.toList.drop i = os → (∀ o ∈ os, me Cf.P o ∧ ∀ t ∈ live, o.dst ≠ some t) → Sim w C st bs → eK gv Cf.gl lo w C e Cf.n a → kJ Cf ops os e st K N = some r →
  (∀ e' st' a' w' C', K e' st' = some r → Sim w' C' st' bs → Ext w C w' C' → eK gv Cf.gl lo w' C' e' Cf.n a' → (∀ t ∈ live, e' t = e t) → Q .normal { a' with defers := ds } w') →
  (∀ t x st' e' a' w' C', N t x st' = some r → Sim w' C' st' bs → Ext w C w' C' → eK gv Cf.gl lo w' C' e' Cf.n a' → (∀ t ∈ live, e' t = e t) → Q (.panic [{ v := .iface t x, recovered := false }]) { a' with defers := ds } w') →
  wpOpsIn (fen rd) 0 Cf.P ops Q (List.range' i os.length) { a with defers := ds } w
 | [], i, e, a, w, C, st, hd, _, H, hE, h, hK, hN => hK e st a w C h H (Ext.refl w C) hE fun _ _ => rfl
 | o :: os, i, e, a, w, C, st, hd, hno, H, hE, h, hK, hN => by
  have hoi : ops[i]? = some o := by
   have : (ops.toList.drop i)[0]? = some o := by rw [hd]; rfl
   rw [ik] at this; simpa using this
  have hdr : ops.toList.drop (i + 1) = os := by
   rw [show i + 1 = i + 1 from rfl, ← List.drop_drop, hd]; rfl
  obtain ⟨hnd, hlv⟩ := hno o (bI ..); simp only [kJ] at h; rw [ai, List.range'_succ]; simp only [wpOpsIn, hoi]
  have hg := jv (rd := rd) (Q := fun e a' w' => Q e { a' with defers := ds } w') (next := fun a' w' => wpOpsIn (fen rd) 0 Cf.P ops Q (List.range' (i + 1) os.length) { a' with defers := ds } w') G hbase H hE h (fun p st' v w' C' hk k1 k2 k3 =>
   lA G hbase (live := live) os (i + 1) _ _ w' C' st' hdr (fun o' h' => hno o' (bS _ h')) k1 ((hE.mono k2).put o.dst k3) hk
    (fun e' st'' a' w'' C'' q1 q2 q3 q4 q5 => hK e' st'' a' w'' C'' q1 q2 (k2.trans q3) q4 fun t ht => (q5 t ht).trans (C8 (hlv t ht)))
    fun t x st'' e' a' w'' C'' q1 q2 q3 q4 q5 => hN t x st'' e' a' w'' C'' q1 q2 (k2.trans q3) q4 fun t ht => (q5 t ht).trans (C8 (hlv t ht)))
   fun t x st' w' C' q1 q2 q3 => hN t x st' e a w' C' q1 q2 q3 (hE.mono q3) fun _ _ => rfl
  split at hg
  · rename_i hw; rw [if_pos hw]; exact xt hnd hg
  · rename_i hw; rw [if_neg hw, put_defers]; exact ⟨fun _ _ => trivial, hg⟩
def wZ (z : Code) : List (Nat × Array Oper) → Code
 | [] => z
 | x :: l => .seq (.region x.1 x.2 false) (wZ z l)
def lB {R : Type} (Cf : Cfg) : List (Nat × Array Oper) → Env → St → (Env → St → Option R) → (TypeId → Value → St → Option R) → Option R
 | [], e, st, K, _ => K e st
 | x :: l, e, st, K, N => kJ Cf x.2 x.2.toList e st (fun e st => lB Cf l e st K N) N
theorem pH {R : Type} (G : Good gv Cf.pn Cf.P Cf.call) (hbase : ∀ m t l, (m, t, l) ∈ bs → m ≤ Cf.base) {ds : List Deferred} {live : List Nat} {K : Env → St → Option R} {N : TypeId → Value → St → Option R} {r : R} :
 ∀ (l : List (Nat × Array Oper)) (e : Env) (a : Act) (w : World) (C : Ctx) (st : St), (∀ x ∈ l, ∀ o ∈ x.2.toList, me Cf.P o ∧ ∀ t ∈ live, o.dst ≠ some t) → Sim w C st bs → eK gv Cf.gl lo w C e Cf.n a → lB Cf l e st K N = some r →
  (∀ e' st' a' w' C', K e' st' = some r → Sim w' C' st' bs → Ext w C w' C' → eK gv Cf.gl lo w' C' e' Cf.n a' → (∀ t ∈ live, e' t = e t) → Q .ret { a' with defers := ds } w') →
  (∀ t x st' e' a' w' C', N t x st' = some r → Sim w' C' st' bs → Ext w C w' C' → eK gv Cf.gl lo w' C' e' Cf.n a' → (∀ t ∈ live, e' t = e t) → Q (.panic [{ v := .iface t x, recovered := false }]) { a' with defers := ds } w') →
  (wZ .ret l).wpIn (fen rd) 0 Cf.P Q { a with defers := ds } w
 | [], e, a, w, C, st, _, H, hE, h, hK, hN => wpIn_ret (hK e st a w C h H (Ext.refl w C) hE fun _ _ => rfl)
 | x :: l, e, a, w, C, st, hno, H, hE, h, hK, hN => by
  simp only [lB] at h; refine wpIn_seq (wpIn_region ?_)
  have := lA (rd := rd) (Q := Exit.then ((wZ .ret l).wpIn (fen rd) 0 Cf.P Q) Q) (ds := ds) G hbase (live := live) x.2.toList 0 e a w C st rfl (hno x (bI ..)) H hE h
   (fun e' st' a' w' C' q1 q2 q3 q4 q5 => pH G hbase l e' a' w' C' st' (fun y hy => hno y (bS _ hy)) q2 q4 q1
    (fun e2 s2 a2 w2 C2 k1 k2 k3 k4 k5 => hK e2 s2 a2 w2 C2 k1 k2 (q3.trans k3) k4 fun t ht => (k5 t ht).trans (q5 t ht))
    fun t x s2 e2 a2 w2 C2 k1 k2 k3 k4 k5 => hN t x s2 e2 a2 w2 C2 k1 k2 (q3.trans k3) k4 fun t ht => (k5 t ht).trans (q5 t ht))
   (fun t x st' e' a' w' C' q1 q2 q3 q4 q5 => hN t x st' e' a' w' C' q1 q2 q3 q4 q5)
  rw [List.range_eq_range']; simpa using this
end
def Fz (z : Code) : List (Code × Ann) → Code
 | [] => z
 | x :: l => .seq x.1 (Fz z l)
noncomputable def pI {R : Type} (Cf : Cfg) : List (Code × Ann) → Env → St → (Env → St → Option R) → (Env → St → Option R) → Option R
 | [], e, st, F, K => K e st
 | x :: l, e, st, F, K => dV Cf x.1 x.2 e st fun ex e st => match ex with
  | .normal => pI Cf l e st F K
  | .ret => F e st
  | _ => none
section
variable {gv : GV} {Cf : Cfg} {lo : Nat} {bs : List (Nat × Nat × Nat)} {Q : Exit → Act → World → Prop}
theorem ra {R : Type} (G : Good gv Cf.pn Cf.P Cf.call) {k : Nat} (hk : Cf.it = itK k) (hbase : ∀ m t l, (m, t, l) ∈ bs → m ≤ Cf.base) (tb : Nat) (hmem : (Cf.base, tb, Cf.lb) ∈ bs) (hD : xy gv Cf none lo bs) (hrd : ∀ C, uE Cf C none) {z : Code} {F K : Env → St → Option R} {r : R} :
 ∀ (l : List (Code × Ann)) (e : Env) (st : St) (a : Act) (w : World) (C : Ctx), pI Cf l e st F K = some r → Sim w C st bs → eK gv Cf.gl lo w C e Cf.n a →
  (∀ e' st' a' w' C', F e' st' = some r → Sim w' C' st' bs → Ext w C w' C' → eK gv Cf.gl lo w' C' e' Cf.n a' → Q .ret a' w') →
  (∀ e' st' a' w' C', K e' st' = some r → Sim w' C' st' bs → Ext w C w' C' → eK gv Cf.gl lo w' C' e' Cf.n a' → z.wpIn (fen none) 0 Cf.P Q a' w') → (Fz z l).wpIn (fen none) 0 Cf.P Q a w
 | [], e, st, a, w, C, h, H, hE, hF, hK => hK e st a w C h H (Ext.refl w C) hE
 | x :: l, e, st, a, w, C, h, H, hE, hF, hK => by
  simp only [pI] at h; refine wpIn_seq (mr G hk hbase tb hmem hD x.1 x.2 e st _ r a w C _ h H hE (hrd C) ?_); intro ex e' st' a' w' C' hq q1 q2 q3
  cases ex with
  | normal => exact ra G hk hbase tb hmem hD hrd l e' st' a' w' C' hq q1 (q3.rel rfl) (fun e2 s2 a2 w2 C2 k1 k2 k3 k4 => hF e2 s2 a2 w2 C2 k1 k2 (q2.trans k3) k4) fun e2 s2 a2 w2 C2 k1 k2 k3 k4 => hK e2 s2 a2 w2 C2 k1 k2 (q2.trans k3) k4
  | ret => exact hF e' st' a' w' C' hq q1 q2 (q3.rel rfl)
  | exit i => cases hq
  | pan t v => cases hq
end
structure Hdl (gv : GV) (P : Program) (h ar : Nat) (hd : List PV → TypeId → Value → St → Option St) : Prop where
 fn : ∃ fn, P.funcs[h]? = some fn ∧ (fn.name == "runtime.NumGoroutine") = false ∧ fn.body.isNone = false
 ret : ∀ (xs : Array Value) (w : World), xs.size = ar → CallsDIn (fen none) 0 P h xs .returning w fun e u' w' => (∃ v, e = .returned v) ∧ u' = .returning ∧ w' = w
 pan : ∀ cs t x s s', hd cs t x s = some s' → ∀ w C bs (xs : Array Value), mY gv w C → Sim w C s bs → (s.stk.length, s.tk.length, s.lp.length) ∈ bs ∨ True → xs.size = ar → xs.size = cs.length → (∀ (i : Nat) (x : Value) (p : PV), xs[i]? = some x → cs[i]? = some p → Rep w C x p) →
  CallsDIn (fen none) 0 P h xs (.panicking [{ v := .iface t x, recovered := false }]) w fun e u' w' => (∃ v, e = .returned v) ∧ settle u' = .returning ∧ ∃ C', Sim w' C' s' bs ∧ Ext w C w' C'
structure mZ where
 P : Program
 n : Nat
 md : Md
 imp : List FuncId
 gl : Nat → PV
 pn : List FuncId
 pre : List (Code × Ann)
 id5 : Nat
 mf : Oper
 df : Oper
 t : Nat
 h : Nat
 ar : Nat
 post : List (Nat × Array Oper)
 rs : List ResultVar
 live : List Nat
 hd : List PV → TypeId → Value → St → Option St
def mZ.cfg (R : mZ) (call : bD) (st : St) : Cfg := ⟨R.P, call, R.n, st.stk.length, itK 0, R.imp, R.md, none, st.lp.length, R.gl, R.pn⟩
def mZ.fin (R : mZ) (st : St) (e : Env) (s : St) : Option (PV × St) := fU (R.cfg (fun _ _ _ => none) st) R.rs e s fun ps => AM.fin st.stk.length st.tk.length st.lp.length ps s
def sD {R : Type} (h ar : Nat) (p : PV) (K : List PV → Option R) : Option R := match p with
 | .clo (.func g) cs => bif aj g h && aj cs.length ar then K cs else none
 | _ => none
noncomputable def mZ.ev (R : mZ) (call : bD) (args : List PV) (st : St) : Option (PV × St) :=
 bif dI args.length R.n then
  pI (R.cfg call st) R.pre (jO 0 args) st (R.fin st) fun e s =>
   guarded (R.cfg call st) #[R.mf, R.df] R.mf e s (fun p s => sD R.h R.ar (AM.put R.n e R.mf.dst p R.t) fun cs =>
    lB (R.cfg call st) R.post (AM.put R.n e R.mf.dst p) s (R.fin st) fun t x s2 => (R.hd cs t x s2).bind fun s3 => R.fin st (fe R.live (R.live.map (AM.put R.n e R.mf.dst p))) s3) fun _ _ _ => none
 else none
theorem sb {R : Type} {Ck : Nat → Cfg} {C : Cfg} (H : Lim Ck C) {K : Env → St → Option R} {N : TypeId → Value → St → Option R} {r : R} : ∀ (l : List (Nat × Array Oper)) (e : Env) (st : St), lB C l e st K N = some r → Evt (fun k => lB (Ck k) l e st K N) r
 | [], e, st, h => Evt.const h
 | x :: l, e, st, h => by
  simp only [lB] at h ⊢; exact qx H (Kk := fun k e st => lB (Ck k) l e st K N) (Nk := fun _ => N) (fun e s h => sb H l e s h) (fun t x s h => Evt.const h) _ _ _ h
theorem tO {R : Type} {Ck : Nat → Cfg} {C : Cfg} (H : Lim Ck C) {F K : Env → St → Option R} {Kk : Nat → Env → St → Option R} {r : R} (hK : ∀ e s, K e s = some r → Evt (fun k => Kk k e s) r) : ∀ (l : List (Code × Ann)) (e : Env) (st : St), pI C l e st F K = some r → Evt (fun k => pI (Ck k) l e st F (Kk k)) r
 | [], e, st, h => hK e st h
 | x :: l, e, st, h => by
  simp only [pI] at h ⊢
  refine mq H x.1 x.2 e st _ _ r h fun ex e s hx => ?_
  cases ex with
  | normal => exact tO H hK l e s hx
  | ret => exact Evt.const hx
  | exit i => cases hx
  | pan t v => cases hx
noncomputable def mZ.mD (R : mZ) : qT := ⟨R.ev, fun {Ck C} hc args st r h => by
 have H : Lim (fun k => R.cfg (Ck k) st) (R.cfg C st) := ⟨fun _ => rfl, fun _ => rfl, fun _ => rfl, fun _ => rfl, fun _ => rfl, fun _ => rfl, fun _ => rfl, fun _ => rfl, fun _ => rfl, hc, fun b bk hb vs st r h => by
  simp only [mZ.cfg, itK, iter] at h; cases h⟩
 unfold mZ.ev at h ⊢
 cases hn : dI args.length R.n with
 | false => rw [hn] at h; simp at h
 | true =>
  rw [hn] at h; simp only [cond_true] at h ⊢; refine tO H (fun e s hx => ?_) R.pre _ st h
  refine eY H hx (fun p s hp => ?_) fun t x s hx => by cases hx
  unfold sD at hp ⊢; split at hp
  · rename_i g cs hc
    cases hg : aj g R.h && aj cs.length R.ar with
    | false => rw [hg] at hp; simp at hp
    | true =>
     rw [hg] at hp; simp only [hg, cond_true] at hp ⊢; exact sb H _ _ _ hp
  · cases hp⟩
structure mZ.Ok (R : mZ) (gv : GV) (f : Nat) : Prop where
 gl : GOk gv R.gl
 mixed : R.P.follows .mixedOrders = true
 fn : ∃ fn, R.P.funcs[f]? = some fn ∧ (fn.name == "runtime.NumGoroutine") = false ∧ fn.ntmps = R.n ∧ fn.results.toList = R.rs ∧ fn.body = some (Fz (.seq (.region R.id5 #[R.mf, R.df] false) (wZ .ret R.post)) R.pre)
 mfg : R.mf.guard = none
 dfg : R.df.guard = none
 dfd : R.df.dst = none
 dfo : ∃ c : Call, R.df.op = .defer c ∧ c.callee = .value (.tmp R.t) ∧ c.args = #[]
 post : ∀ x ∈ R.post, ∀ o ∈ x.2.toList, me R.P o ∧ ∀ t ∈ R.live, o.dst ≠ some t
 hdl : Hdl gv R.P R.h R.ar R.hd
theorem Fs {R : mZ} {call : bD} {args : List PV} {st : St} {r : PV × St} (h : R.ev call args st = some r) : im r.1 = false := by
 have fnp : ∀ e s, R.fin st e s = some r → im r.1 = false := fun e s h => by
  obtain ⟨ps, h⟩ := mI _ _ _ _ _ h; exact Cu h
 have postK : ∀ (C : Cfg) (l : List (Nat × Array Oper)) (e : Env) (s : St) (K : Env → St → Option (PV × St)) (N : TypeId → Value → St → Option (PV × St)), lB C l e s K N = some r → (∃ e s, K e s = some r) ∨ ∃ t x s, N t x s = some r := by
  intro C l
  induction l with
  | nil => intro e s K N h; exact dw ⟨_, _, h⟩
  | cons x l ih =>
   intro e s K N h; simp only [lB] at h
   rcases uZ _ _ _ h with ⟨e', s', h⟩ | h
   · exact ih e' s' K N h
   · exact dr h
 have AY : ∀ (C : Cfg) (l : List (Code × Ann)) (e : Env) (s : St) (F K : Env → St → Option (PV × St)), pI C l e s F K = some r → (∃ e s, F e s = some r) ∨ ∃ e s, K e s = some r := by
  intro C l
  induction l with
  | nil => intro e s F K h; exact dr ⟨_, _, h⟩
  | cons x l ih =>
   intro e s F K h; simp only [pI] at h; obtain ⟨ex, e', s', h⟩ := pF _ _ _ _ _ r h
   cases ex with
   | normal => exact ih e' s' F K h
   | ret => exact dw ⟨_, _, h⟩
   | exit i => cases h
   | pan t v => cases h
 unfold mZ.ev at h
 cases hn : dI args.length R.n with
 | false => rw [hn] at h; simp at h
 | true =>
  rw [hn] at h; simp only [cond_true] at h
  rcases AY _ _ _ _ _ _ h with ⟨e, s, h⟩ | ⟨e, s, h⟩
  · exact fnp e s h
  · rw [dM] at h
    obtain ⟨q, hq, h⟩ := Option.bind_eq_some_iff.1 h
    rcases sE h with ⟨p, s, h⟩ | ⟨t, x, s, h⟩
    · unfold sD at h
      split at h
      · rename_i g cs hc
        cases hg : aj g R.h && aj cs.length R.ar with
        | false => rw [hg] at h; simp at h
        | true =>
         rw [hg] at h; simp only [cond_true] at h
         rcases postK _ _ _ _ _ _ h with ⟨e, s, h⟩ | ⟨t, x, s, h⟩
         · exact fnp e s h
         · obtain ⟨s3, _, h⟩ := Option.bind_eq_some_iff.1 h
           exact fnp _ _ h
      · cases h
    · cases h
theorem Ba {gv : GV} {R : mZ} {f : Nat} (ok : R.Ok gv f) {call : bD} (G : Good gv R.pn R.P call) : Good gv R.pn R.P fun f' args st => match f' with
 | .func k => if k = f then R.ev call args st else none
 | _ => none := by
 intro g args st r hr
 cases g with
 | func k =>
  simp only at hr
  by_cases hkf : k = f
  · subst hkf
    rw [if_pos rfl] at hr; obtain ⟨fn, hf, hname, hn0, hrs, hbody⟩ := ok.fn; refine ⟨fun _ => ?_, ⟨fn, hf, hname, by rw [hbody]; rfl⟩, fun w C bs xs hg H hs hrep => ?_⟩
    · exact Fs hr
    · unfold mZ.ev at hr
      cases hn : dI args.length R.n with
      | false => rw [hn] at hr; simp at hr
      | true =>
       rw [hn] at hr; simp only [cond_true] at hr; have hn := eG hn; refine re (rd := none) (n := 0) (callsIn_of_wp_marks hf hbody trivial ?_); rw [hn0]
       have hbase : ∀ m t l, (m, t, l) ∈ ((st.stk.length, st.tk.length, st.lp.length) :: bs) → m ≤ (R.cfg call st).base := by
        intro m t l hm
        rcases List.mem_cons.1 hm with hm | hm
        · cases hm; exact av _
        · exact (H.bnd m t l hm).1
       have G' : Good gv (R.cfg call st).pn (R.cfg call st).P (R.cfg call st).call := G
       have go : ∀ e' s' (ds : List Deferred) (a' : Act) w' C', R.fin st e' s' = some r → Sim w' C' s' ((st.stk.length, st.tk.length, st.lp.length) :: bs) → Ext w C w' C' → (∀ i, Rep w' C' (a'.tmps.getD i undef) (e' i)) → Marks w' w.heap.size ds →
        LeavesInM (fen none) 0 R.P fn a'.tmps (rq r bs w C) ds .returning w' := by
        intro e' s' ds a' w' C' hres q1 q2 q3 q4
        refine wJ (e := e') rfl ds w' q1 q2 q4 q3 (by rw [q2.N]; exact H.low.1) fun w2 H2 X2 hr2 => ?_
        obtain ⟨ps, vs, p1, p2, p3, p4⟩ := mJ (Cf := R.cfg (fun _ _ _ => none) st) H2 hr2 _ _ hres
        have p2 : (fn.results.toList.mapM (yj a'.tmps)).run R.P w2 = .ok vs w2 := by rw [hrs]; exact p2
        refine ⟨_, rj (Cf := R.cfg (fun _ _ _ => none) st) p2, ?_⟩; unfold AM.fin at p1; obtain ⟨p, hp, p1⟩ := Option.bind_eq_some_iff.1 p1
        cases hsf : sf false st.stk.length 4 p with
        | false => rw [hsf] at p1; simp at p1
        | true =>
         rw [hsf] at p1; obtain rfl := Option.some.inj p1; refine ⟨C'.fin s' st.stk.length st.tk.length st.lp.length, H2.fin (bI ..) (fun _ x => bS _ x) (fun m t l hm => H.bnd m t l hm), ?_, Ends.of (rT H2 hp hsf (w7 p3 p4))⟩; exact (H.nv X2).trans (rF w2 C' s' _ _ _)
       refine ra (Cf := R.cfg call st) (lo := w.heap.size) (bs := (st.stk.length, st.tk.length, st.lp.length) :: bs) G' (k := 0) rfl hbase st.tk.length (bI ..) (uX G' hbase ok.mixed) (fun _ => trivial) R.pre (jO 0 args) st _ w C hr H.enter (eK.enter ⟨hg, ok.gl⟩ hs hn hrep) ?_ ?_
       · intro e' st' a' w' C' q0 q1 q2 q3
         exact go e' st' a'.defers a' w' C' q0 q1 q2 q3.rep q3.defers
       · intro e st1 a1 w1 C1 hq q1 q2 q3
         refine wpIn_seq (wpIn_region ?_)
         have hw0 : ∀ t : Array Value, Region.wanted R.mf (yielded #[R.mf, R.df] t) = true := fun t => by simp [Region.wanted, ok.mfg]
         have hw1 : ∀ t : Array Value, Region.wanted R.df (yielded #[R.mf, R.df] t) = true := fun t => by simp [Region.wanted, ok.dfg]
         have hgd := jv (rd := none) (lo := w.heap.size) (bs := (st.stk.length, st.tk.length, st.lp.length) :: bs) (Q := Exit.then ((wZ .ret R.post).wpIn (fen none) 0 R.P (bodyPostM (fen none) 0 R.P fn (rq r bs w C))) (bodyPostM (fen none) 0 R.P fn (rq r bs w C)))
          (next := wpOpsIn (fen none) 0 R.P #[R.mf, R.df] (Exit.then ((wZ .ret R.post).wpIn (fen none) 0 R.P (bodyPostM (fen none) 0 R.P fn (rq r bs w C))) (bodyPostM (fen none) 0 R.P fn (rq r bs w C))) [1]) G' hbase q1 q3 hq (fun p st2 v w2 C2 hp k1 k2 k3 => ?_) (fun t x s w' C' h => by cases h)
         · rw [if_pos (hw0 _)] at hgd
           show wpOpsIn (fen none) 0 R.P #[R.mf, R.df] _ [0, 1] a1 w1
           simp only [wpOpsIn, List.getElem?_toArray, aB]; rw [if_pos (hw0 _)]; exact hgd
         · -- the call that waits
           have hE2 := (q3.mono k2).put R.mf.dst k3; have hE2 : eK gv R.gl w.heap.size w2 C2 (AM.put R.n e R.mf.dst p) R.n (a1.put R.mf.dst v) := hE2; generalize hee : AM.put R.n e R.mf.dst p = e2 at hp hE2; generalize haa : a1.put R.mf.dst v = a2 at hE2; unfold sD at hp; split at hp
           · rename_i g cs hclo
             cases hgh : aj g R.h && aj cs.length R.ar with
             | false => rw [hgh] at hp; simp at hp
             | true =>
              rw [hgh] at hp; simp only [cond_true] at hp; simp only [an] at hgh; obtain rfl := ax hgh.1; have har := ax hgh.2; have hrt := hE2.rep R.t; rw [hclo] at hrt; generalize hvt : a2.tmps.getD R.t undef = vt at hrt
              cases hrt with
              | @clo _ _ ys _ hys hyr =>
              obtain ⟨c, hco, hcc, hca⟩ := ok.dfo
              have hev : (execOp a2.eval R.df).run R.P w2 = .ok (.defer { target := .fn (.func R.h) ys, args := #[] }) w2 := by
               have : a2.eval (.tmp R.t) = .func (.func R.h) #[] ys := hvt; simp [execOp, hco, resolve, hcc, hca, this, Deferred.ofValue]
              simp only [wpOpsIn, List.getElem?_toArray, az, aB]; rw [if_pos (hw1 _)]; refine ⟨fun _ _ => trivial, ?_⟩; have hsm : (R.df.semAt (fen none).round a2.eval) = execOp a2.eval R.df := rfl; rw [hsm, hev, Oper.uponIn_defer, ok.dfd]
              show (wZ .ret R.post).wpIn (fen none) 0 R.P (bodyPostM (fen none) 0 R.P fn (rq r bs w C)) { a2 with defers := { target := .fn (.func R.h) ys, args := #[] } :: a2.defers } w2
              obtain ⟨fh, hfh1, hfh2, hfh3⟩ := ok.hdl.fn
              have hinv : ∀ w', (invoke (.fn (.func R.h) ys) #[]).run R.P w' = .ok (.enter R.h ys) w' := fun w' => by
               simp only [invoke, Array.empty_append]; exact lV hfh1 hfh2 hfh3 w'
              have hX2 : Ext w C w2 C2 := q2.trans k2; refine pH (Cf := R.cfg call st) (rd := none) (lo := w.heap.size) (bs := (st.stk.length, st.tk.length, st.lp.length) :: bs) (live := R.live) G' hbase R.post e2 a2 w2 C2 st2 ok.post k1 hE2 hp ?_ ?_
              · intro e' st' a' w' C' p0 p1 p2 p3 p4
                refine ⟨by simp, dr ⟨fun hd => by simp [fen, Fence.wide] at hd, .func R.h, ys, R.h, ys, rfl, hinv w', fun _ _ => trivial, (ok.hdl.ret ys w' (by rw [hys]; exact har)).mono fun ee u' w'' hh => ?_⟩⟩; obtain ⟨⟨v', rfl⟩, rfl, rfl⟩ := hh; exact go e' st' a2.defers a' _ C' p0 p1 (hX2.trans p2) p3.rep (hE2.defers.mono p2)
              · intro t x st' e' a' w' C' p0 p1 p2 p3 p4
                obtain ⟨s3, h3, p0⟩ := Option.bind_eq_some_iff.1 p0; refine ⟨by simp, dr ⟨fun hd => by simp [fen, Fence.wide] at hd, .func R.h, ys, R.h, ys, rfl, hinv w', fun _ _ => trivial, (ok.hdl.pan cs t x st' s3 h3 w' C' _ ys p3.gl.1 p1 (dr trivial) (by rw [hys]; exact har) hys (fun i y q hy hq => (hyr i y q hy hq).mono p2)).mono fun ee u' w'' hh => ?_⟩⟩; obtain ⟨⟨v', rfl⟩, hu, C'', s1, x1⟩ := hh
                have hl : R.live.map e2 = R.live.map e' := List.map_congr_left fun t ht => (p4 t ht).symm
                rw [hl] at p0; simp only [hu]; exact go _ s3 a2.defers a' w'' C'' p0 s1 (hX2.trans (p2.trans x1)) (((p3.live R.live).mono x1).rep) (hE2.defers.mono (p2.trans x1))
           · cases hp
  · rw [if_neg hkf] at hr; cases hr
 | yield i => cases hr
 | _ => cases hr
def oL (s : ByteArray) : Bool := s.data.toList.all fun b => decide (b.toNat < 128)
def lQ : List Value → Option PV
 | [.string s, .string t] => if s.size < 4294967281 then some (.v (.bool (Lib.contains s.data.toList t.data.toList))) else none
 | _ => none
def kQ : List Value → Option PV
 | [.string s, .int .u8 c] => some (.v (.int .i64 (Lib.indexByte s.data.toList c.toNat.toUInt8)))
 | _ => none
def jg : List Value → Option PV
 | [.string s, .string t] => if s.size < 4294967281 ∧ t.size < 4294967281 ∧ oL s = true ∧ oL t = true then some (.v (.bool (Lib.containsAny s.data.toList t.data.toList))) else none
 | _ => none
def sG (ty : TypeId) : List Value → Option PV
 | [.string f, .string s, .int .i64 b, .int .i64 z, .iface t (.int .i64 n)] => if s.size ≤ 281474976710656 ∧ t = ty ∧ (n = 1 ∨ n = 2) then some .ni else none
 | _ => none
def AV : List Value → Option PV
 | [.int .u64 n, .int .i64 b] => if b = 10 ∧ 0 ≤ n ∧ n < 18446744073709551616 then some (.v (.string ⟨(Lib.decDigits n.toNat).toArray⟩)) else none
 | _ => none
open Go Go.Proofs
noncomputable def mH : Code → Array Oper
 | .region _ ops _ => ops
 | _ => #[]
noncomputable def sK : Code → Nat
 | .region i _ _ => i
 | _ => 0
noncomputable def c20 : Code := Tryz.f20.body.getD .skip
noncomputable def c47 : Code := Tryz.f47.body.getD .skip
noncomputable def r5 : Code := c20.r.r.r.r.l
noncomputable def r6 : Code := c20.r.r.r.r.r.l
noncomputable def pns : List FuncId := [74, 71, 121, 123, 122, 70, 198, 187, 173, 157, 156, 155, 73, 159, 153, 152, 154, 124, 69, 72, 48]
noncomputable def Ca (s : St) : Cfg := ⟨Tryz.prog, fun _ _ _ => none, 14, s.stk.length, itK 0, [], ⟨[], []⟩, none, s.lp.length, fun _ => .u, pns⟩
noncomputable def o0 : Array Oper := mH c47.l
noncomputable def o1 : Array Oper := mH c47.r.l
noncomputable def o2 : Array Oper := mH c47.r.r.l.l
noncomputable def o3 : Array Oper := mH c47.r.r.l.r
noncomputable def CB (cs : List PV) (t : TypeId) (x : Value) (s : St) : Option St := match x with
 | .agg ⟨[]⟩ => bif aj t 108 && aj cs.length 3 then kJ (Ca s) o3 o3.toList (jO 0 cs) s (fun _ s2 => some s2) (fun _ _ _ => none) else none
 | _ => none
noncomputable def jS : mZ where
 P := Tryz.prog
 n := 24
 md := ⟨[], []⟩
 imp := []
 gl := fun _ => .u
 pn := pns
 pre := [(c20.l, .nil), (c20.r.l, .nil), (c20.r.r.l, .seq .nil (.cnd [2, 3, 4] (.seq .nil .nil) .nil)), (c20.r.r.r.l, .nil)]
 id5 := sK r5
 mf := (mH r5).toList.headD default
 df := (mH r5).toList.tail.headD default
 t := 20
 h := 47
 ar := 3
 post := [(sK r6, mH r6)]
 rs := Tryz.f20.results.toList
 live := [2, 3]
 hd := CB
theorem GU : Tryz.f20.body = some (Fz (.seq (.region jS.id5 #[jS.mf, jS.df] false) (wZ .ret jS.post)) jS.pre) := by kernel_rfl
theorem xK : Tryz.f47.body = some c47 := by kernel_rfl
theorem Aa : c47 = .seq (.region (sK c47.l) o0 false) (.seq (.region (sK c47.r.l) o1 false) (.cond (.tmp 6) (.seq (.region (sK c47.r.r.l.l) o2 false) (.region (sK c47.r.r.l.r) o3 false)) .skip)) := by kernel_rfl
noncomputable def opA (a : Array Oper) : Oper := a.toList.headD default
noncomputable def opB (a : Array Oper) : Oper := a.toList.tail.headD default
theorem FW : o0 = #[opA o0, opB o0] := by kernel_rfl
theorem FX : o1 = #[opA o1, opB o1] := by kernel_rfl
theorem H5 : o2 = #[opA o2, opB o2] := by kernel_rfl
theorem x0a (ρ : Operand → Value) : execOp ρ (opA o0) = pure .recover := by kernel_rfl
theorem x0b (ρ : Operand → Value) : execOp ρ (opB o0) = pure (.value (ρ (.tmp 4))) := by kernel_rfl
theorem x1a (ρ : Operand → Value) : execOp ρ (opA o1) = pure (.value (ρ (.tmp 3))) := by kernel_rfl
theorem x1b (ρ : Operand → Value) : execOp ρ (opB o1) = (do pure (Next.value (← (do eqGuard .neq 20 (.tmp 5) (.const .nilIface) (ρ (.tmp 5)) (ρ (.const .nilIface)); binOp .neq 20 (ρ (.tmp 5)) (ρ (.const .nilIface)))))) := by kernel_rfl
theorem x2a (ρ : Operand → Value) : execOp ρ (opA o2) = pure (.value (ρ (.tmp 3))) := by kernel_rfl
theorem x2b (ρ : Operand → Value) : execOp ρ (opB o2) = (do pure (Next.value (← Instr.typeAssert (ρ (.tmp 7)) 20 108 false))) := by kernel_rfl
theorem FN : (opA o0).dst = some 4 ∧ (opB o0).dst = some 3 ∧ (opA o1).dst = some 5 ∧ (opB o1).dst = some 6 ∧ (opA o2).dst = some 7 ∧ (opB o2).dst = some 8 := by refine ⟨?_, ?_, ?_, ?_, ?_, ?_⟩ <;> kernel_rfl
theorem FO : (opA o0).guard = none ∧ (opB o0).guard = none ∧ (opA o1).guard = none ∧ (opB o1).guard = none ∧ (opA o2).guard = none ∧ (opB o2).guard = none := by refine ⟨?_, ?_, ?_, ?_, ?_, ?_⟩ <;> kernel_rfl
theorem H4 (w : World) : (do pure (Next.value (← (do eqGuard .neq 20 (.tmp 5) (.const .nilIface) (.iface 108 (.agg #[])) .nilIface; binOp .neq 20 (.iface 108 (.agg #[])) .nilIface))) : Sem Next).run Tryz.prog w = .ok (.value (.bool true)) w := by kernel_rfl
theorem H3 (w : World) : (do pure (Next.value (← (do eqGuard .neq 20 (.tmp 5) (.const .nilIface) .nilIface .nilIface; binOp .neq 20 .nilIface .nilIface))) : Sem Next).run Tryz.prog w = .ok (.value (.bool false)) w := by kernel_rfl
theorem Is (w : World) : (do pure (Next.value (← Instr.typeAssert (.iface 108 (.agg #[])) 20 108 false)) : Sem Next).run Tryz.prog w = .ok (.value (.agg #[])) w := by kernel_rfl
open Go Go.Proofs Go.RowKit
section
variable {P : Program} {ops : Array Oper} {Q : Exit → Act → List Frame → World → Prop} {a : Act} {cs : List Frame} {w : World}
theorem iZ {i : Nat} {rest : List Nat} {o : Oper} {v : Value} {w' : World} (ho : ops[i]? = some o) (hg : o.guard = none) (h : (execOp a.eval o).run P w = .ok (.value v) w') (hn : wpOpsSIn (fen none) 0 P ops Q rest (a.put o.dst v) cs w') : wpOpsSIn (fen none) 0 P ops Q (i :: rest) a cs w := by
 have hw : Region.wanted o (yielded ops a.tmps) = true := by simp [Region.wanted, hg]
 simp only [wpOpsSIn, ho]; refine ⟨fun _ _ => trivial, ?_⟩; rw [if_pos hw, h]; exact hn
theorem xu {i : Nat} {rest : List Nat} {o : Oper} {v : Value} {cs' : List Frame} (ho : ops[i]? = some o) (hg : o.guard = none) (h : (execOp a.eval o).run P w = .ok .recover w) (hr : recoverD cs = some (v, cs')) (hn : wpOpsSIn (fen none) 0 P ops Q rest (a.put o.dst v) cs' w) : wpOpsSIn (fen none) 0 P ops Q (i :: rest) a cs w := by
 have hw : Region.wanted o (yielded ops a.tmps) = true := by simp [Region.wanted, hg]
 simp only [wpOpsSIn, ho]; refine ⟨fun _ _ => trivial, ?_⟩; rw [if_pos hw, h]; simp only [hr]; exact hn
theorem BE {i : Nat} {rest : List Nat} {o : Oper} (ho : ops[i]? = some o) (hg : o.guard = none) (h : (execOp a.eval o).run P w = .ok .recover w) (hr : recoverD cs = none) (hn : wpOpsSIn (fen none) 0 P ops Q rest (a.put o.dst .nilIface) cs w) : wpOpsSIn (fen none) 0 P ops Q (i :: rest) a cs w := by
 have hw : Region.wanted o (yielded ops a.tmps) = true := by simp [Region.wanted, hg]
 simp only [wpOpsSIn, ho]; refine ⟨fun _ _ => trivial, ?_⟩; rw [if_pos hw, h]; simp only [hr]; exact hn
end
theorem jw {a : Act} {d : Nat} {v : Value} (h : d < a.tmps.size) : (a.put (some d) v).eval (.tmp d) = v := by
 show (a.tmps.setIfInBounds d v).getD d undef = v
 rw [aS, Array.getElem?_setIfInBounds]; simp [h]
theorem fJ {a : Act} {d : Nat} {v : Value} : (a.put (some d) v).tmps.size = a.tmps.size := by simp [Act.put]
theorem iL {a : Act} {d : Option Nat} {v : Value} : (a.put d v).defers = a.defers := by cases d <;> rfl
theorem eK.A4 {gv : GV} {g : Nat → PV} {lo n : Nat} {w : World} {C : Ctx} {e : Env} {a : Act} (h : eK gv g lo w C e n a) {d : Nat} (hd : e d = .u) (v : Value) : eK gv g lo w C e n (a.put (some d) v) := by
 have := h.put (some d) (Rep.u (w := w) (C := C) (x := v))
 have he : AM.put n e (some d) .u = e := by
  funext j
  unfold AM.put; simp only
  cases fZ d n with
  | false => rfl
  | true =>
   simp only [cond_true, upd]
   cases hj : aj j d with
   | false => rfl
   | true => rw [ax hj, hd]; rfl
 rw [he] at this; exact this
theorem rf {P : Program} {o : Oper} (h : (match o.op with | .build _ _ | .load _ _ | .nilCheck _ | .fieldAddr _ _ _ | .store _ _ _ => true | _ => false) = true) : me P o := by
 have hv : ∀ (s : Sem Value) (w : World) (d : Deferred) (w' : World), (do pure (Next.value (← s)) : Sem Next).run P w ≠ .ok (.defer d) w' := fun s w d w' hx => by
  rw [Sem.run_bind] at hx
  cases hq : s.run P w <;> rw [hq] at hx <;> simp [Result.andThen] at hx
 have hu : ∀ (s : Sem Unit) (w : World) (d : Deferred) (w' : World), (do s; pure Next.skip : Sem Next).run P w ≠ .ok (.defer d) w' := fun s w d w' hx => by
  rw [Sem.run_bind] at hx
  cases hq : s.run P w <;> rw [hq] at hx <;> simp [Result.andThen] at hx
 refine ⟨fun c hc => (by rw [hc] at h; cases h), fun a w d w' hx => ?_⟩; split at h
 · rename_i hop; simp only [execOp, hop] at hx; exact hv _ _ _ _ hx
 · rename_i hop; simp only [execOp, hop] at hx; exact hv _ _ _ _ hx
 · rename_i hop
   simp only [execOp, hop] at hx; split at hx
   · simp [runtimePanic] at hx
   · simp [runtimePanic] at hx
   · simp [runtimePanic] at hx
   · split at hx
     · simp [runtimePanic] at hx
     · simp only [Sem.run_bind] at hx
       generalize Sem.run P program w = q1 at hx
       cases q1 with
       | ok p1 w1 =>
        simp only [Result.andThen] at hx; generalize Sem.run P (nilAhead _ _ _ _) w1 = q2 at hx
        cases q2 with
        | ok p2 w2 =>
         simp only at hx; split at hx
         · simp [unsupported] at hx
         · simp at hx
        | _ => simp at hx
       | _ => simp [Result.andThen] at hx
     · simp [runtimePanic] at hx
   · simp at hx
 · rename_i hop; simp only [execOp, hop] at hx; exact hv _ _ _ _ hx
 · rename_i hop; simp only [execOp, hop] at hx; exact hu _ _ _ _ hx
 · cases h
theorem results47 (tmps : Array Value) (w : World) : (results Tryz.f47 tmps).run Tryz.prog w = .ok (.tuple #[]) w := by kernel_rfl
theorem CR : ∀ o ∈ o3.toList, me Tryz.prog o ∧ ∀ t ∈ ([] : List Nat), o.dst ≠ some t := by
 have hk : (o3.toList.all fun o => match o.op with | .build _ _ | .load _ _ | .nilCheck _ | .fieldAddr _ _ _ | .store _ _ _ => true | _ => false) = true := by kernel_rfl
 exact fun o ho => ⟨rf (dH.1 hk o ho), by simp⟩
theorem HS {gv : GV} (hgo : GOk gv fun _ => .u) : Hdl gv Tryz.prog 47 3 CB where
 fn := ⟨_, Tryz.func47, by kernel_rfl, by rw [xK]; rfl⟩
 ret xs w hs := by
  refine callsDIn_of_wpSIn Tryz.func47 xK trivial fun c0 cs hm => ?_
  obtain ⟨d1, d2, d3, d4, d5, d6⟩ := FN; obtain ⟨g1, g2, g3, g4, g5, g6⟩ := FO
  have hn : Tryz.f47.ntmps = 14 := by kernel_rfl
  rw [Aa, hn]; generalize ha : ({ tmps := xs ++ Array.replicate (14 - xs.size) undef, defers := [] } : Act) = a
  have hsz : a.tmps.size = 14 := by rw [← ha]; simp [hs]
  have hdf : a.defers = [] := by rw [← ha]
  have hrec : recoverD (c0 :: cs) = none := by simp [recoverD, hm]
  refine wpSIn_seq (wpSIn_region ?_); rw [FW]; refine BE (i := 0) (rest := [1]) (o := opA o0) rfl g1 (by rw [x0a]; rfl) hrec ?_; refine iZ (i := 1) (rest := []) (o := opB o0) (v := .nilIface) rfl g2 (by rw [x0b, d1, jw (by omega)]; rfl) ?_; refine wpSIn_seq (wpSIn_region ?_); rw [FX, d1, d2]; refine iZ (i := 0) (rest := [1]) (o := opA o1) (v := .nilIface) rfl g3 (by rw [x1a, jw (by rw [fJ]; omega)]; rfl) ?_; rw [d3]; refine iZ (i := 1) (rest := []) (o := opB o1) (v := .bool false) (w' := w) rfl g4 (by rw [x1b, jw (by rw [fJ, fJ]; omega)]; exact H3 w) ?_; rw [d4]; refine wpSIn_cond (t := false) (jw (by rw [fJ, fJ, fJ]; omega)) ?_; refine wpSIn_of_wpIn rfl (wpIn_skip ?_); refine ⟨by rw [iL, iL, iL, iL]; exact hdf, .returning, ?_, _, results47 _ w, ⟨_, rfl⟩, rfl, rfl⟩; rw [← hm]
 pan cl t x s s' h w C bs xs hg H _ hs hsl hrep := by
  unfold CB at h; split at h
  · cases htc : aj t 108 && aj cl.length 3 with
    | false => rw [htc] at h; simp at h
    | true =>
     rw [htc] at h; simp only [cond_true] at h; simp only [an] at htc; obtain rfl := ax htc.1
     refine callsDIn_of_wpSIn Tryz.func47 xK trivial fun c0 cs hm => ?_
     obtain ⟨d1, d2, d3, d4, d5, d6⟩ := FN; obtain ⟨g1, g2, g3, g4, g5, g6⟩ := FO
     have hn : Tryz.f47.ntmps = 14 := by kernel_rfl
     have hE := eK.enter (n := 14) ⟨hg, hgo⟩ hsl (by omega) hrep; rw [Aa, hn]; generalize ha : ({ tmps := xs ++ Array.replicate (14 - xs.size) undef, defers := [] } : Act) = a at hE; have hsz : a.tmps.size = 14 := hE.size
     have hu : ∀ d, 3 ≤ d → jO 0 cl d = .u := fun d hd => by
      rw [oJ cl 0 d, if_pos (dE _), Nat.sub_zero, List.getElem?_eq_none (by omega)]; rfl
     have hrec : recoverD (c0 :: cs) = some (.iface 108 (.agg #[]), { c0 with mode := .panicking [{ v := .iface 108 (.agg #[]), recovered := true }] } :: cs) := by simp [recoverD, hm]
     refine wpSIn_seq (wpSIn_region ?_); rw [FW]; refine xu (i := 0) (rest := [1]) (o := opA o0) rfl g1 (by rw [x0a]; rfl) hrec ?_; rw [d1]; have hE := hE.A4 (hu 4 (by omega)) (.iface 108 (.agg #[])); refine iZ (i := 1) (rest := []) (o := opB o0) (v := .iface 108 (.agg #[])) rfl g2 (by rw [x0b, jw (by omega)]; rfl) ?_; rw [d2]; have hE := hE.A4 (hu 3 (by omega)) (.iface 108 (.agg #[])); refine wpSIn_seq (wpSIn_region ?_); rw [FX]; refine iZ (i := 0) (rest := [1]) (o := opA o1) (v := .iface 108 (.agg #[])) rfl g3 (by rw [x1a, jw (by rw [fJ]; omega)]; rfl) ?_; rw [d3]; have hE5 := hE.A4 (hu 5 (by omega)) (.iface 108 (.agg #[])); refine iZ (i := 1) (rest := []) (o := opB o1) (v := .bool true) (w' := w) rfl g4 (by rw [x1b, jw (by rw [fJ, fJ]; omega)]; exact H4 w) ?_; rw [d4]; have hE6 := hE5.A4 (hu 6 (by omega)) (.bool true); refine wpSIn_cond (t := true) (jw (by rw [fJ, fJ, fJ]; omega)) ?_; simp only [if_true]; refine wpSIn_seq (wpSIn_region ?_); rw [H5]
     have h3 : ∀ (b : Act) (d : Nat) (v : Value), d ≠ 3 → (b.put (some d) v).eval (.tmp 3) = b.eval (.tmp 3) := fun b d v hd => by
      show (b.tmps.setIfInBounds d v).getD 3 undef = b.tmps.getD 3 undef
      rw [aS, aS, eI hd]
     refine iZ (i := 0) (rest := [1]) (o := opA o2) (v := .iface 108 (.agg #[])) rfl g5 (by rw [x2a, h3 _ _ _ (by omega), h3 _ _ _ (by omega), jw (by rw [fJ]; omega)]; rfl) ?_; rw [d5]; have hE7 := hE6.A4 (hu 7 (by omega)) (.iface 108 (.agg #[])); refine iZ (i := 1) (rest := []) (o := opB o2) (v := .agg #[]) (w' := w) rfl g6 (by rw [x2b, jw (by rw [fJ, fJ, fJ, fJ]; omega)]; exact Is w) ?_; rw [d6]; have hE8 := hE7.A4 (hu 8 (by omega)) (.agg #[]); generalize hb8 : (((((((a.put (some 4) _).put (some 3) _).put (some 5) _).put (some 6) _).put (some 7) _).put (some 8) _)) = b at hE8
     have hdb : b.defers = [] := by rw [← hb8, iL, iL, iL, iL, iL, iL, ← ha]
     refine wpSIn_of_wpIn rfl (wpIn_region ?_)
     have hb2 : ({ b with defers := [] } : Act) = b := by cases b; simp only at hdb; rw [hdb]
     have G : Good gv (Ca s).pn (Ca s).P (Ca s).call := fun g args st r hr => by cases hr
     have := lA (Cf := Ca s) (rd := none) (lo := w.heap.size) (bs := bs) (Q := fun e a' w' => bodyPostS Tryz.prog Tryz.f47 c0 cs (fun e u' w' => (∃ v, e = .returned v) ∧ settle u' = .returning ∧ ∃ C', Sim w' C' s' bs ∧ Ext w C w' C') e a' ({ c0 with mode := .panicking [{ v := .iface 108 (.agg #[]), recovered := true }] } :: cs) w')
      G (fun m t l hm => (H.bnd m t l hm).1) (ds := []) (live := []) o3.toList 0 (jO 0 cl) b w C s rfl CR H hE8 h
      (fun e' st' a' w' C' hq q1 q2 q3 q4 => by
       obtain rfl := Option.some.inj hq
       exact ⟨rfl, _, rfl, _, results47 _ w', ⟨_, rfl⟩, rfl, C', q1, q2⟩)
      (fun t x st' e' a' w' C' hq => by cases hq)
     rw [hb2] at this; rw [List.range_eq_range']; rw [Array.length_toList] at this; exact this
  · cases h
theorem CS : ∀ x ∈ jS.post, ∀ o ∈ x.2.toList, me Tryz.prog o ∧ ∀ t ∈ jS.live, o.dst ≠ some t := by
 have hk : ((mH r6).toList.all fun o => (match o.op with | .build _ _ | .load _ _ | .nilCheck _ | .fieldAddr _ _ _ | .store _ _ _ => true | .call c => (match c.callee with | .value (.func f) => aj f 48 | _ => false) | _ => false) && (match o.dst with | some t => fZ 3 t | none => true)) = true := by kernel_rfl
 intro x hx o ho; obtain rfl : x = (sK r6, mH r6) := List.mem_singleton.1 hx; have h := dH.1 hk o ho; rw [an] at h; refine ⟨?_, fun t ht hd => ?_⟩
 · have h := h.1
   cases hop : o.op with
   | call c =>
    rw [hop] at h; simp only at h; split at h
    · rename_i f hc
      obtain rfl := ax h; refine ⟨fun c hc => (by rw [hop] at hc; cases hc), fun a w d w' hx => ?_⟩
      have : execOp a.eval o = callFunc 48 (#[] ++ c.args.map a.eval ++ #[]) := by
       simp [execOp, hop, resolve, hc, Act.eval, Deferred.ofValue, invoke]
      rw [this, lV Tryz.func48 (by kernel_rfl) (by kernel_rfl) w] at hx; cases hx
    · cases h
   | _ =>
    rw [hop] at h
    first
    | (cases h; done)
    | exact rf (by rw [hop])
 · have h := h.2
   rw [hd] at h
   have ht : t = 2 ∨ t = 3 := by simpa [jS] using ht
   rcases ht with rfl | rfl <;> cases h
theorem A9 {gv : GV} (hgo : GOk gv fun _ => .u) : jS.Ok gv 20 where
 gl := hgo
 mixed := by kernel_rfl
 fn := ⟨Tryz.f20, Tryz.func20, by kernel_rfl, by kernel_rfl, rfl, GU⟩
 mfg := by kernel_rfl
 dfg := by kernel_rfl
 dfd := by kernel_rfl
 dfo := ⟨(match jS.df.op with | .defer c => c | _ => default), by kernel_rfl, by kernel_rfl, by kernel_rfl⟩
 post := CS
 hdl := HS hgo
end Go.AM
namespace Go.Proofs.YtlhlijaondmccaaGreatDoor.S
open Go Go.AM Go.Proofs
def Ir : List (Nat × Ann) := [(85, .seq .nil (.seq (.blk (.lop [0, 1] false (.seq (.seq .nil (.cnd [0, 1] .nil .nil)) .nil))) .nil)),
 (86, .seq .nil (.seq .nil (.seq (.seq .nil (.blk (.lop [0, 2, 3, 4, 5] false (.seq (.seq .nil (.cnd [0, 2, 3, 4, 5] .nil .nil)) (.seq (.blk (.seq .nil (.seq .nil (.cnd [0, 2, 3, 4, 5] .nil (.seq .nil (.cnd [0, 2, 3, 4, 5] .nil .nil)))))) .nil))))) .nil))),
 (87, .seq .nil (.seq (.seq .nil (.blk (.lop [0, 1, 4, 7, 8, 9] false (.seq .nil (.seq (.cnd [0, 1, 4, 7, 8, 9] .nil .nil) (.seq (.blk (.seq .nil (.seq .nil (.cnd [0, 1, 4, 7, 8, 9] .nil .nil)))) .nil)))))) .nil)),
 (88, .seq .nil (.seq (.seq .nil (.blk (.lop [0, 2, 5, 6, 7] false (.seq .nil (.seq (.cnd [0, 2, 5, 6, 7] .nil .nil) (.seq (.blk (.seq .nil (.seq .nil (.cnd [0, 2, 5, 6, 7] .nil .nil)))) .nil)))))) .nil)),
 (89, .seq .nil (.seq (.seq .nil (.cnd [0, 2] .nil .nil)) (.seq (.seq .nil (.blk (.lop [0, 2, 3] false (.seq (.seq .nil (.cnd [0, 2, 3] .nil .nil)) (.seq (.blk (.seq .nil (.cnd [0, 2, 3] .nil .nil))) .nil))))) .nil))),
 (90, .seq .nil (.seq (.seq .nil (.cnd [0, 2, 3] .nil .nil)) (.seq .nil (.seq (.seq .nil (.blk (.lop [0, 2, 3, 4, 5] false (.seq (.seq .nil (.cnd [0, 2, 3, 4, 5] .nil .nil)) (.seq (.blk (.seq (.seq .nil (.cnd [0, 2, 3, 4, 5] .nil .nil)) .nil)) .nil))))) .nil)))),
 (56, .seq .nil (.seq (.seq .nil (.cnd [0, 1, 4, 5] (.seq .nil (.seq .nil (.seq (.seq .nil (.cnd [0, 1, 4, 5, 6, 7] .nil .nil)) .nil))) .nil)) (.seq .nil (.seq (.seq .nil (.cnd [0, 1, 4, 5, 9] (.seq .nil (.seq (.seq .nil (.cnd [0, 1, 4, 5, 9, 10] .nil .nil)) .nil)) .nil)) (.seq .nil (.seq (.seq .nil (.cnd [1, 4, 5, 9, 11] .nil .nil)) (.seq (.seq .nil (.cnd [1, 4, 5, 9, 11] .nil .nil)) (.seq .nil (.seq (.seq .nil (.cnd [4, 5, 9, 11, 12] .nil .nil)) .nil))))))))),
 (26, .seq .nil (.seq (.seq .nil (.cnd [0, 2, 3, 4, 5] .nil .nil)) (.seq .nil (.seq .nil (.seq (.blk (.lop [0, 2, 3, 4, 5, 6, 7, 8, 9] true (.seq (.seq .nil (.cnd [0, 2, 3, 4, 5, 6, 7, 8, 9] .nil .nil)) (.blk (.seq .nil (.seq .nil (.seq (.seq .nil (.cnd [0, 2, 3, 4, 5, 6, 7, 8, 9, 10, 11] .nil (.seq .nil (.cnd [0, 2, 3, 4, 5, 6, 7, 8, 9, 10, 11] (.blk (.lop [0, 2, 3, 4, 5, 6, 7, 8, 9, 10, 11] false (.seq (.seq .nil (.cnd [0, 2, 3, 4, 5, 6, 7, 8, 9, 10, 11] .nil .nil)) .nil))) (.seq .nil (.seq (.seq .nil (.cnd [0, 2, 3, 4, 5, 6, 7, 8, 9, 10, 11, 12, 13] .nil .nil)) .nil)))))) (.seq .nil (.seq (.seq .nil (.cnd [0, 2, 3, 4, 5, 6, 7, 8, 11] .nil .nil)) .nil))))))))) .nil))))),
 (50, .seq .nil (.seq .nil (.cnd [] (.seq .nil (.seq .nil (.seq .nil (.seq (.blk (.lop [0, 1, 6] false (.seq (.seq .nil (.cnd [0, 1, 6] .nil .nil)) .nil))) .nil)))) (.seq .nil (.cnd [] .nil (.seq .nil (.cnd [] (.seq .nil (.seq .nil (.seq .nil (.seq (.seq .nil (.cnd [0, 1, 8] (.seq .nil (.seq (.blk (.lop [0, 1, 8] false (.seq (.seq .nil (.cnd [0, 1, 8] .nil .nil)) .nil))) .nil)) .nil)) .nil)))) (.seq .nil (.cnd [] .nil .nil))))))))),
 (111, .seq .nil (.seq .nil (.seq .nil (.seq (.seq .nil (.blk (.lop [0, 5, 24, 25, 26] false (.seq .nil (.seq (.cnd [0, 5, 24, 25, 26] .nil .nil) (.seq (.blk (.seq .nil (.seq .nil (.seq .nil (.cnd [0, 5, 24, 25, 26] .nil .nil))))) .nil)))))) .nil)))),
 (112, .seq .nil (.seq (.seq .nil (.blk (.lop [0, 1, 4, 11] false (.seq .nil (.seq (.cnd [0, 1, 4, 11, 12] .nil .nil) (.blk (.seq .nil (.seq .nil (.cnd [0, 1, 4, 11] .nil .nil))))))))) .nil)),
 (65, .seq .nil (.blk (.lop [0] false (.seq (.seq .nil (.cnd [0] .nil .nil)) (.blk (.blk (.seq .nil (.cnd [0] .nil (.seq .nil (.cnd [0] .nil .nil)))))))))),
 (147, .seq .nil (.seq (.seq .nil (.blk (.lop [0, 2, 6] false (.seq .nil (.seq (.cnd [0, 2, 6, 7] .nil .nil) (.blk (.seq .nil (.seq .nil (.cnd [0, 2, 6] .nil .nil))))))))) .nil)),
 (170, .seq .nil (.seq (.seq .nil (.cnd [0, 1, 2, 6, 7] .nil .nil)) (.seq .nil (.seq .nil (.seq (.blk (.seq .nil (.cnd [0, 1, 2, 6, 7, 8, 9] .nil (.seq .nil (.cnd [0, 1, 2, 6, 7, 8, 9] (.seq .nil (.seq .nil (.cnd [0, 1, 2, 6, 7, 8, 9] (.blk (.seq .nil (.cnd [0, 1, 2, 6, 7, 8, 9] .nil (.seq .nil (.cnd [0, 1, 2, 6, 7, 8, 9] .nil (.seq .nil (.cnd [0, 1, 2, 6, 7, 8, 9] .nil .nil))))))) .nil))) .nil))))) (.seq (.seq .nil (.cnd [0, 1, 2, 6, 7, 8, 9] .nil (.seq .nil (.cnd [0, 1, 2, 6, 7, 8, 9] .nil .nil)))) (.seq .nil (.seq (.seq .nil (.blk (.seq .nil (.cnd [0, 1, 2, 6, 7, 8, 9, 10] .nil (.seq .nil (.cnd [0, 1, 2, 6, 7, 8, 9, 10] .nil .nil)))))) (.seq .nil (.seq .nil (.seq .nil (.seq (.seq .nil (.blk (.lop [1, 6, 7, 8, 9, 10, 11, 12, 13, 99, 100, 101] false (.seq .nil (.seq (.cnd [1, 6, 7, 8, 9, 10, 11, 12, 13, 99, 100, 101] .nil .nil) (.seq (.blk (.seq .nil (.seq .nil (.seq (.blk (.seq .nil (.cnd [1, 6, 7, 8, 9, 10, 11, 12, 13, 16, 99, 100, 101] .nil (.seq .nil (.cnd [1, 6, 7, 8, 9, 10, 11, 12, 13, 16, 99, 100, 101] .nil (.seq .nil (.cnd [1, 6, 7, 8, 9, 10, 11, 12, 13, 16, 99, 100, 101] .nil .nil))))))) (.seq (.seq .nil (.cnd [1, 6, 7, 8, 9, 10, 11, 12, 13, 16, 99, 100, 101] .nil .nil)) (.seq (.seq .nil (.cnd [1, 6, 7, 8, 9, 10, 11, 12, 13, 16, 99, 100, 101] .nil .nil)) (.seq .nil (.seq .nil (.seq (.seq .nil (.cnd [1, 6, 7, 8, 9, 10, 11, 12, 13, 17, 99, 100, 101] .nil .nil)) .nil))))))))) .nil)))))) (.seq (.seq .nil (.cnd [6, 7, 13] .nil .nil)) .nil))))))))))))),
 (148, .seq .nil (.seq .nil (.seq (.seq .nil (.cnd [6, 7, 8] .nil .nil)) .nil))),
 (117, .seq .nil (.seq .nil (.seq .nil (.seq (.blk (.seq .nil (.cnd [2, 3, 4] .nil (.seq .nil (.cnd [2, 3, 4] .nil .nil))))) .nil)))),
 (119, .seq .nil (.seq .nil (.seq (.seq .nil (.blk (.lop [0, 2, 3, 4, 16, 17] false (.seq .nil (.seq (.cnd [0, 2, 3, 4, 16, 17] .nil .nil) (.seq (.blk (.seq .nil (.seq .nil (.cnd [0, 2, 3, 4, 16, 17] .nil .nil)))) .nil)))))) (.seq (.seq .nil (.cnd [0, 2, 3, 4] .nil .nil)) .nil)))),
 (66, .seq .nil (.seq .nil (.seq (.blk (.seq .nil (.cnd [0, 2, 3] .nil (.seq .nil (.cnd [0, 2, 3] .nil .nil))))) .nil))),
 (46, .seq .nil (.seq (.seq .nil (.cnd [0, 2, 3] .nil .nil)) (.seq .nil (.seq .nil (.blk (.lop [2, 3, 4, 5] true (.blk (.seq .nil (.seq (.seq .nil (.cnd [2, 3, 4, 5] .nil .nil)) (.seq .nil (.seq (.seq .nil (.cnd [2, 3, 4, 5, 6] .nil .nil)) .nil))))))))))),
 (68, .seq .nil (.seq (.seq .nil (.cnd [4] .nil .nil)) .nil)),
 (71, .seq .nil (.seq .nil (.seq (.seq .nil (.cnd [4, 5] .nil .nil)) .nil))),
 (151, .seq .nil (.seq .nil (.seq (.seq .nil (.cnd [2, 3] .nil .nil)) .nil))),
 (121, .seq .nil (.seq .nil (.seq (.seq .nil (.cnd [0, 4] .nil .nil)) .nil))),
 (122, .seq .nil (.seq (.seq .nil (.blk (.lop [0, 2, 5, 6] false (.seq .nil (.seq (.cnd [0, 2, 5, 6] .nil .nil) (.seq (.blk (.seq .nil (.seq .nil (.cnd [0, 2, 5, 6] .nil .nil)))) .nil)))))) .nil)),
 (69, .seq .nil (.seq .nil (.seq .nil (.seq .nil (.seq (.blk (.lop [0, 2, 4] false (.seq (.seq .nil (.cnd [0, 2, 4] .nil .nil)) .nil))) .nil))))),
 (123, .seq .nil (.seq .nil (.seq .nil (.cnd [] .nil .nil)))),
 (197, .seq .nil (.seq (.seq .nil (.blk (.seq .nil (.cnd [2] .nil (.seq .nil (.cnd [2] .nil (.seq .nil (.cnd [2] .nil .nil)))))))) .nil)),
 (198, .seq .nil (.seq .nil (.seq .nil (.seq (.blk (.seq .nil (.cnd [2, 4] .nil (.seq .nil (.cnd [2, 4] .nil (.seq .nil (.cnd [2, 4] .nil (.seq .nil (.cnd [2, 4] .nil (.seq .nil (.cnd [2, 4] (.seq .nil (.seq .nil (.cnd [2, 4] .nil .nil))) (.seq .nil (.cnd [2, 4] .nil .nil))))))))))))) .nil)))),
 (187, .seq .nil (.seq .nil (.seq .nil (.seq (.seq .nil (.cnd [0, 2, 3, 4] .nil .nil)) (.seq (.seq .nil (.cnd [0, 2, 3, 4] .nil .nil)) .nil))))),
 (189, .seq .nil (.seq (.seq .nil (.blk (.lop [0, 2, 5, 6] false (.seq .nil (.seq (.cnd [0, 2, 5, 6] .nil .nil) (.seq (.blk (.seq .nil (.seq .nil (.cnd [0, 2, 5, 6] .nil .nil)))) .nil)))))) .nil)),
 (173, .seq .nil (.seq (.seq .nil (.cnd [0, 1, 4] .nil .nil)) (.seq .nil (.blk (.lop [0, 1, 4, 5] true (.blk (.seq .nil (.seq (.seq .nil (.cnd [0, 1, 4, 5, 6] .nil .nil)) (.seq .nil (.seq .nil (.seq .nil (.cnd [0, 1, 4, 5] .nil .nil)))))))))))),
 (156, .seq .nil (.seq .nil (.seq .nil (.seq (.blk (.seq .nil (.cnd [2, 4] .nil (.seq .nil (.cnd [2, 4] .nil .nil))))) .nil)))),
 (155, .seq .nil (.seq .nil (.seq .nil (.seq (.blk (.seq .nil (.cnd [2, 4] .nil (.seq .nil (.cnd [2, 4] .nil (.seq .nil (.cnd [2, 4] (.seq .nil (.cnd [2, 4] .nil .nil)) .nil))))))) .nil)))),
 (152, .seq .nil (.seq .nil (.seq (.seq .nil (.cnd [0, 3, 4] .nil .nil)) .nil))),
 (154, .seq .nil (.seq .nil (.seq .nil (.seq (.seq .nil (.cnd [3, 4] .nil .nil)) .nil)))),
 (158, .seq .nil (.seq (.seq .nil (.cnd [2] .nil .nil)) .nil)),
 (159, .seq .nil (.seq .nil (.seq .nil (.seq (.seq .nil (.cnd [0, 2, 3] .nil .nil)) (.blk (.lop [0, 2, 3] false (.blk (.seq .nil (.seq (.seq .nil (.cnd [0, 2, 3] .nil .nil)) .nil))))))))),
 (124, .seq .nil (.seq .nil (.seq .nil (.seq (.seq .nil (.cnd [0, 2, 3, 4] .nil .nil)) (.seq (.blk (.seq .nil (.cnd [0, 2, 4] .nil (.seq .nil (.cnd [0, 2, 4] .nil (.seq .nil (.cnd [0, 2, 4] .nil (.seq .nil (.cnd [0, 2, 4] (.seq .nil (.seq (.seq .nil (.cnd [0, 2, 4] .nil .nil)) .nil)) (.seq .nil (.cnd [0, 2, 4] .nil (.seq .nil (.cnd [0, 2, 4] .nil (.seq .nil (.cnd [0, 2, 4] .nil (.seq .nil (.cnd [0, 2, 4] .nil (.seq .nil (.cnd [0, 2, 4] .nil .nil))))))))))))))))))) .nil))))),
 (73, .seq .nil (.seq .nil (.seq .nil (.seq (.blk (.lop [0, 3] false (.seq (.seq .nil (.cnd [0, 3] .nil .nil)) .nil))) .nil)))),
 (72, .seq .nil (.seq .nil (.seq .nil (.seq .nil (.seq (.seq .nil (.cnd [0, 2, 4] (.blk (.lop [0, 2, 4] false (.blk (.seq .nil (.seq (.seq .nil (.cnd [0, 2, 4] .nil .nil)) .nil))))) .nil)) .nil))))),
 (48, .seq .nil (.seq .nil (.blk (.lop [0, 2, 3] true (.blk (.seq .nil (.blk (.seq .nil (.cnd [0, 2, 3] .nil (.seq .nil (.cnd [0, 2, 3] .nil (.seq .nil (.cnd [0, 2, 3] .nil (.seq .nil (.cnd [0, 2, 3] .nil (.seq .nil (.cnd [0, 2, 3] .nil .nil))))))))))))))))),
 (53, .seq .nil (.seq .nil (.seq (.seq .nil (.blk (.lop [3, 12, 13, 14] true (.seq .nil (.seq (.cnd [3, 12, 13, 14] .nil .nil) (.seq (.blk (.seq .nil (.seq .nil (.seq .nil (.seq .nil (.seq .nil (.seq .nil (.seq (.seq .nil (.blk (.lop [3, 5, 12, 13, 14, 63, 64, 65] true (.seq .nil (.seq (.cnd [3, 5, 12, 13, 14, 63, 64, 65] .nil .nil) .nil))))) .nil)))))))) .nil)))))) .nil))),
 (23, .seq .nil (.seq .nil (.seq (.seq .nil (.blk (.lop [1, 3, 24, 25, 26] true (.seq .nil (.seq (.cnd [1, 3, 24, 25, 26] .nil .nil) .nil))))) (.seq .nil (.seq (.seq .nil (.blk (.lop [1, 3, 46, 47, 48] true (.seq .nil (.seq (.cnd [1, 3, 46, 47, 48] .nil .nil) .nil))))) (.seq (.seq .nil (.blk (.lop [3, 67, 68, 69] true (.seq .nil (.seq (.cnd [3, 67, 68, 69] .nil .nil) .nil))))) .nil)))))),
 (25, .seq .nil (.seq .nil (.seq (.seq .nil (.blk (.lop [1, 3, 14, 15, 16] true (.seq .nil (.seq (.cnd [1, 3, 14, 15, 16] .nil .nil) .nil))))) (.seq (.seq .nil (.blk (.lop [1, 3, 33, 34, 35] true (.seq .nil (.seq (.cnd [1, 3, 33, 34, 35] .nil .nil) .nil))))) (.seq (.seq .nil (.blk (.lop [3, 56, 57, 58] true (.seq .nil (.seq (.cnd [3, 56, 57, 58] .nil .nil) .nil))))) .nil))))),
 (5, .seq .nil (.seq (.seq .nil (.cnd [0, 1, 4] .nil .nil)) (.seq (.seq .nil (.cnd [0, 1, 4] .nil .nil)) (.seq (.seq .nil (.seq .nil (.cnd [0, 1, 4] .nil .nil))) (.seq .nil (.seq (.seq .nil (.cnd [1, 4, 7] .nil .nil)) (.seq .nil (.seq .nil (.seq (.seq .nil (.blk (.lop [4, 11, 12, 13, 48, 49, 50] true (.seq .nil (.seq (.cnd [4, 11, 12, 13, 48, 49, 50] .nil .nil) (.seq (.blk (.seq .nil (.seq .nil (.seq (.seq .nil (.cnd [4, 11, 12, 13, 15, 48, 49, 50] .nil .nil)) (.seq (.seq .nil (.cnd [4, 11, 12, 13, 15, 48, 49, 50] .nil .nil)) (.seq (.seq .nil (.cnd [4, 11, 12, 13, 15, 48, 49, 50] .nil .nil)) (.seq .nil (.cnd [4, 11, 12, 13, 48, 49, 50] .nil .nil)))))))) .nil)))))) (.seq (.seq .nil (.cnd [4, 11, 13] .nil .nil)) (.seq .nil (.seq (.seq .nil (.cnd [4, 11, 17] .nil .nil)) .nil))))))))))))]
def look : List (Nat × Ann) → Nat → Ann
 | (i, x) :: l, f => bif aj i f then x else look l f
 | [], _ => .nil
def mdL : List (Nat × Md) := []
def FV : List (Nat × Md) → Nat → Md
 | (i, x) :: l, f => bif aj i f then x else FV l f
 | [], _ => ⟨[], []⟩
def glL : List (Nat × PV) := []
def FU : List (Nat × PV) → Nat → PV
 | (i, x) :: l, g => bif aj i g then x else FU l g
 | [], _ => .u
def gl : Nat → PV := FU glL
noncomputable def CZ : List (Nat × qT) := [(169, .pure (jB lQ)), (144, .pure (jB kQ)), (150, .pure (jB jg)), (31, .pure (jB AV)), (171, .pure (jB (sG 212))), (20, jS.mD)]
noncomputable def zM : List (Nat × qT) → Nat → Option qT
 | (i, x) :: l, f => bif aj i f then some x else zM l f
 | [], _ => none
noncomputable def L : Lib := ⟨Tryz.prog, look Ir, FV mdL, [74, 71, 121, 123, 122, 70, 198, 187, 173, 157, 156, 155, 73, 159, 153, 152, 154, 124, 69, 72, 48, 151, 68, 158, 80, 126, 75, 77, 76, 161, 128, 127, 78, 201, 199, 190, 174, 162, 163, 160, 79, 129, 50, 111, 65, 117, 118, 119, 66], zM CZ, gl, [74, 71, 121, 123, 122, 70, 198, 187, 173, 157, 156, 155, 73, 159, 153, 152, 154, 124, 69, 72, 48]⟩
noncomputable def Gt (call : bD) (it : bN) (a0 a1 : PV) (st : St) : Option (PV × St) :=
(gh Tryz.prog 9 a0).bind fun p1 =>
(gh Tryz.prog 9 a1).bind fun p2 =>
(aH Tryz.prog false .geq 3 p1 p2).bind fun p3 =>
(onG p3 true (
some (a0, st)) st).bind fun r5 =>
(onG p3 true (
some (a1, r5.2)) r5.2).bind fun r7 =>
(onG p3 true (
(gh Tryz.prog 9 r7.1).bind fun p10 =>
some (p10, r7.2)) r7.2).bind fun r9 =>
(onG p3 true (
(fm Tryz.prog 9 r5.1 none (some r9.1) none).bind fun p13 =>
some (p13, r9.2)) r9.2).bind fun r12 =>
(onG p3 true (
some (a1, r12.2)) r12.2).bind fun r15 =>
(onG p3 true (
(aH Tryz.prog false .eql 9 r12.1 r15.1).bind fun p18 =>
some (p18, r15.2)) r15.2).bind fun r17 =>
(bE p3 r17.1 (PV.v (.bool false))).bind fun p19 =>
fin st.stk.length st.tk.length st.lp.length [p19] r17.2
theorem Ek (a0 a1 : PV) (st : St) : E L (.func 140) [a0, a1] st = Gt (E L) itE a0 a1 st := (bL (by kernel_rfl) Tryz.func140 _ _).trans (by kernel_rfl)
noncomputable def S99 (call : bD) (it : bN) (a0 a1 : PV) (st : St) : Option (PV × St) :=
(call (.func 140) [ah a0, ah a1] st).bind fun r1 =>
fin st.stk.length st.tk.length st.lp.length [r1.1] r1.2
theorem GN (a0 a1 : PV) (st : St) : E L (.func 99) [a0, a1] st = S99 (E L) itE a0 a1 st := (bL (by kernel_rfl) Tryz.func99 _ _).trans (by kernel_rfl)
noncomputable def Gs (call : bD) (it : bN) (a0 : PV) (st : St) : Option (PV × St) :=
(aH Tryz.prog true .geq 5 a0 (PV.v (.int .u8 97))).bind fun p1 =>
(onG p1 true (
some (a0, st)) st).bind fun r3 =>
(onG p1 true (
(aH Tryz.prog true .leq 5 r3.1 (PV.v (.int .u8 122))).bind fun p6 =>
some (p6, r3.2)) r3.2).bind fun r5 =>
(bE p1 r5.1 (PV.v (.bool false))).bind fun p7 =>
(onG p7 false (
some (a0, r5.2)) r5.2).bind fun r9 =>
(onG p7 false (
(aH Tryz.prog true .geq 5 r9.1 (PV.v (.int .u8 65))).bind fun p12 =>
some (p12, r9.2)) r9.2).bind fun r11 =>
(onG p7 false (
some (r11.1, r11.2)) r11.2).bind fun r14 =>
(onG r14.1 true (
some (a0, r14.2)) r14.2).bind fun r16 =>
(onG r14.1 true (
(aH Tryz.prog true .leq 5 r16.1 (PV.v (.int .u8 90))).bind fun p19 =>
some (p19, r16.2)) r16.2).bind fun r18 =>
(onG p7 false (
(bE r14.1 r18.1 (PV.v (.bool false))).bind fun p22 =>
some (p22, r18.2)) r18.2).bind fun r21 =>
(bE p7 (PV.v (.bool true)) r21.1).bind fun p23 =>
(onG p23 false (
some (a0, r21.2)) r21.2).bind fun r25 =>
(onG p23 false (
(aH Tryz.prog true .eql 5 r25.1 (PV.v (.int .u8 95))).bind fun p28 =>
some (p28, r25.2)) r25.2).bind fun r27 =>
(bE p23 (PV.v (.bool true)) r27.1).bind fun p29 =>
fin st.stk.length st.tk.length st.lp.length [p29] r27.2
theorem Eh (a0 : PV) (st : St) : E L (.func 130) [a0] st = Gs (E L) itE a0 st := (bL (by kernel_rfl) Tryz.func130 _ _).trans (by kernel_rfl)
noncomputable def HB (call : bD) (it : bN) (a0 : PV) (st : St) : Option (PV × St) :=
(aH Tryz.prog true .geq 5 a0 (PV.v (.int .u8 48))).bind fun p1 =>
(onG p1 true (
some (a0, st)) st).bind fun r3 =>
(onG p1 true (
(aH Tryz.prog true .leq 5 r3.1 (PV.v (.int .u8 57))).bind fun p6 =>
some (p6, r3.2)) r3.2).bind fun r5 =>
(bE p1 r5.1 (PV.v (.bool false))).bind fun p7 =>
fin st.stk.length st.tk.length st.lp.length [p7] r5.2
theorem Ei (a0 : PV) (st : St) : E L (.func 131) [a0] st = HB (E L) itE a0 st := (bL (by kernel_rfl) Tryz.func131 _ _).trans (by kernel_rfl)
noncomputable def S85.b0 (call : bD) (it : bN) (base lb : Nat) (vs2 : List PV) (st3 : St) : Option (Ex × List PV × St) :=
(gh Tryz.prog 9 (ab vs2 0)).bind fun p4 =>
(aH Tryz.prog false .lss 3 (ab vs2 1) p4).bind fun p5 =>
(onG p5 true (
some ((ab vs2 0), st3)) st3).bind fun r7 =>
(onG p5 true (
some ((ab vs2 1), r7.2)) r7.2).bind fun r9 =>
(onG p5 true (
(cG Tryz.prog 9 r7.1 r9.1).bind fun p12 =>
some (p12, r9.2)) r9.2).bind fun r11 =>
(onG p5 true (
(call (.func 130) [ah r11.1] r11.2).bind fun r15 =>
some (r15.1, r15.2)) r11.2).bind fun r14 =>
(onG p5 true (
some (r14.1, r14.2)) r14.2).bind fun r17 =>
(onG r17.1 false (
some ((ab vs2 0), r17.2)) r17.2).bind fun r19 =>
(onG r17.1 false (
some ((ab vs2 1), r19.2)) r19.2).bind fun r21 =>
(onG r17.1 false (
(cG Tryz.prog 9 r19.1 r21.1).bind fun p24 =>
some (p24, r21.2)) r21.2).bind fun r23 =>
(onG r17.1 false (
(call (.func 131) [ah r23.1] r23.2).bind fun r27 =>
some (r27.1, r27.2)) r23.2).bind fun r26 =>
(onG p5 true (
(bE r17.1 (PV.v (.bool true)) r26.1).bind fun p30 =>
some (p30, r26.2)) r26.2).bind fun r29 =>
(bE p5 r29.1 (PV.v (.bool false))).bind fun p31 =>
ay p31 fun b32 => (bif b32 then
some (Ex.normal, [(ab vs2 0), (ab vs2 1)], r29.2)
else
some ((Ex.exit 0), [(ab vs2 0), (ab vs2 1)], r29.2)).bind fun r33 =>
bF r33.1 ((aH Tryz.prog true .add 3 (ab r33.2.1 1) (PV.v (.int .i64 1))).bind fun p35 =>
some (Ex.normal, [(ab r33.2.1 0), p35], r33.2.2)) fun x34 =>
some (x34, [(ab r33.2.1 0), (ab r33.2.1 1)], r33.2.2)
noncomputable def S85 (call : bD) (it : bN) (a0 a1 : PV) (st : St) : Option (PV × St) :=
(it (S85.b0 call it st.stk.length st.lp.length) [a0, a1] st).bind fun r1 =>
bF (Ex.ba 0 r1.1) (fin st.stk.length st.tk.length st.lp.length [(ab r1.2.1 1)] r1.2.2) fun x36 =>
dF x36 (fin st.stk.length st.tk.length st.lp.length [PV.u] r1.2.2)
theorem GH (a0 a1 : PV) (st : St) : E L (.func 85) [a0, a1] st = S85 (E L) itE a0 a1 st := (bL (by kernel_rfl) Tryz.func85 _ _).trans (by kernel_rfl)
noncomputable def S86.b0 (call : bD) (it : bN) (base lb : Nat) (vs2 : List PV) (st3 : St) : Option (Ex × List PV × St) :=
(gh Tryz.prog 9 (ab vs2 0)).bind fun p4 =>
(aH Tryz.prog false .lss 3 (ab vs2 4) p4).bind fun p5 =>
ay p5 fun b6 => (bif b6 then
some (Ex.normal, [(ab vs2 0), (ab vs2 1), (ab vs2 2), (ab vs2 3), (ab vs2 4)], st3)
else
some ((Ex.exit 0), [(ab vs2 0), (ab vs2 1), (ab vs2 2), (ab vs2 3), (ab vs2 4)], st3)).bind fun r7 =>
bF r7.1 ((cG Tryz.prog 9 (ab r7.2.1 0) (ab r7.2.1 4)).bind fun p9 =>
(call (.func 131) [ah p9] r7.2.2).bind fun r10 =>
ay r10.1 fun b11 => (bif b11 then
(aH Tryz.prog true .mul 34 (PV.v (.int .u64 16)) (ab r7.2.1 3)).bind fun p13 =>
(aH Tryz.prog true .sub 5 p9 (PV.v (.int .u8 48))).bind fun p14 =>
(ia Tryz.prog 5 34 p14).bind fun p15 =>
(aH Tryz.prog false .add 34 p13 p15).bind fun p16 =>
some (Ex.normal, [(ab r7.2.1 0), (ab r7.2.1 1), (ab r7.2.1 2), p16, (ab r7.2.1 4)], r10.2)
else
(aH Tryz.prog true .geq 5 p9 (PV.v (.int .u8 97))).bind fun p17 =>
(onG p17 true (
some (p9, r10.2)) r10.2).bind fun r19 =>
(onG p17 true (
(aH Tryz.prog true .leq 5 r19.1 (PV.v (.int .u8 102))).bind fun p22 =>
some (p22, r19.2)) r19.2).bind fun r21 =>
(bE p17 r21.1 (PV.v (.bool false))).bind fun p23 =>
ay p23 fun b24 => (bif b24 then
(aH Tryz.prog true .mul 34 (PV.v (.int .u64 16)) (ab r7.2.1 3)).bind fun p26 =>
(aH Tryz.prog true .sub 5 p9 (PV.v (.int .u8 97))).bind fun p27 =>
(ia Tryz.prog 5 34 p27).bind fun p28 =>
(aH Tryz.prog false .add 34 p26 p28).bind fun p29 =>
(aH Tryz.prog true .add 34 p29 (PV.v (.int .u64 10))).bind fun p30 =>
some (Ex.normal, [(ab r7.2.1 0), (ab r7.2.1 1), (ab r7.2.1 2), p30, (ab r7.2.1 4)], r21.2)
else
some (Ex.ret, [(ab r7.2.1 0), (PV.v (.int .u64 0)), (PV.v (.bool false)), (ab r7.2.1 3), (ab r7.2.1 4)], r21.2)).bind fun r25 =>
some (r25.1, [(ab r25.2.1 0), (ab r25.2.1 1), (ab r25.2.1 2), (ab r25.2.1 3), (ab r25.2.1 4)], r25.2.2)).bind fun r12 =>
bF (Ex.ba 1 r12.1) ((aH Tryz.prog true .add 3 (ab r12.2.1 4) (PV.v (.int .i64 1))).bind fun p32 =>
some (Ex.normal, [(ab r12.2.1 0), (ab r12.2.1 1), (ab r12.2.1 2), (ab r12.2.1 3), p32], r12.2.2)) fun x31 =>
some (x31, [(ab r12.2.1 0), (ab r12.2.1 1), (ab r12.2.1 2), (ab r12.2.1 3), (ab r12.2.1 4)], r12.2.2)) fun x8 =>
some (x8, [(ab r7.2.1 0), (ab r7.2.1 1), (ab r7.2.1 2), (ab r7.2.1 3), (ab r7.2.1 4)], r7.2.2)
noncomputable def S86 (call : bD) (it : bN) (a0 : PV) (st : St) : Option (PV × St) :=
(it (S86.b0 call it st.stk.length st.lp.length) [a0, (PV.v (.int .u64 0)), (PV.v (.bool false)), (PV.v (.int .u64 0)), (PV.v (.int .i64 0))] st).bind fun r1 =>
bF (Ex.ba 0 r1.1) ((gh Tryz.prog 9 (ab r1.2.1 0)).bind fun p34 =>
(aH Tryz.prog true .eql 3 p34 (PV.v (.int .i64 16))).bind fun p35 =>
fin st.stk.length st.tk.length st.lp.length [(ab r1.2.1 3), p35] r1.2.2) fun x33 =>
dF x33 (fin st.stk.length st.tk.length st.lp.length [(ab r1.2.1 1), (ab r1.2.1 2)] r1.2.2)
theorem GI (a0 : PV) (st : St) : E L (.func 86) [a0] st = S86 (E L) itE a0 st := (bL (by kernel_rfl) Tryz.func86 _ _).trans (by kernel_rfl)
noncomputable def S87.b0 (call : bD) (it : bN) (base lb : Nat) (vs4 : List PV) (st5 : St) : Option (Ex × List PV × St) :=
(aH Tryz.prog false .lss 3 (ab vs4 5) (ab vs4 4)).bind fun p6 =>
ay p6 fun b7 => (bif b7 then
some (Ex.normal, [(ab vs4 0), (ab vs4 1), (ab vs4 2), (ab vs4 3), (ab vs4 4), (ab vs4 5)], st5)
else
some ((Ex.exit 0), [(ab vs4 0), (ab vs4 1), (ab vs4 2), (ab vs4 3), (ab vs4 4), (ab vs4 5)], st5)).bind fun r8 =>
bF r8.1 ((cc Tryz.prog 60 (ab r8.2.1 3) (ab r8.2.1 5)).bind fun p10 =>
(ak false 1 p10 r8.2.2).bind fun p11 =>
(gh Tryz.prog 9 p11).bind fun p12 =>
(aH Tryz.prog false .add 3 (ab r8.2.1 1) p12).bind fun p13 =>
(gh Tryz.prog 9 (ab r8.2.1 0)).bind fun p14 =>
(aH Tryz.prog false .leq 3 p13 p14).bind fun p15 =>
(onG p15 true (
some ((ab r8.2.1 0), r8.2.2)) r8.2.2).bind fun r17 =>
(onG p15 true (
some ((ab r8.2.1 1), r17.2)) r17.2).bind fun r19 =>
(onG p15 true (
some ((ab r8.2.1 1), r19.2)) r19.2).bind fun r21 =>
(onG p15 true (
some (p11, r21.2)) r21.2).bind fun r23 =>
(onG p15 true (
(gh Tryz.prog 9 r23.1).bind fun p26 =>
some (p26, r23.2)) r23.2).bind fun r25 =>
(onG p15 true (
(aH Tryz.prog false .add 3 r21.1 r25.1).bind fun p29 =>
some (p29, r25.2)) r25.2).bind fun r28 =>
(onG p15 true (
(fm Tryz.prog 9 r17.1 (some r19.1) (some r28.1) none).bind fun p32 =>
some (p32, r28.2)) r28.2).bind fun r31 =>
(onG p15 true (
some (p11, r31.2)) r31.2).bind fun r34 =>
(onG p15 true (
(aH Tryz.prog false .eql 9 r31.1 r34.1).bind fun p37 =>
some (p37, r34.2)) r34.2).bind fun r36 =>
(bE p15 r36.1 (PV.v (.bool false))).bind fun p38 =>
ay p38 fun b39 => (bif b39 then
some (Ex.ret, [(ab r8.2.1 0), (ab r8.2.1 1), p11, (ab r8.2.1 3), (ab r8.2.1 4), (ab r8.2.1 5)], r36.2)
else
some (Ex.normal, [(ab r8.2.1 0), (ab r8.2.1 1), (ab r8.2.1 2), (ab r8.2.1 3), (ab r8.2.1 4), (ab r8.2.1 5)], r36.2)).bind fun r40 =>
bF (Ex.ba 1 r40.1) ((aH Tryz.prog true .add 3 (ab r40.2.1 5) (PV.v (.int .i64 1))).bind fun p42 =>
some (Ex.normal, [(ab r40.2.1 0), (ab r40.2.1 1), (ab r40.2.1 2), (ab r40.2.1 3), (ab r40.2.1 4), p42], r40.2.2)) fun x41 =>
some (x41, [(ab r40.2.1 0), (ab r40.2.1 1), (ab r40.2.1 2), (ab r40.2.1 3), (ab r40.2.1 4), (ab r40.2.1 5)], r40.2.2)) fun x9 =>
some (x9, [(ab r8.2.1 0), (ab r8.2.1 1), (ab r8.2.1 2), (ab r8.2.1 3), (ab r8.2.1 4), (ab r8.2.1 5)], r8.2.2)
noncomputable def S87 (call : bD) (it : bN) (a0 a1 : PV) (st : St) : Option (PV × St) :=
(aX 1 [.v (.string ⟨#[]⟩)] 20 [(0, (PV.v (.string ⟨#[61, 61]⟩))), (1, (PV.v (.string ⟨#[33, 61]⟩))), (2, (PV.v (.string ⟨#[60, 61]⟩))), (3, (PV.v (.string ⟨#[123]⟩))), (4, (PV.v (.string ⟨#[125]⟩))), (5, (PV.v (.string ⟨#[40]⟩))), (6, (PV.v (.string ⟨#[41]⟩))), (7, (PV.v (.string ⟨#[91]⟩))), (8, (PV.v (.string ⟨#[93]⟩))), (9, (PV.v (.string ⟨#[59]⟩))), (10, (PV.v (.string ⟨#[58]⟩))), (11, (PV.v (.string ⟨#[44]⟩))), (12, (PV.v (.string ⟨#[46]⟩))), (13, (PV.v (.string ⟨#[61]⟩))), (14, (PV.v (.string ⟨#[60]⟩))), (15, (PV.v (.string ⟨#[43]⟩))), (16, (PV.v (.string ⟨#[45]⟩))), (17, (PV.v (.string ⟨#[42]⟩))), (18, (PV.v (.string ⟨#[47]⟩))), (19, (PV.v (.string ⟨#[37]⟩)))]).bind fun p1 =>
(gh Tryz.prog 60 p1).bind fun p2 =>
(it (S87.b0 call it st.stk.length st.lp.length) [a0, a1, (PV.v (.string ⟨#[]⟩)), p1, p2, (PV.v (.int .i64 0))] st).bind fun r3 =>
bF (Ex.ba 0 r3.1) (fin st.stk.length st.tk.length st.lp.length [(PV.v (.string ⟨#[]⟩))] r3.2.2) fun x43 =>
dF x43 (fin st.stk.length st.tk.length st.lp.length [(ab r3.2.1 2)] r3.2.2)
theorem GJ (a0 a1 : PV) (st : St) : E L (.func 87) [a0, a1] st = S87 (E L) itE a0 a1 st := (bL (by kernel_rfl) Tryz.func87 _ _).trans (by kernel_rfl)
noncomputable def HC (call : bD) (it : bN) (st : St) : Option (PV × St) :=
(aX 1 [.v (.string ⟨#[]⟩)] 24 [(0, (PV.v (.string ⟨#[114, 101, 99, 111, 114, 100]⟩))), (1, (PV.v (.string ⟨#[103, 108, 111, 98, 97, 108]⟩))), (2, (PV.v (.string ⟨#[102, 117, 110]⟩))), (3, (PV.v (.string ⟨#[116, 104, 114, 101, 97, 100]⟩))), (4, (PV.v (.string ⟨#[108, 101, 116]⟩))), (5, (PV.v (.string ⟨#[118, 97, 114]⟩))), (6, (PV.v (.string ⟨#[115, 101, 116]⟩))), (7, (PV.v (.string ⟨#[112, 114, 105, 110, 116]⟩))), (8, (PV.v (.string ⟨#[105, 102]⟩))), (9, (PV.v (.string ⟨#[101, 108, 115, 101]⟩))), (10, (PV.v (.string ⟨#[108, 111, 111, 112]⟩))), (11, (PV.v (.string ⟨#[98, 114, 101, 97, 107]⟩))), (12, (PV.v (.string ⟨#[99, 111, 110, 116, 105, 110, 117, 101]⟩))), (13, (PV.v (.string ⟨#[97, 116, 111, 109, 105, 99]⟩))), (14, (PV.v (.string ⟨#[99, 97, 108, 108]⟩))), (15, (PV.v (.string ⟨#[108, 111, 97, 100]⟩))), (16, (PV.v (.string ⟨#[110, 101, 119]⟩))), (17, (PV.v (.string ⟨#[115, 105, 122, 101]⟩))), (18, (PV.v (.string ⟨#[105, 110, 116]⟩))), (19, (PV.v (.string ⟨#[114, 101, 97, 108]⟩))), (20, (PV.v (.string ⟨#[105, 110, 116, 115]⟩))), (21, (PV.v (.string ⟨#[110, 105, 108]⟩))), (22, (PV.v (.string ⟨#[105, 110, 112, 117, 116]⟩))), (23, (PV.v (.string ⟨#[116, 114, 117, 110, 99]⟩)))]).bind fun p1 =>
fin st.stk.length st.tk.length st.lp.length [p1] st
theorem Ej (st : St) : E L (.func 132) [] st = HC (E L) itE st := (bL (by kernel_rfl) Tryz.func132 _ _).trans (by kernel_rfl)
noncomputable def S88.b0 (call : bD) (it : bN) (base lb : Nat) (vs4 : List PV) (st5 : St) : Option (Ex × List PV × St) :=
(aH Tryz.prog false .lss 3 (ab vs4 4) (ab vs4 3)).bind fun p6 =>
ay p6 fun b7 => (bif b7 then
some (Ex.normal, [(ab vs4 0), (ab vs4 1), (ab vs4 2), (ab vs4 3), (ab vs4 4)], st5)
else
some ((Ex.exit 0), [(ab vs4 0), (ab vs4 1), (ab vs4 2), (ab vs4 3), (ab vs4 4)], st5)).bind fun r8 =>
bF r8.1 ((cc Tryz.prog 60 (ab r8.2.1 2) (ab r8.2.1 4)).bind fun p10 =>
(ak false 1 p10 r8.2.2).bind fun p11 =>
(aH Tryz.prog false .eql 9 p11 (ab r8.2.1 0)).bind fun p12 =>
ay p12 fun b13 => (bif b13 then
some (Ex.ret, [(ab r8.2.1 0), (PV.v (.bool true)), (ab r8.2.1 2), (ab r8.2.1 3), (ab r8.2.1 4)], r8.2.2)
else
some (Ex.normal, [(ab r8.2.1 0), (ab r8.2.1 1), (ab r8.2.1 2), (ab r8.2.1 3), (ab r8.2.1 4)], r8.2.2)).bind fun r14 =>
bF (Ex.ba 1 r14.1) ((aH Tryz.prog true .add 3 (ab r14.2.1 4) (PV.v (.int .i64 1))).bind fun p16 =>
some (Ex.normal, [(ab r14.2.1 0), (ab r14.2.1 1), (ab r14.2.1 2), (ab r14.2.1 3), p16], r14.2.2)) fun x15 =>
some (x15, [(ab r14.2.1 0), (ab r14.2.1 1), (ab r14.2.1 2), (ab r14.2.1 3), (ab r14.2.1 4)], r14.2.2)) fun x9 =>
some (x9, [(ab r8.2.1 0), (ab r8.2.1 1), (ab r8.2.1 2), (ab r8.2.1 3), (ab r8.2.1 4)], r8.2.2)
noncomputable def S88 (call : bD) (it : bN) (a0 : PV) (st : St) : Option (PV × St) :=
(call (.func 132) [] st).bind fun r1 =>
(gh Tryz.prog 60 r1.1).bind fun p2 =>
(it (S88.b0 call it st.stk.length st.lp.length) [a0, (PV.v (.bool false)), r1.1, p2, (PV.v (.int .i64 0))] r1.2).bind fun r3 =>
bF (Ex.ba 0 r3.1) (fin st.stk.length st.tk.length st.lp.length [(PV.v (.bool false))] r3.2.2) fun x17 =>
dF x17 (fin st.stk.length st.tk.length st.lp.length [(ab r3.2.1 1)] r3.2.2)
theorem GK (a0 : PV) (st : St) : E L (.func 88) [a0] st = S88 (E L) itE a0 st := (bL (by kernel_rfl) Tryz.func88 _ _).trans (by kernel_rfl)
noncomputable def S89.b0 (call : bD) (it : bN) (base lb : Nat) (vs24 : List PV) (st25 : St) : Option (Ex × List PV × St) :=
(gh Tryz.prog 9 (ab vs24 0)).bind fun p26 =>
(aH Tryz.prog false .lss 3 (ab vs24 2) p26).bind fun p27 =>
ay p27 fun b28 => (bif b28 then
some (Ex.normal, [(ab vs24 0), (ab vs24 1), (ab vs24 2)], st25)
else
some ((Ex.exit 0), [(ab vs24 0), (ab vs24 1), (ab vs24 2)], st25)).bind fun r29 =>
bF r29.1 ((cG Tryz.prog 9 (ab r29.2.1 0) (ab r29.2.1 2)).bind fun p31 =>
(call (.func 130) [ah p31] r29.2.2).bind fun r32 =>
(aUn Tryz.prog .not r32.1).bind fun p33 =>
(onG p33 true (
some ((ab r29.2.1 0), r32.2)) r32.2).bind fun r35 =>
(onG p33 true (
some ((ab r29.2.1 2), r35.2)) r35.2).bind fun r37 =>
(onG p33 true (
(cG Tryz.prog 9 r35.1 r37.1).bind fun p40 =>
some (p40, r37.2)) r37.2).bind fun r39 =>
(onG p33 true (
(call (.func 131) [ah r39.1] r39.2).bind fun r43 =>
some (r43.1, r43.2)) r39.2).bind fun r42 =>
(onG p33 true (
(aUn Tryz.prog .not r42.1).bind fun p46 =>
some (p46, r42.2)) r42.2).bind fun r45 =>
(bE p33 r45.1 (PV.v (.bool false))).bind fun p47 =>
ay p47 fun b48 => (bif b48 then
some (Ex.ret, [(ab r29.2.1 0), (PV.v (.bool false)), (ab r29.2.1 2)], r45.2)
else
some (Ex.normal, [(ab r29.2.1 0), (ab r29.2.1 1), (ab r29.2.1 2)], r45.2)).bind fun r49 =>
bF (Ex.ba 1 r49.1) ((aH Tryz.prog true .add 3 (ab r49.2.1 2) (PV.v (.int .i64 1))).bind fun p51 =>
some (Ex.normal, [(ab r49.2.1 0), (ab r49.2.1 1), p51], r49.2.2)) fun x50 =>
some (x50, [(ab r49.2.1 0), (ab r49.2.1 1), (ab r49.2.1 2)], r49.2.2)) fun x30 =>
some (x30, [(ab r29.2.1 0), (ab r29.2.1 1), (ab r29.2.1 2)], r29.2.2)
noncomputable def S89 (call : bD) (it : bN) (a0 : PV) (st : St) : Option (PV × St) :=
(aH Tryz.prog true .eql 9 a0 (PV.v (.string ⟨#[]⟩))).bind fun p1 =>
(onG p1 false (
some (a0, st)) st).bind fun r3 =>
(onG p1 false (
(call (.func 88) [ah r3.1] r3.2).bind fun r6 =>
some (r6.1, r6.2)) r3.2).bind fun r5 =>
(bE p1 (PV.v (.bool true)) r5.1).bind fun p7 =>
(onG p7 false (
some (a0, r5.2)) r5.2).bind fun r9 =>
(onG p7 false (
(cG Tryz.prog 9 r9.1 (PV.v (.int .i64 0))).bind fun p12 =>
some (p12, r9.2)) r9.2).bind fun r11 =>
(onG p7 false (
(call (.func 130) [ah r11.1] r11.2).bind fun r15 =>
some (r15.1, r15.2)) r11.2).bind fun r14 =>
(onG p7 false (
(aUn Tryz.prog .not r14.1).bind fun p18 =>
some (p18, r14.2)) r14.2).bind fun r17 =>
(bE p7 (PV.v (.bool true)) r17.1).bind fun p19 =>
ay p19 fun b20 => (bif b20 then
some (Ex.ret, [a0, (PV.v (.bool false))], r17.2)
else
some (Ex.normal, [a0, (PV.v (.bool false))], r17.2)).bind fun r21 =>
bF r21.1 ((it (S89.b0 call it st.stk.length st.lp.length) [(ab r21.2.1 0), (ab r21.2.1 1), (PV.v (.int .i64 0))] r21.2.2).bind fun r23 =>
bF (Ex.ba 0 r23.1) (fin st.stk.length st.tk.length st.lp.length [(PV.v (.bool true))] r23.2.2) fun x52 =>
dF x52 (fin st.stk.length st.tk.length st.lp.length [(ab r23.2.1 1)] r23.2.2)) fun x22 =>
dF x22 (fin st.stk.length st.tk.length st.lp.length [(ab r21.2.1 1)] r21.2.2)
theorem GL (a0 : PV) (st : St) : E L (.func 89) [a0] st = S89 (E L) itE a0 st := (bL (by kernel_rfl) Tryz.func89 _ _).trans (by kernel_rfl)
noncomputable def S90.b0 (call : bD) (it : bN) (base lb : Nat) (vs29 : List PV) (st30 : St) : Option (Ex × List PV × St) :=
(gh Tryz.prog 9 (ab vs29 0)).bind fun p31 =>
(aH Tryz.prog false .lss 3 (ab vs29 4) p31).bind fun p32 =>
ay p32 fun b33 => (bif b33 then
some (Ex.normal, [(ab vs29 0), (ab vs29 1), (ab vs29 2), (ab vs29 3), (ab vs29 4)], st30)
else
some ((Ex.exit 0), [(ab vs29 0), (ab vs29 1), (ab vs29 2), (ab vs29 3), (ab vs29 4)], st30)).bind fun r34 =>
bF r34.1 ((cG Tryz.prog 9 (ab r34.2.1 0) (ab r34.2.1 4)).bind fun p36 =>
(call (.func 131) [ah p36] r34.2.2).bind fun r37 =>
(aUn Tryz.prog .not r37.1).bind fun p38 =>
ay p38 fun b39 => (bif b39 then
some (Ex.ret, [(ab r34.2.1 0), (PV.v (.int .u64 0)), (PV.v (.bool false)), (ab r34.2.1 3), (ab r34.2.1 4)], r37.2)
else
some (Ex.normal, [(ab r34.2.1 0), (ab r34.2.1 1), (ab r34.2.1 2), (ab r34.2.1 3), (ab r34.2.1 4)], r37.2)).bind fun r40 =>
bF r40.1 ((aH Tryz.prog true .mul 34 (PV.v (.int .u64 10)) (ab r40.2.1 3)).bind fun p42 =>
(cG Tryz.prog 9 (ab r40.2.1 0) (ab r40.2.1 4)).bind fun p43 =>
(aH Tryz.prog true .sub 5 p43 (PV.v (.int .u8 48))).bind fun p44 =>
(ia Tryz.prog 5 34 p44).bind fun p45 =>
(aH Tryz.prog false .add 34 p42 p45).bind fun p46 =>
(aH Tryz.prog true .add 3 (ab r40.2.1 4) (PV.v (.int .i64 1))).bind fun p47 =>
some (Ex.normal, [(ab r40.2.1 0), (ab r40.2.1 1), (ab r40.2.1 2), p46, p47], r40.2.2)) fun x41 =>
bF (Ex.ba 1 x41) ((aH Tryz.prog true .add 3 (ab r40.2.1 4) (PV.v (.int .i64 1))).bind fun p49 =>
some (Ex.normal, [(ab r40.2.1 0), (ab r40.2.1 1), (ab r40.2.1 2), (ab r40.2.1 3), p49], r40.2.2)) fun x48 =>
some (x48, [(ab r40.2.1 0), (ab r40.2.1 1), (ab r40.2.1 2), (ab r40.2.1 3), (ab r40.2.1 4)], r40.2.2)) fun x35 =>
some (x35, [(ab r34.2.1 0), (ab r34.2.1 1), (ab r34.2.1 2), (ab r34.2.1 3), (ab r34.2.1 4)], r34.2.2)
noncomputable def S90 (call : bD) (it : bN) (a0 : PV) (st : St) : Option (PV × St) :=
(gh Tryz.prog 9 a0).bind fun p1 =>
(aH Tryz.prog true .gtr 3 p1 (PV.v (.int .i64 19))).bind fun p2 =>
(onG p2 false (
some (a0, st)) st).bind fun r4 =>
(onG p2 false (
(gh Tryz.prog 9 r4.1).bind fun p7 =>
some (p7, r4.2)) r4.2).bind fun r6 =>
(onG p2 false (
(aH Tryz.prog true .gtr 3 r6.1 (PV.v (.int .i64 1))).bind fun p10 =>
some (p10, r6.2)) r6.2).bind fun r9 =>
(onG p2 false (
some (r9.1, r9.2)) r9.2).bind fun r12 =>
(onG r12.1 true (
some (a0, r12.2)) r12.2).bind fun r14 =>
(onG r12.1 true (
(cG Tryz.prog 9 r14.1 (PV.v (.int .i64 0))).bind fun p17 =>
some (p17, r14.2)) r14.2).bind fun r16 =>
(onG r12.1 true (
(aH Tryz.prog true .eql 5 r16.1 (PV.v (.int .u8 48))).bind fun p20 =>
some (p20, r16.2)) r16.2).bind fun r19 =>
(onG p2 false (
(bE r12.1 r19.1 (PV.v (.bool false))).bind fun p23 =>
some (p23, r19.2)) r19.2).bind fun r22 =>
(bE p2 (PV.v (.bool true)) r22.1).bind fun p24 =>
ay p24 fun b25 => (bif b25 then
some (Ex.ret, [a0, (PV.v (.int .u64 0)), (PV.v (.bool false))], r22.2)
else
some (Ex.normal, [a0, (PV.v (.int .u64 0)), (PV.v (.bool false))], r22.2)).bind fun r26 =>
bF r26.1 ((it (S90.b0 call it st.stk.length st.lp.length) [(ab r26.2.1 0), (ab r26.2.1 1), (ab r26.2.1 2), (PV.v (.int .u64 0)), (PV.v (.int .i64 0))] r26.2.2).bind fun r28 =>
bF (Ex.ba 0 r28.1) ((aH Tryz.prog true .lss 34 (ab r28.2.1 3) (PV.v (.int .u64 9223372036854775808))).bind fun p51 =>
fin st.stk.length st.tk.length st.lp.length [(ab r28.2.1 3), p51] r28.2.2) fun x50 =>
dF x50 (fin st.stk.length st.tk.length st.lp.length [(ab r28.2.1 1), (ab r28.2.1 2)] r28.2.2)) fun x27 =>
dF x27 (fin st.stk.length st.tk.length st.lp.length [(ab r26.2.1 1), (ab r26.2.1 2)] r26.2.2)
theorem GM (a0 : PV) (st : St) : E L (.func 90) [a0] st = S90 (E L) itE a0 st := (bL (by kernel_rfl) Tryz.func90 _ _).trans (by kernel_rfl)
noncomputable def S56 (call : bD) (it : bN) (a0 a1 : PV) (st : St) : Option (PV × St) :=
let q2 : PV := .ptr false st.stk.length 0
let st1 := st.push [.v (.int .i64 0), .v (.string ⟨#[]⟩), .v (.int .u64 0), .v (.int .i64 0), .v (.int .i64 0)]
(cG Tryz.prog 9 a0 a1).bind fun p3 =>
(aH Tryz.prog true .eql 5 p3 (PV.v (.int .u8 35))).bind fun p4 =>
ay p4 fun b5 => (bif b5 then
(aH Tryz.prog true .add 3 a1 (PV.v (.int .i64 1))).bind fun p7 =>
(call (.func 85) [ah a0, ah p7] st1).bind fun r8 =>
(aH Tryz.prog true .add 3 a1 (PV.v (.int .i64 1))).bind fun p9 =>
(fm Tryz.prog 9 a0 (some p9) (some r8.1) none).bind fun p10 =>
(call (.func 86) [ah p10] r8.2).bind fun r11 =>
(aQ r11.1 0).bind fun p12 =>
(aQ r11.1 1).bind fun p13 =>
(aUn Tryz.prog .not p13).bind fun p14 =>
ay p14 fun b15 => (bif b15 then
(aW [(0, 1), (1, 1), (2, 1), (3, 1), (4, 1)] [.v (.int .i64 0), .v (.string ⟨#[]⟩), .v (.int .u64 0), .v (.int .i64 0), .v (.int .i64 0)] []).bind fun p17 =>
(aq st.stk.length 5 q2 p17 r11.2).bind fun st18 =>
some (Ex.ret, [a0, a1, q2, a1, r8.1, p12], st18)
else
some (Ex.normal, [a0, a1, q2, (PV.v (.int .i64 0)), r8.1, p12], r11.2)).bind fun r16 =>
bF r16.1 ((fm Tryz.prog 9 (ab r16.2.1 0) (some (ab r16.2.1 1)) (some (ab r16.2.1 4)) none).bind fun p20 =>
(aW [(0, 1), (1, 1), (2, 1), (3, 1), (4, 1)] [.v (.int .i64 0), .v (.string ⟨#[]⟩), .v (.int .u64 0), .v (.int .i64 0), .v (.int .i64 0)] [(0, (PV.v (.int .i64 4))), (1, p20), (2, (ab r16.2.1 5))]).bind fun p21 =>
(aq st.stk.length 5 (ab r16.2.1 2) p21 r16.2.2).bind fun st22 =>
some (Ex.ret, [(ab r16.2.1 0), (ab r16.2.1 1), (ab r16.2.1 2), (ab r16.2.1 4)], st22)) fun x19 =>
some (x19, [(ab r16.2.1 0), (ab r16.2.1 1), (ab r16.2.1 2), (ab r16.2.1 3)], r16.2.2)
else
some (Ex.normal, [a0, a1, q2, (PV.v (.int .i64 0))], st1)).bind fun r6 =>
bF r6.1 ((call (.func 85) [ah (ab r6.2.1 0), ah (ab r6.2.1 1)] r6.2.2).bind fun r24 =>
(aH Tryz.prog false .eql 3 r24.1 (ab r6.2.1 1)).bind fun p25 =>
ay p25 fun b26 => (bif b26 then
(call (.func 87) [ah (ab r6.2.1 0), ah (ab r6.2.1 1)] r24.2).bind fun r28 =>
(aH Tryz.prog true .eql 9 r28.1 (PV.v (.string ⟨#[]⟩))).bind fun p29 =>
ay p29 fun b30 => (bif b30 then
(aW [(0, 1), (1, 1), (2, 1), (3, 1), (4, 1)] [.v (.int .i64 0), .v (.string ⟨#[]⟩), .v (.int .u64 0), .v (.int .i64 0), .v (.int .i64 0)] []).bind fun p32 =>
(aq st.stk.length 5 (ab r6.2.1 2) p32 r28.2).bind fun st33 =>
some (Ex.ret, [(ab r6.2.1 0), (ab r6.2.1 1), (ab r6.2.1 2), (ab r6.2.1 1), r24.1, r28.1], st33)
else
some (Ex.normal, [(ab r6.2.1 0), (ab r6.2.1 1), (ab r6.2.1 2), (ab r6.2.1 3), r24.1, r28.1], r28.2)).bind fun r31 =>
bF r31.1 ((aW [(0, 1), (1, 1), (2, 1), (3, 1), (4, 1)] [.v (.int .i64 0), .v (.string ⟨#[]⟩), .v (.int .u64 0), .v (.int .i64 0), .v (.int .i64 0)] [(0, (PV.v (.int .i64 5))), (1, (ab r31.2.1 5))]).bind fun p35 =>
(gh Tryz.prog 9 (ab r31.2.1 5)).bind fun p36 =>
(aH Tryz.prog false .add 3 (ab r31.2.1 1) p36).bind fun p37 =>
(aq st.stk.length 5 (ab r31.2.1 2) p35 r31.2.2).bind fun st38 =>
some (Ex.ret, [(ab r31.2.1 0), (ab r31.2.1 1), (ab r31.2.1 2), p37, (ab r31.2.1 4)], st38)) fun x34 =>
some (x34, [(ab r31.2.1 0), (ab r31.2.1 1), (ab r31.2.1 2), (ab r31.2.1 3), (ab r31.2.1 4)], r31.2.2)
else
some (Ex.normal, [(ab r6.2.1 0), (ab r6.2.1 1), (ab r6.2.1 2), (ab r6.2.1 3), r24.1], r24.2)).bind fun r27 =>
bF r27.1 ((fm Tryz.prog 9 (ab r27.2.1 0) (some (ab r27.2.1 1)) (some (ab r27.2.1 4)) none).bind fun p40 =>
(call (.func 88) [ah p40] r27.2.2).bind fun r41 =>
ay r41.1 fun b42 => (bif b42 then
(aW [(0, 1), (1, 1), (2, 1), (3, 1), (4, 1)] [.v (.int .i64 0), .v (.string ⟨#[]⟩), .v (.int .u64 0), .v (.int .i64 0), .v (.int .i64 0)] [(0, (PV.v (.int .i64 2))), (1, p40)]).bind fun p44 =>
(aq st.stk.length 5 (ab r27.2.1 2) p44 r41.2).bind fun st45 =>
some (Ex.ret, [(ab r27.2.1 1), (ab r27.2.1 2), (ab r27.2.1 4), (ab r27.2.1 4), p40], st45)
else
some (Ex.normal, [(ab r27.2.1 1), (ab r27.2.1 2), (ab r27.2.1 3), (ab r27.2.1 4), p40], r41.2)).bind fun r43 =>
bF r43.1 ((call (.func 89) [ah (ab r43.2.1 4)] r43.2.2).bind fun r47 =>
ay r47.1 fun b48 => (bif b48 then
(aW [(0, 1), (1, 1), (2, 1), (3, 1), (4, 1)] [.v (.int .i64 0), .v (.string ⟨#[]⟩), .v (.int .u64 0), .v (.int .i64 0), .v (.int .i64 0)] [(0, (PV.v (.int .i64 1))), (1, (ab r43.2.1 4))]).bind fun p50 =>
(aq st.stk.length 5 (ab r43.2.1 1) p50 r47.2).bind fun st51 =>
some (Ex.ret, [(ab r43.2.1 0), (ab r43.2.1 1), (ab r43.2.1 3), (ab r43.2.1 3), (ab r43.2.1 4)], st51)
else
some (Ex.normal, [(ab r43.2.1 0), (ab r43.2.1 1), (ab r43.2.1 2), (ab r43.2.1 3), (ab r43.2.1 4)], r47.2)).bind fun r49 =>
bF r49.1 ((call (.func 90) [ah (ab r49.2.1 4)] r49.2.2).bind fun r53 =>
(aQ r53.1 0).bind fun p54 =>
(aQ r53.1 1).bind fun p55 =>
(aUn Tryz.prog .not p55).bind fun p56 =>
ay p56 fun b57 => (bif b57 then
(aW [(0, 1), (1, 1), (2, 1), (3, 1), (4, 1)] [.v (.int .i64 0), .v (.string ⟨#[]⟩), .v (.int .u64 0), .v (.int .i64 0), .v (.int .i64 0)] []).bind fun p59 =>
(aq st.stk.length 5 (ab r49.2.1 1) p59 r53.2).bind fun st60 =>
some (Ex.ret, [(ab r49.2.1 1), (ab r49.2.1 0), (ab r49.2.1 3), (ab r49.2.1 4), p54], st60)
else
some (Ex.normal, [(ab r49.2.1 1), (ab r49.2.1 2), (ab r49.2.1 3), (ab r49.2.1 4), p54], r53.2)).bind fun r58 =>
bF r58.1 ((aW [(0, 1), (1, 1), (2, 1), (3, 1), (4, 1)] [.v (.int .i64 0), .v (.string ⟨#[]⟩), .v (.int .u64 0), .v (.int .i64 0), .v (.int .i64 0)] [(0, (PV.v (.int .i64 3))), (1, (ab r58.2.1 3)), (2, (ab r58.2.1 4))]).bind fun p62 =>
(aq st.stk.length 5 (ab r58.2.1 0) p62 r58.2.2).bind fun st63 =>
(ak true 5 (ab r58.2.1 0) st63).bind fun p64 =>
fin st.stk.length st.tk.length st.lp.length [p64, (ab r58.2.1 2)] st63) fun x61 =>
dF x61 ((ak true 5 (ab r58.2.1 0) r58.2.2).bind fun p65 =>
fin st.stk.length st.tk.length st.lp.length [p65, (ab r58.2.1 1)] r58.2.2)) fun x52 =>
dF x52 ((ak true 5 (ab r49.2.1 1) r49.2.2).bind fun p66 =>
fin st.stk.length st.tk.length st.lp.length [p66, (ab r49.2.1 2)] r49.2.2)) fun x46 =>
dF x46 ((ak true 5 (ab r43.2.1 1) r43.2.2).bind fun p67 =>
fin st.stk.length st.tk.length st.lp.length [p67, (ab r43.2.1 2)] r43.2.2)) fun x39 =>
dF x39 ((ak true 5 (ab r27.2.1 2) r27.2.2).bind fun p68 =>
fin st.stk.length st.tk.length st.lp.length [p68, (ab r27.2.1 3)] r27.2.2)) fun x23 =>
dF x23 ((ak true 5 (ab r6.2.1 2) r6.2.2).bind fun p69 =>
fin st.stk.length st.tk.length st.lp.length [p69, (ab r6.2.1 3)] r6.2.2)
theorem GA (a0 a1 : PV) (st : St) : E L (.func 56) [a0, a1] st = S56 (E L) itE a0 a1 st := (bL (by kernel_rfl) Tryz.func56 _ _).trans (by kernel_rfl)
noncomputable def S26.b1 (call : bD) (it : bN) (base lb : Nat) (vs69 : List PV) (st70 : St) : Option (Ex × List PV × St) :=
(gh Tryz.prog 9 (ab vs69 0)).bind fun p71 =>
(aH Tryz.prog false .lss 3 (ab vs69 10) p71).bind fun p72 =>
(onG p72 true (
some ((ab vs69 0), st70)) st70).bind fun r74 =>
(onG p72 true (
some ((ab vs69 10), r74.2)) r74.2).bind fun r76 =>
(onG p72 true (
(cG Tryz.prog 9 r74.1 r76.1).bind fun p79 =>
some (p79, r76.2)) r76.2).bind fun r78 =>
(onG p72 true (
(aH Tryz.prog true .neq 5 r78.1 (PV.v (.int .u8 10))).bind fun p82 =>
some (p82, r78.2)) r78.2).bind fun r81 =>
(bE p72 r81.1 (PV.v (.bool false))).bind fun p83 =>
ay p83 fun b84 => (bif b84 then
some (Ex.normal, [(ab vs69 0), (ab vs69 1), (ab vs69 2), (ab vs69 3), (ab vs69 4), (ab vs69 5), (ab vs69 6), (ab vs69 7), (ab vs69 8), (ab vs69 9), (ab vs69 10)], r81.2)
else
some ((Ex.exit 2), [(ab vs69 0), (ab vs69 1), (ab vs69 2), (ab vs69 3), (ab vs69 4), (ab vs69 5), (ab vs69 6), (ab vs69 7), (ab vs69 8), (ab vs69 9), (ab vs69 10)], r81.2)).bind fun r85 =>
bF r85.1 ((aH Tryz.prog true .add 3 (ab r85.2.1 10) (PV.v (.int .i64 1))).bind fun p87 =>
some (Ex.normal, [(ab r85.2.1 0), (ab r85.2.1 1), (ab r85.2.1 2), (ab r85.2.1 3), (ab r85.2.1 4), (ab r85.2.1 5), (ab r85.2.1 6), (ab r85.2.1 7), (ab r85.2.1 8), (ab r85.2.1 9), p87], r85.2.2)) fun x86 =>
some (x86, [(ab r85.2.1 0), (ab r85.2.1 1), (ab r85.2.1 2), (ab r85.2.1 3), (ab r85.2.1 4), (ab r85.2.1 5), (ab r85.2.1 6), (ab r85.2.1 7), (ab r85.2.1 8), (ab r85.2.1 9), (ab r85.2.1 10)], r85.2.2)
noncomputable def S26.b0 (call : bD) (it : bN) (base lb : Nat) (vs7 : List PV) (st8 : St) : Option (Ex × List PV × St) :=
(gh Tryz.prog 9 (ab vs7 0)).bind fun p9 =>
(aH Tryz.prog false .lss 3 (ab vs7 8) p9).bind fun p10 =>
ay p10 fun b11 => (bif b11 then
some (Ex.normal, [(ab vs7 0), (ab vs7 1), (ab vs7 2), (ab vs7 3), (ab vs7 4), (ab vs7 5), (ab vs7 6), (ab vs7 7), (ab vs7 8)], st8)
else
some ((Ex.exit 0), [(ab vs7 0), (ab vs7 1), (ab vs7 2), (ab vs7 3), (ab vs7 4), (ab vs7 5), (ab vs7 6), (ab vs7 7), (ab vs7 8)], st8)).bind fun r12 =>
bF r12.1 ((cG Tryz.prog 9 (ab r12.2.1 0) (ab r12.2.1 8)).bind fun p14 =>
(aH Tryz.prog true .eql 5 p14 (PV.v (.int .u8 32))).bind fun p15 =>
(onG p15 false (
some (p14, r12.2.2)) r12.2.2).bind fun r17 =>
(onG p15 false (
(aH Tryz.prog true .eql 5 r17.1 (PV.v (.int .u8 9))).bind fun p20 =>
some (p20, r17.2)) r17.2).bind fun r19 =>
(bE p15 (PV.v (.bool true)) r19.1).bind fun p21 =>
(onG p21 false (
some (p14, r19.2)) r19.2).bind fun r23 =>
(onG p21 false (
(aH Tryz.prog true .eql 5 r23.1 (PV.v (.int .u8 10))).bind fun p26 =>
some (p26, r23.2)) r23.2).bind fun r25 =>
(bE p21 (PV.v (.bool true)) r25.1).bind fun p27 =>
(onG p27 false (
some (p14, r25.2)) r25.2).bind fun r29 =>
(onG p27 false (
(aH Tryz.prog true .eql 5 r29.1 (PV.v (.int .u8 13))).bind fun p32 =>
some (p32, r29.2)) r29.2).bind fun r31 =>
(bE p27 (PV.v (.bool true)) r31.1).bind fun p33 =>
ay p33 fun b34 => (bif b34 then
(aH Tryz.prog true .add 3 (ab r12.2.1 8) (PV.v (.int .i64 1))).bind fun p36 =>
some (Ex.normal, [(ab r12.2.1 0), (ab r12.2.1 1), (ab r12.2.1 2), (ab r12.2.1 3), (ab r12.2.1 4), (ab r12.2.1 5), (ab r12.2.1 6), (ab r12.2.1 7), (ab r12.2.1 8), p14, p36], r31.2)
else
(aH Tryz.prog true .eql 5 p14 (PV.v (.int .u8 47))).bind fun p37 =>
(onG p37 true (
some ((ab r12.2.1 8), r31.2)) r31.2).bind fun r39 =>
(onG p37 true (
(aH Tryz.prog true .add 3 r39.1 (PV.v (.int .i64 1))).bind fun p42 =>
some (p42, r39.2)) r39.2).bind fun r41 =>
(onG p37 true (
some ((ab r12.2.1 0), r41.2)) r41.2).bind fun r44 =>
(onG p37 true (
(gh Tryz.prog 9 r44.1).bind fun p47 =>
some (p47, r44.2)) r44.2).bind fun r46 =>
(onG p37 true (
(aH Tryz.prog false .lss 3 r41.1 r46.1).bind fun p50 =>
some (p50, r46.2)) r46.2).bind fun r49 =>
(bE p37 r49.1 (PV.v (.bool false))).bind fun p51 =>
(onG p51 true (
some ((ab r12.2.1 0), r49.2)) r49.2).bind fun r53 =>
(onG p51 true (
some ((ab r12.2.1 8), r53.2)) r53.2).bind fun r55 =>
(onG p51 true (
(aH Tryz.prog true .add 3 r55.1 (PV.v (.int .i64 1))).bind fun p58 =>
some (p58, r55.2)) r55.2).bind fun r57 =>
(onG p51 true (
(cG Tryz.prog 9 r53.1 r57.1).bind fun p61 =>
some (p61, r57.2)) r57.2).bind fun r60 =>
(onG p51 true (
(aH Tryz.prog true .eql 5 r60.1 (PV.v (.int .u8 47))).bind fun p64 =>
some (p64, r60.2)) r60.2).bind fun r63 =>
(bE p51 r63.1 (PV.v (.bool false))).bind fun p65 =>
ay p65 fun b66 => (bif b66 then
(it (S26.b1 call it base lb) [(ab r12.2.1 0), (ab r12.2.1 1), (ab r12.2.1 2), (ab r12.2.1 3), (ab r12.2.1 4), (ab r12.2.1 5), (ab r12.2.1 6), (ab r12.2.1 7), (ab r12.2.1 8), p14, (ab r12.2.1 8)] r63.2).bind fun r68 =>
some ((Ex.ba 2 r68.1), [(ab r68.2.1 0), (ab r68.2.1 1), (ab r68.2.1 2), (ab r68.2.1 3), (ab r68.2.1 4), (ab r68.2.1 5), (ab r68.2.1 6), (ab r68.2.1 7), (ab r68.2.1 8), (ab r68.2.1 9), (ab r68.2.1 10)], r68.2.2)
else
(call (.func 56) [ah (ab r12.2.1 0), ah (ab r12.2.1 8)] r63.2).bind fun r88 =>
(aQ r88.1 0).bind fun p89 =>
(aQ r88.1 1).bind fun p90 =>
let q92 : PV := .ptr false r88.2.stk.length 0
let st91 := r88.2.push [.v (.int .i64 0), .v (.string ⟨#[]⟩), .v (.int .u64 0), .v (.int .i64 0), .v (.int .i64 0)]
(aq base 5 q92 p89 st91).bind fun st93 =>
(ao q92 0).bind fun p94 =>
(ak false 1 p94 st93).bind fun p95 =>
(aH Tryz.prog true .eql 3 p95 (PV.v (.int .i64 0))).bind fun p96 =>
ay p96 fun b97 => (bif b97 then
some (Ex.ret, [(ab r12.2.1 0), (PV.sl [] .nil), (PV.v (.int .i64 3)), (ab r12.2.1 6), (ab r12.2.1 7), (ab r12.2.1 5), (ab r12.2.1 6), (ab r12.2.1 7), (ab r12.2.1 8), p14, (ab r12.2.1 8), q92, p90], st93)
else
some (Ex.normal, [(ab r12.2.1 0), (ab r12.2.1 1), (ab r12.2.1 2), (ab r12.2.1 3), (ab r12.2.1 4), (ab r12.2.1 5), (ab r12.2.1 6), (ab r12.2.1 7), (ab r12.2.1 8), p14, (ab r12.2.1 8), q92, p90], st93)).bind fun r98 =>
bF r98.1 ((ao (ab r98.2.1 11) 3).bind fun p100 =>
(aq base 1 p100 (ab r98.2.1 6) r98.2.2).bind fun st101 =>
(ao (ab r98.2.1 11) 4).bind fun p102 =>
(aq base 1 p102 (ab r98.2.1 7) st101).bind fun st103 =>
(ak true 5 (ab r98.2.1 11) st103).bind fun p104 =>
(aX 5 [.v (.int .i64 0), .v (.string ⟨#[]⟩), .v (.int .u64 0), .v (.int .i64 0), .v (.int .i64 0)] 1 [(0, p104)]).bind fun p105 =>
(cm st103 p105).bind fun ys106 =>
(dv base [.v (.int .i64 0), .v (.string ⟨#[]⟩), .v (.int .u64 0), .v (.int .i64 0), .v (.int .i64 0)] 5 48 (ab r98.2.1 5) ys106 st103).bind fun r107 =>
some (Ex.normal, [(ab r98.2.1 0), (ab r98.2.1 1), (ab r98.2.1 2), (ab r98.2.1 3), (ab r98.2.1 4), r107.1, (ab r98.2.1 6), (ab r98.2.1 7), (ab r98.2.1 8), (ab r98.2.1 9), (ab r98.2.1 12)], r107.2)) fun x99 =>
some (x99, [(ab r98.2.1 0), (ab r98.2.1 1), (ab r98.2.1 2), (ab r98.2.1 3), (ab r98.2.1 4), (ab r98.2.1 5), (ab r98.2.1 6), (ab r98.2.1 7), (ab r98.2.1 8), (ab r98.2.1 9), (ab r98.2.1 10)], r98.2.2)).bind fun r67 =>
some (r67.1, [(ab r67.2.1 0), (ab r67.2.1 1), (ab r67.2.1 2), (ab r67.2.1 3), (ab r67.2.1 4), (ab r67.2.1 5), (ab r67.2.1 6), (ab r67.2.1 7), (ab r67.2.1 8), (ab r67.2.1 9), (ab r67.2.1 10)], r67.2.2)).bind fun r35 =>
bF r35.1 ((aH Tryz.prog false .add 3 (ab r35.2.1 7) (ab r35.2.1 10)).bind fun p109 =>
(aH Tryz.prog false .sub 3 p109 (ab r35.2.1 8)).bind fun p110 =>
(aH Tryz.prog true .eql 5 (ab r35.2.1 9) (PV.v (.int .u8 10))).bind fun p111 =>
ay p111 fun b112 => (bif b112 then
(aH Tryz.prog true .add 3 (ab r35.2.1 6) (PV.v (.int .i64 1))).bind fun p114 =>
some (Ex.normal, [(ab r35.2.1 0), (ab r35.2.1 1), (ab r35.2.1 2), (ab r35.2.1 3), (ab r35.2.1 4), (ab r35.2.1 5), p114, (PV.v (.int .i64 1)), (ab r35.2.1 10)], r35.2.2)
else
some (Ex.normal, [(ab r35.2.1 0), (ab r35.2.1 1), (ab r35.2.1 2), (ab r35.2.1 3), (ab r35.2.1 4), (ab r35.2.1 5), (ab r35.2.1 6), p110, (ab r35.2.1 10)], r35.2.2)).bind fun r113 =>
bF r113.1 (eN base lb st8.stk.length Ex.normal [(ab r113.2.1 0), (ab r113.2.1 1), (ab r113.2.1 2), (ab r113.2.1 3), (ab r113.2.1 4), (ab r113.2.1 5), (ab r113.2.1 6), (ab r113.2.1 7), (ab r113.2.1 8)] r113.2.2) fun x115 =>
eN base lb st8.stk.length (Ex.ba 1 x115) [(ab r113.2.1 0), (ab r113.2.1 1), (ab r113.2.1 2), (ab r113.2.1 3), (ab r113.2.1 4), (ab r113.2.1 5), (ab r113.2.1 6), (ab r113.2.1 7), PV.u] r113.2.2) fun x108 =>
eN base lb st8.stk.length (Ex.ba 1 x108) [(ab r35.2.1 0), (ab r35.2.1 1), (ab r35.2.1 2), (ab r35.2.1 3), (ab r35.2.1 4), (ab r35.2.1 5), (ab r35.2.1 6), (ab r35.2.1 7), (ab r35.2.1 8)] r35.2.2) fun x13 =>
eN base lb st8.stk.length x13 [(ab r12.2.1 0), (ab r12.2.1 1), (ab r12.2.1 2), (ab r12.2.1 3), (ab r12.2.1 4), (ab r12.2.1 5), (ab r12.2.1 6), (ab r12.2.1 7), (ab r12.2.1 8)] r12.2.2
noncomputable def S26 (call : bD) (it : bN) (a0 : PV) (st : St) : Option (PV × St) :=
(gh Tryz.prog 9 a0).bind fun p1 =>
(aH Tryz.prog true .gtr 3 p1 (PV.v (.int .i64 8192))).bind fun p2 =>
ay p2 fun b3 => (bif b3 then
some (Ex.ret, [a0, (PV.sl [] .nil), (PV.v (.int .i64 10)), (PV.v (.int .i64 1)), (PV.v (.int .i64 1))], st)
else
some (Ex.normal, [a0, (PV.sl [] .nil), (PV.v (.int .i64 0)), (PV.v (.int .i64 0)), (PV.v (.int .i64 0))], st)).bind fun r4 =>
bF r4.1 ((it (S26.b0 call it st.stk.length st.lp.length) [(ab r4.2.1 0), (ab r4.2.1 1), (ab r4.2.1 2), (ab r4.2.1 3), (ab r4.2.1 4), (PV.sl [] .nil), (PV.v (.int .i64 1)), (PV.v (.int .i64 1)), (PV.v (.int .i64 0))] r4.2.2).bind fun r6 =>
bF (Ex.ba 0 r6.1) ((aW [(0, 1), (1, 1), (2, 1), (3, 1), (4, 1)] [.v (.int .i64 0), .v (.string ⟨#[]⟩), .v (.int .u64 0), .v (.int .i64 0), .v (.int .i64 0)] [(3, (ab r6.2.1 6)), (4, (ab r6.2.1 7))]).bind fun p117 =>
(aX 5 [.v (.int .i64 0), .v (.string ⟨#[]⟩), .v (.int .u64 0), .v (.int .i64 0), .v (.int .i64 0)] 1 [(0, p117)]).bind fun p118 =>
(cm r6.2.2 p118).bind fun ys119 =>
(dv st.stk.length [.v (.int .i64 0), .v (.string ⟨#[]⟩), .v (.int .u64 0), .v (.int .i64 0), .v (.int .i64 0)] 5 48 (ab r6.2.1 5) ys119 r6.2.2).bind fun r120 =>
fin st.stk.length st.tk.length st.lp.length [r120.1, (PV.v (.int .i64 0)), (PV.v (.int .i64 0)), (PV.v (.int .i64 0))] r120.2) fun x116 =>
dF x116 (fin st.stk.length st.tk.length st.lp.length [(ab r6.2.1 1), (ab r6.2.1 2), (ab r6.2.1 3), (ab r6.2.1 4)] r6.2.2)) fun x5 =>
dF x5 (fin st.stk.length st.tk.length st.lp.length [(ab r4.2.1 1), (ab r4.2.1 2), (ab r4.2.1 3), (ab r4.2.1 4)] r4.2.2)
theorem Gy (a0 : PV) (st : St) : E L (.func 26) [a0] st = S26 (E L) itE a0 st := (bL (by kernel_rfl) Tryz.func26 _ _).trans (by kernel_rfl)
end Go.Proofs.YtlhlijaondmccaaGreatDoor.S
