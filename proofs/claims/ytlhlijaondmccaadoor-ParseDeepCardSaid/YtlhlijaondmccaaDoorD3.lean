/- Part 3 of the proof of a law of the parser, its names made short by a program. No condition. -/
import Derived.Test.YtlhlijaondmccaaDoorD2
import Derived.RangeFuncLeaves
import GoSem.ClaimWide
import Derived.IntWalk
import Derived.RecoverIn
import Derived.Lib.IndexMore
import Derived.Lib.IndexAny
import Derived.Lib.ItoaNum
import Derived.Lib.Bytealg
import Derived.Test.YtlhlijaondmccaaDoorProg
import Derived.KernelRfl
set_option linter.all false
set_option maxRecDepth 100000
set_option maxHeartbeats 4000000
open _root_.Array renaming getD_eq_getD_getElem? → aH, getElem?_eq_getElem → aU, getElem?_setIfInBounds_ne → dR
open _root_.Bool renaming and_eq_true → an, and_self → bn, and_true → bI, false_eq_true → ab, not_false → aY
open _root_.List renaming all_cons → bB, all_eq_true → dD, drop_zero → bg, getElem?_append → fb, getElem?_cons_succ → ay, getElem?_cons_zero → aC, getElem?_drop → gD, getElem?_eq_getElem → dC, getElem?_take → fc, length_append → bh, length_cons → ak, map_cons → bq, mem_cons_of_mem → cn, mem_cons_self → bK, mem_of_getElem? → dS
open _root_.Nat renaming add_zero → bx, beq → ai, ble → di, blt → fC, eq_of_beq_eq_true → ao, le_of_ble_eq_true → dP, le_refl → aq, zero_le → dh
open _root_.Option renaming bind_some → ag, map_some → aO
open _root_.Or renaming inl → cH, inr → cD
namespace Go.AM
open Go Go.RowKit
section
variable {Cf : Cfg} {lo : Nat} {w : World} {C : Ctx} {st : St} {bs : List (Nat × Nat × Nat)}
theorem zW {agg : Bool} {size : Nat} {x : Value} {p r : PV} (h : al agg size p st = some r) (hx : Rep w C x p) : ∃ ad, x = .pointer (some ad) := by
 unfold al at h; split at h
 · cases hx with | ptr _ => exact ⟨_, rfl⟩
 · cases hx with | fp _ _ _ _ _ => exact ⟨_, rfl⟩
 · cases h
def vV (tmps : Array Value) : ResultVar → Sem Value
 | .tmp t => pure (tmps.getD t undef)
 | .cell a t => do loadVar t (← asAddr (tmps.getD a undef))
theorem lq {R : Type} {a : Act} {e : Env} (H : Sim w C st bs) (hE : ∀ i, Rep w C (a.tmps.getD i undef) (e i)) {r : R} : ∀ (rs : List ResultVar) (K : List PV → Option R), fi Cf rs e st K = some r →
 ∃ ps vs, K ps = some r ∧ (rs.mapM (vV a.tmps)).run Cf.P w = .ok vs w ∧ vs.length = ps.length ∧ ∀ (i : Nat) (x : Value) (p : PV), vs[i]? = some x → ps[i]? = some p → Rep w C x p
 | [], K, h => ⟨[], [], h, by simp, rfl, by simp⟩
 | .tmp t :: rs, K, h => by
  obtain ⟨ps, vs, h1, h2, h3, h4⟩ := lq H hE rs _ h; refine ⟨e t :: ps, a.tmps.getD t undef :: vs, h1, by simp [List.mapM_cons, vV, h2], by simp [h3], fun i x p hx hp => ?_⟩
  cases i with
  | zero => simp at hx hp; subst hx; subst hp; have := hE t; rw [aH] at this; exact this
  | succ i => simp at hx hp; exact h4 i x p hx hp
 | .cell ad t :: rs, K, h => by
  simp only [fi] at h; split at h
  · rename_i d hu
    obtain ⟨p, hp, h⟩ := Option.bind_eq_some_iff.1 h; obtain ⟨ps, vs, h1, h2, h3, h4⟩ := lq H hE rs _ h; obtain ⟨v, hv, hr⟩ := rj H ⟨d, hu⟩ hp (hE ad); obtain ⟨q, hq⟩ := zW hp (hE ad)
    have hrun : (vV a.tmps (.cell ad t)).run Cf.P w = .ok v w := by
     simp only [vV, hq]; rw [hq] at hv; simpa [Instr.loadAt, Instr.sureAddr, asAddr] using hv
    refine ⟨p :: ps, v :: vs, h1, by simp [List.mapM_cons, hrun, h2], by simp [h3], fun i x p' hx hp' => ?_⟩
    cases i with
    | zero => simp at hx hp'; subst hx; subst hp'; exact hr
    | succ i => simp at hx hp'; exact h4 i x p' hx hp'
  · cases h
theorem pE {fn : Func} {tmps : Array Value} {vs : List Value} (h : (fn.results.toList.mapM (vV tmps)).run Cf.P w = .ok vs w) :
 (results fn tmps).run Cf.P w = .ok (if h : vs.toArray.size = 1 then vs.toArray[0] else .tuple vs.toArray) w := by
 have : results fn tmps = (do let vs ← fn.results.mapM (vV tmps); pure (if h : vs.size = 1 then vs[0] else .tuple vs)) := by
  unfold results
  congr 1
 rw [this, Array.mapM_eq_mapM_toList]; simp only [Sem.run_bind, Sem.run_map, h, Result.andThen_ok, Sem.run_pure]
theorem uL {ps : List PV} {vs : List Value} (hl : vs.length = ps.length) (hr : ∀ (i : Nat) (x : Value) (p : PV), vs[i]? = some x → ps[i]? = some p → Rep w C x p) :
 Rep w C (if h : vs.toArray.size = 1 then vs.toArray[0] else .tuple vs.toArray) (lf ps) := by
 match ps, vs, hl, hr with
 | [], [], _, _ => exact .tup rfl (by simp)
 | [p], [v], _, hr => exact hr 0 v p rfl rfl
 | p :: q :: ps, v :: u :: vs, hl, hr =>
  rw [dif_neg (by simp)]
  exact .tup (by simpa using hl) fun i x r hx hp => hr i x r (by simpa using hx) hp
end
def gone (C : Ctx) (st : St) (m : Nat) (B : Nat) (_ : Nat) : Prop := ∃ b cs, m ≤ b ∧ C.σ false b = some B ∧ st.blk false b = some cs ∧ cs ≠ []
def Ctx.fin (C : Ctx) (st : St) (m t l : Nat) : Ctx := ⟨fun B o => C.S B o ∨ gone C st m B o, (C.cut m t l).σ, (C.cut m t l).tl, (C.cut m t l).lp, C.N⟩
section
variable {w : World} {C : Ctx} {st : St} {bs bs' : List (Nat × Nat × Nat)} {m t l : Nat}
theorem pT (w : World) (C : Ctx) (st : St) (m t l : Nat) : Ext w (C.cut m t l) w (C.fin st m t l) :=
 Ext.same rfl (fun _ _ x => cH x) (fun _ _ _ x => x) (fun _ _ B f to e _ x => ⟨B, f, to, e, x, aq _, fun _ => ⟨rfl, rfl, rfl⟩⟩) (fun _ _ x => x)
theorem vy (w : World) (C : Ctx) (st : St) (m t l : Nat) : Ext w C.fz w (C.fin st m t l).fz := by
 refine Ext.same rfl (fun _ _ x => cH x) (fun h b B x => ?_) (fun _ _ _ _ _ _ _ x => by simp [Ctx.fz] at x) (fun _ _ x => by simp [Ctx.fz] at x)
 cases h with
 | true => exact x
 | false => simp [Ctx.fz] at x
theorem Sim.fin (H : Sim w C st bs) (h0 : (m, t, l) ∈ bs) (hin : ∀ x ∈ bs', x ∈ bs) (hbs : ∀ m' t' l', (m', t', l') ∈ bs' → m' ≤ m ∧ t' ≤ t ∧ l' ≤ l) : Sim w (C.fin st m t l) (st.back m t l) bs' := by
 have hL := H.leave h0 hin hbs; refine (hL.more (X := gone C st m) ?_).1
 rintro B o ⟨b, cs, hb, hσ, hcs, hne⟩
 refine ⟨H.σlt hσ, fun h' b' cs' hσ' hcs' => ?_, fun ow tt B' f to e s x y z q => ?_⟩
 · obtain ⟨k1, k2⟩ := lM hcs'
   have hσ2 : C.σ h' b' = some B := by
    cases h' with
    | true => exact hσ'
    | false => simp only [Ctx.cut] at hσ'; rw [if_pos (k2 rfl)] at hσ'; exact hσ'
   rcases H.inj _ _ _ _ _ hσ2 hσ with ⟨rfl, rfl⟩ | q | q
   · have := k2 rfl; omega
   · rw [k1] at q; exact Option.some.inj q
   · rw [hcs] at q; exact absurd (Option.some.inj q) hne
 · subst q
   have htl : C.tl ow tt = some (B', f, to, e, s) := by
    cases ow with
    | fr => simp only [Ctx.cut] at x; split at x <;> first | exact x | cases x
    | bl a b2 =>
     cases a with
     | true => exact x
     | false => simp only [Ctx.cut] at x; split at x <;> first | exact x | cases x
   exact absurd hσ (((H.tok ow tt B' f to e s htl).2 o y z).2.1.1 false b)
theorem rL (H : Sim w C st bs) {n : Nat} {x : Value} {p q : PV} (h : kg m st p = some q) (hs : sf false m n q = true) (hx : Rep w C x p) : Rep w (C.fin st m t l) x q := by
 unfold kg at h; split at h
 · rename_i b off len sz
   cases hb : di m b with
   | false =>
    rw [hb] at h; obtain rfl := Option.some.inj h; exact (uK t l hx hs).mono (pT w C st m t l)
   | true =>
    rw [hb] at h; simp only [cond_true] at h; obtain ⟨cs, hcs, h⟩ := Option.bind_eq_some_iff.1 h; obtain ⟨ds, hds, h⟩ := Option.bind_eq_some_iff.1 h
    cases hq : ds.all (sf false 0 4) && !ai sz 0 with
    | false => rw [hq] at h; simp at h
    | true =>
     rw [hq] at h; obtain rfl := Option.some.inj h; have hb := dP hb; obtain ⟨old, hold, hle, rfl⟩ := oe hcs; obtain ⟨p1, p2⟩ := jZ hds
     have hdl : ds.length = len * sz := by rw [p1]; simp; omega
     cases hx with
     | @rs _ _ _ _ _ cap _ B arr elem fr h1 h2 h3 h4 =>
      obtain ⟨B', arr', elem', fr', a1, a2, a3, a4, a5, a6, a7, a8⟩ := H.blk false b old hold; rw [h1] at a1; obtain rfl := Option.some.inj a1; rw [h3] at a2; cases a2
      have hget : ∀ (i j : Nat) (e : List PV) (p : PV), (chunks sz len ds)[i]? = some e → e[j]? = some p → ∃ p' y, old[off + (i * sz + j)]? = some p' ∧ eN p' = some p ∧ arr[off + (i * sz + j)]? = some y := by
       intro i j e p he hp; obtain ⟨q1, q2, q3⟩ := hM sz len ds i e hdl he; obtain ⟨p', hp1, hp2⟩ := p2 _ p (q3 j p hp); rw [fc] at hp1; split at hp1
       · rw [gD] at hp1
         have := (List.getElem?_eq_some_iff.1 hp1).1; exact ⟨p', _, hp1, hp2, aU (by omega)⟩
       · cases hp1
      have hf : ∀ (i j : Nat) (e : List PV) (p : PV), (chunks sz len ds)[i]? = some e → e[j]? = some p → arr[off + (i * sz + j)]? = some (arr[off + (i * sz + j)]?.getD .nilFunc) := by
       intro i j e p he hp; obtain ⟨_, y, _, _, hy⟩ := hget i j e p he hp
       rw [hy]; rfl
      refine .sl sz (fun i j => arr[off + (i * sz + j)]?.getD .nilFunc) (iD _ _ _).symm h2 (fun i e he => (hM sz len ds i e hdl he).2.1) (fun i e j p he hp => ?_) (fun i e j p he hp => ?_) (fun i e j p he hp => ?_) (fun i e j p he hp => ?_) trivial
      · obtain ⟨p', y, k1, _, _⟩ := hget i j e p he hp
        exact cD ⟨b, old, hb, h1, hold, fun z => by rw [z] at k1; simp at k1⟩
      · rw [Nat.add_assoc, World.cell?, h3]
        exact hf i j e p he hp
      · exact a6 _ _ (hf i j e p he hp)
      · obtain ⟨p', y, k1, k2, k3⟩ := hget i j e p he hp
        have := a7 _ y p' k3 k1; rw [k3]; exact (kF (C' := C.fz) k2 this rfl (Ctx.zG C)).mono (vy w C st m t l)
 · obtain rfl := Option.some.inj h
   exact (uK t l (nu hx) hs).mono (pT w C st m t l)
theorem pq : ∀ {cs ds : List PV}, jS m st cs = some ds → ds.length = cs.length ∧ ∀ (i : Nat) (q : PV), ds[i]? = some q → ∃ p, cs[i]? = some p ∧ kg m st p = some q
 | [], ds, h => by obtain rfl := Option.some.inj h; exact ⟨rfl, by simp⟩
 | c :: cs, ds, h => by
  simp only [jS] at h; obtain ⟨q, hq, h⟩ := Option.bind_eq_some_iff.1 h; obtain ⟨qs, hqs, h⟩ := Option.bind_eq_some_iff.1 h; obtain rfl := Option.some.inj h; obtain ⟨h1, h2⟩ := pq hqs; refine ⟨by simp [h1], fun i r hr => ?_⟩
  cases i with
  | zero => simp at hr; subst hr; exact ⟨c, rfl, hq⟩
  | succ i => simp at hr; simpa using h2 i r hr
theorem nN : ∀ {cs ds : List PV}, kz m st cs = some ds → ds.length = cs.length ∧ ∀ (i : Nat) (q : PV), ds[i]? = some q → ∃ p, cs[i]? = some p ∧ jf m st p = some q
 | [], ds, h => by obtain rfl := Option.some.inj h; exact ⟨rfl, by simp⟩
 | c :: cs, ds, h => by
  simp only [kz] at h; obtain ⟨q, hq, h⟩ := Option.bind_eq_some_iff.1 h; obtain ⟨qs, hqs, h⟩ := Option.bind_eq_some_iff.1 h; obtain rfl := Option.some.inj h; obtain ⟨h1, h2⟩ := nN hqs; refine ⟨by simp [h1], fun i r hr => ?_⟩
  cases i with
  | zero => simp at hr; subst hr; exact ⟨c, rfl, hq⟩
  | succ i => simp at hr; simpa using h2 i r hr
theorem qj (H : Sim w C st bs) {n : Nat} {x : Value} {p q : PV} (h : jf m st p = some q) (hs : sf false m n q = true) (hx : Rep w C x p) : Rep w (C.fin st m t l) x q := by
 unfold jf at h; split at h
 · obtain ⟨ds, hds, h⟩ := Option.bind_eq_some_iff.1 h
   obtain rfl := Option.some.inj h; obtain ⟨g1, g2⟩ := pq hds
   cases n with
   | zero => simp [sf] at hs
   | succ n =>
    simp only [sf, dD] at hs
    cases hx with
    | agg h1 h2 h3 =>
     refine .agg (by rw [g1]; exact h1) h2 fun i x q hx hq => ?_
     obtain ⟨p, hp, hc⟩ := g2 i q hq; exact rL H hc (hs q (dS hq)) (h3 i x p hx hp)
 · exact rL H h hs hx
theorem ql (H : Sim w C st bs) {n : Nat} {x : Value} {p q : PV} (h : jR m st p = some q) (hs : sf false m n q = true) (hx : Rep w C x p) : Rep w (C.fin st m t l) x q := by
 unfold jR at h; split at h
 · obtain ⟨ds, hds, h⟩ := Option.bind_eq_some_iff.1 h
   obtain rfl := Option.some.inj h; obtain ⟨g1, g2⟩ := nN hds
   cases n with
   | zero => simp [sf] at hs
   | succ n =>
    simp only [sf, dD] at hs
    cases hx with
    | tup h1 h3 =>
     refine .tup (by rw [g1]; exact h1) fun i x q hx hq => ?_
     obtain ⟨p, hp, hc⟩ := g2 i q hq; exact qj H hc (hs q (dS hq)) (h3 i x p hx hp)
 · exact qj H h hs hx
theorem oR {P : Program} {fn : Func} {tmps : Array Value} {R : Ending → World → Prop} {w0 : World} {C0 : Ctx} {lo : Nat} (hlo : lo = w0.heap.size) {u : FrameMode} (hu : u ≠ .run)
 {J : World → Prop} (hJ : ∀ w w', (∀ (x : Value) (p : PV), Rep w C x p → Rep w' C x p) → J w → J w') :
 ∀ (ds : List Deferred) (w : World), Sim w C st bs → Ext w0 C0 w C → Marks w lo ds → J w → C.N ≤ lo →
  (∀ w', Sim w' C st bs → Ext w0 C0 w' C → J w' → LeavesInM (fen none) 0 P fn tmps R [] u w') → LeavesInM (fen none) 0 P fn tmps R ds u w
 | [], w, H, hx, hm, hr, hN, hk => hk w H hx hr
 | d :: ds, w, H, hx, hm, hr, hN, hk => by
  obtain ⟨D, rfl, h1, h2⟩ := hm.ok d (bK ..)
  obtain ⟨k1, k2, k3⟩ := H.setObj (ob := .deferred none) h2 (by omega) (fun i hi => by
   obtain ⟨r, hr⟩ := H.jE i D hi; obtain ⟨B, a1, a2⟩ := H.lps i r hr; rw [hi] at a1; obtain rfl := Option.some.inj a1
   cases r with
   | iter s pos => have a2 : w.heap[D]? = some (.stringIter s pos) := a2; rw [h2] at a2; cases a2
   | loop r => obtain ⟨_, _, _, q, _⟩ := a2; rw [h2] at q; cases q) (by intro _ _ _ q; cases q) (by intro _ _ _ q; cases q) (lo := lo) (fun _ _ _ => h1) hx hlo
  refine ⟨hu, cH ⟨D, { w with heap := w.heap.setIfInBounds D (.deferred none) }, rfl, ?_, ?_⟩⟩
  · simp [Instr.takeDeferred, getObj, setObj, Sem.run, h2]
  · refine oR hlo hu hJ ds _ k1 k2 ⟨by simpa using hm.le, fun d' hd' => ?_, (List.pairwise_cons.1 hm.nd).2⟩ (hJ _ _ (fun x p => k3) hr) hN hk
    obtain ⟨D', rfl, g1, g2⟩ := hm.ok d' (cn _ hd'); refine ⟨D', rfl, g1, ?_⟩
    show (w.heap.setIfInBounds D _)[D']? = _
    rw [dR]
    · exact g2
    · rintro rfl
      exact (List.pairwise_cons.1 hm.nd).1 _ hd' D rfl rfl
theorem uw {P : Program} {fn : Func} {tmps : Array Value} {R : Ending → World → Prop} {e : Env} {w0 : World} {C0 : Ctx} {lo : Nat} (hlo : lo = w0.heap.size)
 (ds : List Deferred) (w : World) (H : Sim w C st bs) (hx : Ext w0 C0 w C) (hm : Marks w lo ds) (hr : ∀ i, Rep w C (tmps.getD i undef) (e i)) (hN : C.N ≤ lo)
 (hk : ∀ w', Sim w' C st bs → Ext w0 C0 w' C → (∀ i, Rep w' C (tmps.getD i undef) (e i)) → ∃ v, (results fn tmps).run P w' = .ok v w' ∧ R (.returned v) w') : LeavesInM (fen none) 0 P fn tmps R ds .returning w :=
 oR hlo (by simp) (J := fun w => ∀ i, Rep w C (tmps.getD i undef) (e i)) (fun w w' h hj i => h _ _ (hj i)) ds w H hx hm hr hN fun w' h1 h2 h3 => hk w' h1 h2 h3
theorem yb {P : Program} {fn : Func} {tmps : Array Value} {R : Ending → World → Prop} {w0 : World} {C0 : Ctx} {lo : Nat} (hlo : lo = w0.heap.size) {chain : List PanicEntry}
 (ds : List Deferred) (w : World) (H : Sim w C st bs) (hx : Ext w0 C0 w C) (hm : Marks w lo ds) (hN : C.N ≤ lo)
 (hk : ∀ w', Sim w' C st bs → Ext w0 C0 w' C → R (.panicked chain) w') : LeavesInM (fen none) 0 P fn tmps R ds (.panicking chain) w :=
 oR hlo (by simp) (J := fun _ => True) (fun _ _ _ _ => trivial) ds w H hx hm trivial hN fun w' h1 h2 _ => hk w' h1 h2
end
structure tD (gv : GV) (L : Lib) : Prop where
 gl : GOk gv L.gl
 name : ∀ (f : Nat) (fn : Func), L.P.funcs[f]? = some fn → (fn.name == "runtime.NumGoroutine") = false
 mixed : L.P.follows .mixedOrders = true
 lh : ∀ f q, L.lh f = some q → ∀ call, Good gv L.pn L.P call → Good gv L.pn L.P fun f' args st => match f' with
  | .func k => if k = f then q.g call args st else none
  | _ => none
theorem Bg {gv : GV} {L : Lib} (ok : tD gv L) {call : bG} (G : Good gv L.pn L.P call) {k f : Nat} {fn : Func} {c : Code} (hf : L.P.funcs[f]? = some fn) (hb : fn.body = some c) {args : List PV} {st : St} {r : PV × St}
 (h : gO L call (itK k) f fn c args st = some r) {w : World} {C : Ctx} {bs : List (Nat × Nat × Nat)} {xs : Array Value} (hg : lG gv w C) (H : Sim w C st bs) (hs : xs.size = args.length)
 (hr : ∀ (i : Nat) (x : Value) (p : PV), xs[i]? = some x → args[i]? = some p → Rep w C x p) :
 Calls L.P f xs w (pJ r bs w C) := by
 unfold gO at h
 cases hn : di args.length fn.ntmps with
 | false => rw [hn] at h; simp at h
 | true =>
  rw [hn] at h; simp only [cond_true] at h; have hn := dP hn; refine pw (rd := none) (n := 0) (callsIn_of_wp_marks hf hb trivial ?_)
  have hbase : ∀ m t l, (m, t, l) ∈ ((st.stk.length, st.tk.length, st.lp.length) :: bs) → m ≤ st.stk.length := by
   intro m t l hm
   rcases List.mem_cons.1 hm with hm | hm
   · cases hm; exact aq _
   · exact (H.bnd m t l hm).1
  let Cf : Cfg := ⟨L.P, call, fn.ntmps, st.stk.length, itK k, L.imp, L.md f, none, st.lp.length, L.gl, L.pn⟩
  refine kY (Cf := Cf) (rd := none) (lo := w.heap.size) (bs := (st.stk.length, st.tk.length, st.lp.length) :: bs) G (k := k) rfl hbase st.tk.length (bK ..) (sV G hbase ok.mixed) c (L.ann f) (iW 0 args) st _ r _ w C _ h H.enter (dT.enter ⟨hg, ok.gl⟩ hs hn hr) trivial ?_; intro x e' st' a' w' C' hK q1 q2 q3
  have go : lX x = false → fi Cf fn.results.toList e' st' (fun ps => fin st.stk.length st.tk.length st.lp.length ps st') = some r → bodyPostM (fen none) 0 L.P fn (pJ r bs w C) .ret a' w' := by
   intro hx hres; have q3 := q3.rel hx
   refine uw (e := e') rfl a'.defers w' q1 q2 q3.defers q3.rep (by rw [q2.N]; exact H.low.1) fun w2 H2 X2 hr2 => ?_
   obtain ⟨ps, vs, p1, p2, p3, p4⟩ := lq (Cf := Cf) H2 hr2 _ _ hres; refine ⟨_, pE (Cf := Cf) p2, ?_⟩; unfold fin at p1; obtain ⟨p, hp, p1⟩ := Option.bind_eq_some_iff.1 p1
   cases hsf : sf false st.stk.length 4 p with
   | false => rw [hsf] at p1; simp at p1
   | true =>
    rw [hsf] at p1; obtain rfl := Option.some.inj p1; refine ⟨C'.fin st' st.stk.length st.tk.length st.lp.length, H2.fin (bK ..) (fun _ x => cn _ x) (fun m t l hm => H.bnd m t l hm), ?_, Ends.of (ql H2 hp hsf (uL p3 p4))⟩; exact (H.lT X2).trans (pT w2 C' st' _ _ _)
  cases hpn : L.pn.any (ai f) with
  | false =>
   rw [hpn] at hK; simp only [cond_false] at hK
   cases x with
   | normal => exact go rfl hK
   | ret => exact go rfl hK
   | exit i => cases hK
   | pan t v => cases hK
  | true =>
   rw [hpn] at hK; simp only [cond_true] at hK
   cases x with
   | normal => exact go rfl hK
   | ret => exact go rfl hK
   | exit i => cases hK
   | pan t v =>
    obtain rfl := Option.some.inj hK; have q3 : xL gv w.heap.size w' C' Cf.n a' := q3
    refine yb rfl a'.defers w' q1 q2 q3.defers (by rw [q2.N]; exact H.low.1) fun w2 H2 X2 => ?_
    exact ⟨C'.cut st.stk.length st.tk.length st.lp.length, H2.leave (bK ..) (bs' := bs) (fun _ x => cn _ x) fun m t l hm => H.bnd m t l hm, H.lT X2, rfl⟩
theorem dT.nt {gv : GV} {g : Nat → PV} {lo n : Nat} {w : World} {C : Ctx} : ∀ (ps : List Nat) (args : List PV) (xs : List Value) (e : Env) (tmps : Array Value), dT gv g lo w C e n { tmps := tmps, defers := [] } → ps.length = args.length → xs.length = args.length →
 (∀ (i : Nat) (x : Value) (p : PV), xs[i]? = some x → args[i]? = some p → Rep w C x p) → dT gv g lo w C (nt n e ps args) n { tmps := (ps.zip xs).foldl (fun tmps (t, a) => tmps.setIfInBounds t a) tmps, defers := [] }
 | [], args, xs, e, tmps, h, h1, h2, hr => by
  obtain rfl : args = [] := List.length_eq_zero_iff.1 h1.symm; exact h
 | t :: ps, p :: args, x :: xs, e, tmps, h, h1, h2, hr => by
  have := h.put (some t) (hr 0 x p rfl rfl)
  exact dT.nt ps args xs _ _ this (by simpa using h1) (by simpa using h2) fun i x p hx hp => hr (i + 1) x p (by simpa using hx) (by simpa using hp)
 | t :: ps, [], xs, e, tmps, h, h1, h2, hr => by simp at h1
 | t :: ps, p :: args, [], e, tmps, h, h1, h2, hr => by simp at h2
theorem mh {P : Program} {w : World} {B : Nat} {r : Loop} (h : w.heap[B]? = some (.loop r)) : (Instr.getLoop B).run P w = .ok r w := by simp [Instr.getLoop, getObj, Sem.run, h]
theorem pF {P : Program} {w : World} {B : Nat} {r : Loop} (h : w.heap[B]? = some (.loop r)) (r' : Loop) : (setObj B (.loop r')).run P w = .ok () { w with heap := w.heap.setIfInBounds B (.loop r') } := by simp [setObj, Sem.run, h]
theorem tv {P : Program} {w : World} {B : Nat} {r : Loop} (h : w.heap[B]? = some (.loop r)) (jump : Option Code) :
 (Instr.endRound B jump).run P w = .ok (.bool jump.isNone) { w with heap := w.heap.setIfInBounds B (.loop { r with state := if jump.isNone then .ready else .done, pending := jump }) } := by
 simp only [Instr.endRound, Sem.run_bind, mh h, Result.andThen_ok, pF h, Sem.run_pure]
theorem q8 {P : Program} {w : World} {B : Nat} {r : Loop} (h : w.heap[B]? = some (.loop r)) (hr : r.state = .ready) :
 (Instr.beginRound B).run P w = .ok () { w with heap := w.heap.setIfInBounds B (.loop { r with state := .busy }) } := by
 simp only [Instr.beginRound, Sem.run_bind, mh h, Result.andThen_ok, pF h, hr, Sem.run_pure]
theorem yw {P : Program} {w : World} {B : Nat} {r : Loop} {xs : Array Value} (h : w.heap[B]? = some (.loop r)) (hs : xs.size = r.params.size) :
 (Instr.yield B xs).run P w = .ok (.round B r.fn ((r.params.zip xs).foldl (fun tmps (t, a) => tmps.setIfInBounds t a) r.tmps) r.assign r.body) w := by
 simp [Instr.yield, mh h, hs]
theorem oa {st : St} {i : Nat} {r : Lp} (h : st.loop i = some r) : st.lp[i]? = some (.loop r) := by
 unfold St.loop at h; split at h
 · rename_i r' hr; rw [hr, Option.some.inj h]
 · cases h
theorem Am {gv : GV} {L : Lib} (ok : tD gv L) {call : bG} (G : Good gv L.pn L.P call) {k i : Nat} {lp : Lp} {args : List PV} {st : St} {r : PV × St} (hlp : st.loop i = some lp)
 (h : il L call (itK k) i lp args st = some r) {w : World} {C : Ctx} {bs : List (Nat × Nat × Nat)} {xs : Array Value} {B : Nat} (hB : C.lp i = some B) (hg : lG gv w C) (H : Sim w C st bs) (hs : xs.size = args.length)
 (hr : ∀ (i : Nat) (x : Value) (p : PV), xs[i]? = some x → args[i]? = some p → Rep w C x p) :
 ∃ fn tmps assign body, (Instr.yield B xs).run L.P w = .ok (.round B fn tmps assign body) w ∧ RoundIn (fen none) 0 L.P B fn tmps assign body w (pJ r bs w C) := by
 unfold il at h
 cases hc : ai lp.at_ 0 && ai args.length lp.ps.length with
 | false => rw [hc] at h; simp at h
 | true =>
  rw [hc] at h; simp only [cond_true] at h; rw [an] at hc; have hat := ao hc.1; have hlen := ao hc.2; obtain ⟨B', a1, fn, D, tmps, a2, a3, a4, a5⟩ := H.lps i _ (oa hlp); rw [hB] at a1; obtain rfl := Option.some.inj a1
  have hsz : xs.size = lp.ps.toArray.size := by simp; omega
  have hE0 : dT gv L.gl w.heap.size w C (nt lp.n (fO lp.live lp.vs) lp.ps args) lp.n { tmps := (lp.ps.zip xs.toList).foldl (fun tmps (t, a) => tmps.setIfInBounds t a) tmps, defers := [] } :=
   dT.nt lp.ps args xs.toList _ tmps ⟨⟨hg, ok.gl⟩, a3, a4, Marks.nil (aq _)⟩ hlen.symm (by simpa using hs) fun i x p hx hp => hr i x p (by simpa using hx) hp
  have hfold : (lp.ps.toArray.zip xs).foldl (fun tmps (t, a) => tmps.setIfInBounds t a) tmps = (lp.ps.zip xs.toList).foldl (fun (tmps : Array Value) (t, a) => tmps.setIfInBounds t a) tmps := by
   rw [← Array.foldl_toList, Array.toList_zip]
  refine ⟨fn, (lp.ps.zip xs.toList).foldl (fun tmps (t, a) => tmps.setIfInBounds t a) tmps, lp.assign, lp.body, ?_, ?_⟩
  · rw [← hfold]
    exact yw a2 hsz
  · have hbase : ∀ m t l, (m, t, l) ∈ ((st.stk.length, st.tk.length, st.lp.length) :: bs) → m ≤ st.stk.length := by
     intro m t l hm
     rcases List.mem_cons.1 hm with hm | hm
     · cases hm; exact aq _
     · exact (H.bnd m t l hm).1
    let Cf : Cfg := ⟨L.P, call, lp.n, st.stk.length, itK k, L.imp, lp.md, some i, st.lp.length, L.gl, L.pn⟩
    have hrd0 : ∀ {w' : World} {C' : Ctx}, Ext w C w' C' → sD Cf C' (some B) := fun x => x.lp _ _ hB
    have sound := @kY gv Cf (some B) w.heap.size ((st.stk.length, st.tk.length, st.lp.length) :: bs) G (k := k) rfl hbase st.tk.length (bK ..) (sV G hbase ok.mixed); refine roundIn_of_wpIn trivial ?_; refine sound lp.assign lp.A.x _ st _ r _ w C _ h H.enter hE0 (hrd0 (Ext.refl w C)) ?_; intro x e1 s1 b1 w1 C1 hK q1 q2 q3
    cases hx : fT x with
    | false => rw [hx] at hK; simp at hK
    | true =>
     rw [hx] at hK; simp only [cond_true] at hK
     obtain rfl : x = .normal := by cases x <;> first | rfl | (simp [fT] at hx)
     unfold sM at hK; split at hK
     · rename_i q hq
       cases hq0 : ai q.at_ 0 with
       | false => rw [hq0] at hK; simp at hK
       | true =>
        rw [hq0] at hK; simp only [cond_true] at hK; have hqa := ao hq0; have hB1 := q2.lp _ _ hB; obtain ⟨B', c1, fn1, D1, tmps1, c2, c3, c4, c5⟩ := q1.lps i _ (oa hq); rw [hB1] at c1; obtain rfl := Option.some.inj c1
        obtain ⟨d1, d2⟩ := q1.j7 (r := .loop { q with at_ := 1 }) (ob := .loop (mc { q with at_ := 1 } fn1 D1 tmps1)) (oa hq) hB1 (by intro _ _ _ z; cases z)
         (fun C' hx => ⟨fn1, D1, tmps1, by show (w1.heap.setIfInBounds B _)[B]? = _; rw [Array.getElem?_setIfInBounds_self_of_lt (Array.getElem?_eq_some_iff.1 c2).1], c3, fun j => (c4 j).mono hx, fun m t l hm hl j => (c5 m t l hm hl j).mono (hx.cut m t l)⟩)
        have hbr : (Instr.beginRound B).run L.P w1 = .ok () { w1 with heap := w1.heap.setIfInBounds B (.loop (mc { q with at_ := 1 } fn1 D1 tmps1)) } := by
         have := q8 (P := L.P) c2 (by simp [mc, hqa, oo]); exact this
        refine ⟨_, hbr, ?_⟩; refine sound lp.body lp.A.y e1 (s1.j7 i (.loop { q with at_ := 1 })) _ r b1 _ C1 _ hK d1 ((q3 : dT gv Cf.gl w.heap.size w1 C1 e1 Cf.n b1).mono d2) (hrd0 (q2.trans d2)) ?_; intro x2 e2 s2 b2 w2 C2 hK2 g1 g2 g3; unfold By at hK2; split at hK2
        · rename_i q' hq'
          cases hq0 : ai q'.at_ 1 && !lX x2 with
          | false => rw [hq0] at hK2; simp at hK2
          | true =>
           rw [hq0] at hK2; simp only [cond_true] at hK2; rw [an] at hq0; have hq1 := hq0.1
           have hpx : lX x2 = false := by simpa using hq0.2
           have hB2 := g2.lp _ _ (d2.lp _ _ hB1); obtain ⟨B', c1', fn2, D2, tmps2, c2', c3', c4', c5'⟩ := g1.lps i _ (oa hq'); rw [hB2] at c1'; obtain rfl := Option.some.inj c1'
           obtain ⟨m1, m2⟩ := g1.j7 (r := .loop { q' with at_ := bif fT x2 then 0 else 2, mM := x2 }) (ob := .loop (mc { q' with at_ := bif fT x2 then 0 else 2, mM := x2 } fn2 D2 tmps2)) (oa hq') hB2 (by intro _ _ _ z; cases z)
            (fun C' hx => ⟨fn2, D2, tmps2, by show (w2.heap.setIfInBounds B _)[B]? = _; rw [Array.getElem?_setIfInBounds_self_of_lt (Array.getElem?_eq_some_iff.1 c2').1], c3', fun j => (c4' j).mono hx, fun m t l hm hl j => (c5' m t l hm hl j).mono (hx.cut m t l)⟩)
           have hXX := ((q2.trans d2).trans g2).trans m2
           have hL := m1.leave (bK ..) (bs' := bs) (fun _ x => cn _ x) fun m t l hm => H.bnd m t l hm
           obtain rfl := Option.some.inj hK2
           have hend : ∀ jump, lg x2 = jump → ∃ v w', (Instr.endRound B jump).run L.P w2 = .ok v w' ∧ pJ (.v (.bool (fT x2)), (s2.j7 i (.loop { q' with at_ := bif fT x2 then 0 else 2, mM := x2 })).back st.stk.length st.tk.length st.lp.length) bs w C (.returned v) w' := by
            intro jump hj; refine ⟨.bool jump.isNone, { w2 with heap := w2.heap.setIfInBounds B (.loop (mc { q' with at_ := bif fT x2 then 0 else 2, mM := x2 } fn2 D2 tmps2)) }, ?_, C2.cut st.stk.length st.tk.length st.lp.length, hL, H.lT hXX, ?_⟩
            · rw [tv c2' jump]
              subst hj
              cases x2 <;> first | rfl | cases hpx
            · have : jump.isNone = fT x2 := by subst hj; cases x2 <;> first | rfl | cases hpx
              rw [this]; exact Ends.of (.v rfl)
           cases x2 with
           | normal => exact hend none rfl
           | exit id => exact hend (some (.exit id)) rfl
           | ret => exact hend (some .ret) rfl
           | pan t v => cases hpx
        · cases hK2
     · cases hK
theorem zA {m t l : Nat} {ps : List PV} {s : St} {r : PV × St} (h : fin m t l ps s = some r) : gE r.1 = false := by
 unfold fin at h; obtain ⟨p, hp, h⟩ := Option.bind_eq_some_iff.1 h
 cases hs : sf false m 4 p with
 | false => rw [hs] at h; simp at h
 | true =>
  rw [hs] at h; obtain rfl := Option.some.inj h
  cases p <;> first | rfl | (simp [sf] at hs)
theorem Bz {m t l i : Nat} {x : Ex} {s : St} {r : PV × St} (h : By m t l i x s = some r) : gE r.1 = false := by
 unfold By at h; split at h
 · rename_i q hq
   cases hs : ai q.at_ 1 && !lX x with
   | false => rw [hs] at h; simp at h
   | true => rw [hs] at h; obtain rfl := Option.some.inj h; rfl
 · cases h
theorem qP {R : Type} {q : Rs × St} {K : PV → St → Option R} {N : TypeId → Value → St → Option R} {r : R} (h : lE q K N = some r) : (∃ p s, K p s = some r) ∨ ∃ t x s, N t x s = some r := by
 obtain ⟨q, s⟩ := q
 cases q with
 | ret p => exact cH ⟨p, s, h⟩
 | pan t x => exact cD ⟨t, x, s, h⟩
theorem sX {Cf : Cfg} {R : Type} {ops : Array Oper} {K : Env → St → Option R} {N : TypeId → Value → St → Option R} {r : R} : ∀ (os : List Oper) (e : Env) (st : St), jB Cf ops os e st K N = some r → (∃ e s, K e s = some r) ∨ ∃ t x s, N t x s = some r
 | [], e, st, h => cH ⟨e, st, h⟩
 | o :: os, e, st, h => by
  simp only [jB] at h; rw [dm] at h; obtain ⟨q, hq, h⟩ := Option.bind_eq_some_iff.1 h
  rcases qP h with ⟨p, s, h⟩ | h
  · exact sX os _ _ h
  · exact cD h
theorem nQ {Cf : Cfg} : ∀ (c : Code) (A : Ann) (e : Env) (st : St) {R : Type} (K : Ex → Env → St → Option R) (r : R), fq Cf c A e st K = some r → ∃ x e s, K x e s = some r := by
 intro c
 induction c with
 | skip => intro A e st R K r h; exact ⟨_, _, _, h⟩
 | region id ops d =>
  intro A e st R K r h
  cases d with
  | false =>
   have h : jB Cf ops ops.toList e st (fun e' st' => K .normal e' st') (fun t x st' => K (.pan t x) e st') = some r := h
   rcases sX _ _ _ h with ⟨e', s, h⟩ | ⟨t, x, s, h⟩
   · exact ⟨_, _, _, h⟩
   · exact ⟨_, _, _, h⟩
  | true =>
   have h : (bif gB ops (Region.before ops) ops.toList 0 then lS Cf ops e st (fun e' st' => K .normal e' st') (fun t x st' => K (.pan t x) e st') else none) = some r := h
   cases hc : gB ops (Region.before ops) ops.toList 0 with
   | false => rw [hc] at h; simp at h
   | true =>
    rw [hc] at h; simp only [cond_true] at h; unfold lS at h; split at h
    · obtain ⟨dd, E, S, p, T, h | ⟨k, o, t, x, s', PA, h⟩⟩ := ov ops.toList 0 e st [] [] rfl h
      · exact ⟨_, _, _, h.2⟩
      · exact ⟨_, _, _, h⟩
    · rename_i k t hla
      obtain ⟨z, hz, h⟩ := Option.bind_eq_some_iff.1 h; obtain ⟨k', o, hk', hok, hlo, hb0⟩ := nj _ _ hla
      obtain rfl : k' = k := by omega
      have hok : ops[k']? = some o := by simpa using hok
      obtain ⟨l1, l2, l3⟩ := qE hlo
      have hk0 : ∀ j, bit ops k' j = false := fun j => by unfold bit; rw [hb0]; exact Nat.zero_testBit j
      have hka : kd Cf ops k' = .aF := by simp [kd, hok, kindOf, l1]
      obtain ⟨dd, E, S, p, T, _, hr⟩ := pd hk0 hka (zi hc) ops.toList 0 e st [] [] rfl rfl (fun x hx => by cases hx) h
      rcases hr with hr | ⟨kp, t, x, s', PA, hr1, hr2⟩
      · exact ⟨_, _, _, hr.2⟩
      · exact ⟨_, _, _, hr1⟩
 | seq x y ihx ihy =>
  intro A e st R K r h; obtain ⟨z, e', s, h⟩ := ihx A.x e st _ r h
  rcases nw h with ⟨_, h⟩ | ⟨_, h⟩
  · exact ihy A.y e' s K r h
  · exact ⟨_, _, _, h⟩
 | cond b x y _ _ =>
  intro A e st R K r h; have h : aD (dI Cf.gl e b) (fun t => (bif t then fq Cf x A.x e st (leave A.live) else fq Cf y A.y e st (leave A.live)).bind fun r => K r.1 (fO A.live r.2.1) r.2.2) = some r := h; unfold aD at h; split at h
  · obtain ⟨q, hq, h⟩ := Option.bind_eq_some_iff.1 h
    exact ⟨_, _, _, h⟩
  · cases h
 | block id x ih =>
  intro A e st R K r h; obtain ⟨z, e', s, h⟩ := ih A.x e st _ r h; exact ⟨_, _, _, h⟩
 | loop x _ =>
  intro A e st R K r h; obtain ⟨q, hq, h⟩ := Option.bind_eq_some_iff.1 h; exact ⟨_, _, _, h⟩
 | rangeFunc g ps x y _ _ =>
  intro A e st R K r h
  have h : fJ (dI Cf.gl e g) (fun f caps => bif lW Cf st && eM f then
   (Cf.call f (.clo (.yield st.lp.length) [] :: caps) { st with lp := st.lp ++ [.loop ⟨A.live, A.live.map e, Cf.n, Cf.md, ps.toList, x, y, A.x, 0, .normal⟩] }).bind fun r => dN r fun _ s => lA s st.stk.length st.tk.length st.lp.length fun x s => K x e s
    else none) = some r := h
  have go : ∀ (f : Fn) (caps : List PV), (bif lW Cf st && eM f then
   (Cf.call f (.clo (.yield st.lp.length) [] :: caps) { st with lp := st.lp ++ [.loop ⟨A.live, A.live.map e, Cf.n, Cf.md, ps.toList, x, y, A.x, 0, .normal⟩] }).bind fun r => dN r fun _ s => lA s st.stk.length st.tk.length st.lp.length fun x s => K x e s
    else none) = some r → ∃ x e s, K x e s = some r := by
   intro f caps h
   cases hb : lW Cf st && eM f with
   | false => rw [hb] at h; simp at h
   | true =>
    rw [hb] at h; simp only [cond_true] at h; obtain ⟨q, hq, h⟩ := Option.bind_eq_some_iff.1 h; obtain ⟨_, h⟩ := ld h; unfold lA at h; split at h
    · rename_i lp hlp
      cases hc : ai lp.at_ 1 || lX lp.mM with
      | true => rw [hc] at h; simp at h
      | false => rw [hc] at h; exact ⟨_, _, _, h⟩
    · cases h
  unfold fJ at h; split at h
  · exact go _ _ h
  · exact go _ _ h
  · cases h
 | exit id => intro A e st R K r h; exact ⟨_, _, _, h⟩
 | ret => intro A e st R K r h; exact ⟨_, _, _, h⟩
 | scope x ih => intro A e st R K r h; exact ih A e st K r h
 | label l => intro A e st R K r h; exact ⟨_, _, _, h⟩
 | goto l => intro A e st R K r h; cases h
 | refuse s => intro A e st R K r h; cases h
theorem ll {Cf : Cfg} {R : Type} : ∀ (rs : List ResultVar) (e : Env) (st : St) (K : List PV → Option R) (r : R), fi Cf rs e st K = some r → ∃ ps, K ps = some r
 | [], e, st, K, r, h => ⟨_, h⟩
 | .tmp t :: rs, e, st, K, r, h => by
  obtain ⟨ps, h⟩ := ll rs e st _ r h; exact ⟨_, h⟩
 | .cell a t :: rs, e, st, K, r, h => by
  simp only [fi] at h; split at h
  · obtain ⟨p, hp, h⟩ := Option.bind_eq_some_iff.1 h
    obtain ⟨ps, h⟩ := ll rs e st _ r h; exact ⟨_, h⟩
  · cases h
theorem Bf {L : Lib} {call : bG} {it : bO} {f : FuncId} {fn : Func} {c : Code} {args : List PV} {st : St} {r : PV × St} (hpn : L.pn.any (ai f) = false) (h : gO L call it f fn c args st = some r) : gE r.1 = false := by
 unfold gO at h
 cases hn : di args.length fn.ntmps with
 | false => rw [hn] at h; simp at h
 | true =>
  rw [hn] at h; simp only [cond_true] at h; obtain ⟨x, e, s, h⟩ := nQ c _ _ _ _ r h; rw [hpn] at h; simp only [cond_false] at h
  have go : fi ⟨L.P, call, fn.ntmps, st.stk.length, it, L.imp, L.md f, none, st.lp.length, L.gl, L.pn⟩ fn.results.toList e s (fun ps => fin st.stk.length st.tk.length st.lp.length ps s) = some r → gE r.1 = false := fun h => by
   obtain ⟨ps, h⟩ := ll _ _ _ _ _ h; exact zA h
  cases x with
  | normal => exact go h
  | ret => exact go h
  | exit i => cases h
  | pan t v => cases h
theorem Al {L : Lib} {call : bG} {it : bO} {i : Nat} {lp : Lp} {args : List PV} {st : St} {r : PV × St} (h : il L call it i lp args st = some r) : gE r.1 = false := by
 unfold il at h
 cases hn : ai lp.at_ 0 && ai args.length lp.ps.length with
 | false => rw [hn] at h; simp at h
 | true =>
  rw [hn] at h; simp only [cond_true] at h; obtain ⟨x, e, s, h⟩ := nQ _ _ _ _ _ r h
  cases hx : fT x with
  | false => rw [hx] at h; simp at h
  | true =>
   rw [hx] at h; simp only [cond_true] at h; unfold sM at h; split at h
   · rename_i q hq
     cases h0 : ai q.at_ 0 with
     | false => rw [h0] at h; simp at h
     | true =>
      rw [h0] at h; simp only [cond_true] at h; obtain ⟨x, e, s, h⟩ := nQ _ _ _ _ _ r h; exact Bz h
   · cases h
theorem nR {gv : GV} {L : Lib} (ok : tD gv L) : ∀ k, Good gv L.pn L.P (evF L k)
 | 0 => by intro f args st r h; cases h
 | k + 1 => by
  intro g args st r h
  cases g with
  | func f =>
   have h : (match L.lh f with
    | some q => q.g (evF L k) args st
    | none => match L.P.funcs[f]? with
     | some fn => match fn.body with
      | some c => gO L (evF L k) (itK k) f fn c args st
      | none => none
     | none => none) = some r := h
   cases hp : L.lh f with
   | some g =>
    rw [hp] at h; exact ok.lh f g hp (evF L k) (nR ok k) (.func f) args st r (by simpa using h)
   | none =>
    rw [hp] at h; simp only at h
    cases hf : L.P.funcs[f]? with
    | none => rw [hf] at h; cases h
    | some fn =>
     rw [hf] at h; simp only at h
     cases hb : fn.body with
     | none => rw [hb] at h; cases h
     | some c =>
      rw [hb] at h; simp only at h; refine ⟨fun hpn => ?_, ⟨fn, hf, ok.name f fn hf, by rw [hb]; rfl⟩, fun w C bs xs hg H hs hr => Bg ok (nR ok k) hf hb h hg H hs hr⟩; exact Bf hpn h
  | yield i =>
   have h : (match st.loop i with
    | some r => il L (evF L k) (itK k) i r args st
    | none => none) = some r := h
   cases hl : st.loop i with
   | none => rw [hl] at h; cases h
   | some lp =>
    rw [hl] at h; exact ⟨Al h, fun w C bs xs B hB hg H hs hr => Am ok (nR ok k) hl h hB hg H hs hr⟩
  | _ => cases h
def zq (w : World) : Ctx := ⟨fun B _ => B < w.heap.size, fun _ _ => none, fun _ _ => none, fun _ => none, w.heap.size⟩
def st0 : St := ⟨[], [], [], []⟩
theorem Ez (w : World) : Sim w (zq w) st0 [] := by
 refine ⟨?_, ?_, ?_, fun B o h => h, ?_, ?_, ?_, ?_, ⟨aq _, ?_, ?_⟩, ?_, ?_, ?_⟩
 · intro h b cs x; cases h <;> simp [St.blk, St.bk, st0] at x
 · intro h b B x; cases x
 · intro h b h' b' B x; cases x
 · intro o t B f to e s x; cases x
 · intro o t e s x
   cases o with
   | fr => simp [St.tok, st0] at x
   | bl h b => cases h <;> simp [St.tok, St.bk, st0] at x
 · intro h t h' t' B f to e s f' to' e' s' x; cases x
 · intro m t l x; cases x
 · intro h b B x; cases x
 · intro i B x; cases x
 · intro i r x; simp [st0] at x
 · intro i B x; cases x
 · intro i i' B x; cases x
theorem xY {gv : GV} {L : Lib} (ok : tD gv L) {k f : Nat} {args : List PV} {b : Bool} {st' : St} (h : evF L k (.func f) args st0 = some (.v (.bool b), st')) {w : World} (hg : lG gv w (zq w)) {xs : Array Value} (hs : xs.size = args.length)
 (hr : ∀ (i : Nat) (x : Value) (p : PV), xs[i]? = some x → args[i]? = some p → Rep w (zq w) x p) :
 Calls L.P f xs w fun e w' => e = .returned (.bool b) ∧ Below w.heap.size w w' := by
 obtain ⟨_, _, g⟩ := nR ok k (.func f) args st0 _ h; refine (g w (zq w) [] xs hg (Ez w) hs hr).mono ?_
 rintro e w' ⟨C', h1, h2, v, rfl, h3⟩
 cases h3; exact ⟨rfl, h2.below⟩
theorem xv (w : World) (C : Ctx) (k : IntKind) (n : Int) : Rep w C (.int k n) (.v (.int k n)) := .v rfl
open Go
theorem Evt.const {R : Type} {x : Option R} {r : R} (h : x = some r) : Evt (fun _ => x) r := ⟨0, fun _ _ => h⟩
theorem Evt.bind {R S : Type} {F : Nat → Option R} {G : Nat → R → Option S} {a : R} {r : S} (h : Evt F a) (g : Evt (fun k => G k a) r) : Evt (fun k => (F k).bind (G k)) r := by
 obtain ⟨k1, h1⟩ := h; obtain ⟨k2, h2⟩ := g; refine ⟨max k1 k2, fun k hk => ?_⟩
 show (F k).bind (G k) = some r
 rw [h1 k (by omega), ag]; exact h2 k (by omega)
theorem Evt.congr {R : Type} {F G : Nat → Option R} {r : R} (h : Evt F r) (e : ∀ k, F k = G k) : Evt G r := by
 obtain ⟨k1, h1⟩ := h; exact ⟨k1, fun k hk => by rw [← e]; exact h1 k hk⟩
theorem Evt.all {α : Type} {p : α → Nat → Prop} : ∀ (l : List α), (∀ x ∈ l, ∃ k0, ∀ k, k0 ≤ k → p x k) → ∃ k0, ∀ k, k0 ≤ k → ∀ x ∈ l, p x k
 | [], _ => ⟨0, by simp⟩
 | a :: l, h => by
  obtain ⟨k1, h1⟩ := h a (bK ..)
  obtain ⟨k2, h2⟩ := Evt.all l fun x hx => h x (cn _ hx)
  refine ⟨max k1 k2, fun k hk x hx => ?_⟩
  rcases List.mem_cons.1 hx with rfl | hx
  · exact h1 k (by omega)
  · exact h2 k (by omega) x hx
structure Lim (Ck : Nat → Cfg) (C : Cfg) : Prop where
 P : ∀ k, (Ck k).P = C.P
 n : ∀ k, (Ck k).n = C.n
 base : ∀ k, (Ck k).base = C.base
 imp : ∀ k, (Ck k).imp = C.imp
 md : ∀ k, (Ck k).md = C.md
 rd : ∀ k, (Ck k).rd = C.rd
 lb : ∀ k, (Ck k).lb = C.lb
 gl : ∀ k, (Ck k).gl = C.gl
 pn : ∀ k, (Ck k).pn = C.pn
 call : ∀ f args st r, C.call f args st = some r → Evt (fun k => (Ck k).call f args st) r
 it : ∀ (b : List PV → St → Option (Ex × List PV × St)) (bk : Nat → List PV → St → Option (Ex × List PV × St)), (∀ vs st r, b vs st = some r → Evt (fun k => bk k vs st) r) → ∀ vs st r, C.it b vs st = some r → Evt (fun k => (Ck k).it (bk k) vs st) r
section
variable {Ck : Nat → Cfg} {C : Cfg} (H : Lim Ck C)
include H
theorem yC {R : Type} {m : Nat} {b : Builtin} {ats : Array TypeId} {xs : List PV} {st : St} {K : PV → St → Option R} {Kk : Nat → PV → St → Option R} {r : R} (h : mT C m b ats xs st K = some r)
 (hK : ∀ p s, K p s = some r → Evt (fun k => Kk k p s) r) : Evt (fun k => mT (Ck k) m b ats xs st (Kk k)) r := by
 unfold mT at h ⊢; simp only [H.P, H.base]; split at h
 · obtain ⟨p, hp, h⟩ := Option.bind_eq_some_iff.1 h; simp only [hp, ag]; exact hK _ _ h
 · obtain ⟨p, hp, h⟩ := Option.bind_eq_some_iff.1 h; simp only [hp, ag]; exact hK _ _ h
 · obtain ⟨p, hp, h⟩ := Option.bind_eq_some_iff.1 h; simp only [hp, ag]; exact hK _ _ h
 · obtain ⟨p, hp, h⟩ := Option.bind_eq_some_iff.1 h; simp only [hp, ag]; exact hK _ _ h
 · split at h
   · cases h
   · obtain ⟨ys, hy, h⟩ := Option.bind_eq_some_iff.1 h
     obtain ⟨q, hq, h⟩ := Option.bind_eq_some_iff.1 h
     simp only [hy, hq, ag]; exact hK _ _ h
   · cases h
 · split at h
   · obtain ⟨ys, hy, h⟩ := Option.bind_eq_some_iff.1 h
     obtain ⟨q, hq, h⟩ := Option.bind_eq_some_iff.1 h
     simp only [hy, hq, ag]; exact hK _ _ h
   · cases h
 · obtain ⟨q, hq, h⟩ := Option.bind_eq_some_iff.1 h
   simp only [hq, ag]; exact hK _ _ h
 · cases h
theorem BG (k : Nat) (g : FuncId) : ug (Ck k) g = ug C g := by unfold ug; rw [H.pn]
omit H in
theorem ye {R : Type} {q : PV × St} {K : PV → St → Option R} {N : TypeId → Value → St → Option R} {Kk : Nat → PV → St → Option R} {Nk : Nat → TypeId → Value → St → Option R} {r : R} (h : aK q K N = some r)
 (hK : ∀ p s, K p s = some r → Evt (fun k => Kk k p s) r) (hN : ∀ t x s, N t x s = some r → Evt (fun k => Nk k t x s) r) : Evt (fun k => aK q (Kk k) (Nk k)) r := by
 obtain ⟨p, s⟩ := q
 cases p <;> first | exact hN _ _ _ h | exact hK _ _ h
omit H in
theorem oW {R : Type} {q : PV × St} {K : PV → St → Option R} {Kk : Nat → PV → St → Option R} {r : R} (h : dN q K = some r)
 (hK : ∀ p s, K p s = some r → Evt (fun k => Kk k p s) r) : Evt (fun k => dN q (Kk k)) r := by
 obtain ⟨p, s⟩ := q
 cases p <;> first | exact hK _ _ h | (cases h)
theorem su {R : Type} {o : Oper} {e : Env} {st : St} {K : PV → St → Option R} {N : TypeId → Value → St → Option R} {Kk : Nat → PV → St → Option R} {Nk : Nat → TypeId → Value → St → Option R} {r : R} (h : hZ C o e st K N = some r)
 (hK : ∀ p s, K p s = some r → Evt (fun k => Kk k p s) r) (hN : ∀ t x s, N t x s = some r → Evt (fun k => Nk k t x s) r) : Evt (fun k => hZ (Ck k) o e st (Kk k) (Nk k)) r := by
 unfold hZ at h ⊢; simp only [H.P, H.base, H.md, H.gl]
 split at h <;> first
  | exact hK _ _ h
  | (obtain ⟨p, hp, h⟩ := Option.bind_eq_some_iff.1 h; simp only [hp, ag]; exact hK _ _ h)
  | (obtain ⟨p, hp, h⟩ := Option.bind_eq_some_iff.1 h; obtain ⟨q, hq, h⟩ := Option.bind_eq_some_iff.1 h; simp only [hp, hq, ag]; exact hK _ _ h)
  | (cases h; done)
  | skip
 · -- buildSlice
   cases hm : ai (C.md.of o.dst) 0 with
   | true =>
    rw [hm] at h
    obtain ⟨p, hp, h⟩ := Option.bind_eq_some_iff.1 h; simp only [hp, cond_true, ag]; exact hK _ _ h
   | false =>
    rw [hm] at h
    obtain ⟨p, hp, h⟩ := Option.bind_eq_some_iff.1 h; simp only [hp, cond_false, ag]; exact hK _ _ h
 · -- load
   split at h
   · obtain ⟨p, hp, h⟩ := Option.bind_eq_some_iff.1 h; simp only [hp, ag]; exact hK _ _ h
   · cases h
 · -- call
   split at h
   · exact yC H h hK
   · rename_i g hc
     simp only [BG H]; obtain ⟨q, hq, h⟩ := Option.bind_eq_some_iff.1 h; refine (H.call _ _ _ _ hq).bind ?_
     cases hi : ug C g with
     | true => rw [hi] at h; exact ye h hK hN
     | false => rw [hi] at h; exact hK _ _ h
   · unfold fJ at h ⊢
     split at h
     · obtain ⟨q, hq, h⟩ := Option.bind_eq_some_iff.1 h
       exact (H.call _ _ _ _ hq).bind (oW h hK)
     · obtain ⟨q, hq, h⟩ := Option.bind_eq_some_iff.1 h
       exact (H.call _ _ _ _ hq).bind (oW h hK)
     · cases h
   · cases h
 · -- panic
   unfold sc at h ⊢; split at h
   · exact hN _ _ _ h
   · cases h
theorem eF {R : Type} {ops : Array Oper} {o : Oper} {e : Env} {st : St} {K : PV → St → Option R} {N : TypeId → Value → St → Option R} {Kk : Nat → PV → St → Option R} {Nk : Nat → TypeId → Value → St → Option R} {r : R} (h : guarded C ops o e st K N = some r)
 (hK : ∀ p s, K p s = some r → Evt (fun k => Kk k p s) r) (hN : ∀ t x s, N t x s = some r → Evt (fun k => Nk k t x s) r) : Evt (fun k => guarded (Ck k) ops o e st (Kk k) (Nk k)) r := by
 unfold guarded at h ⊢; split at h
 · exact su H h hK hN
 · rename_i j want hg
   split at h
   · rename_i t ht
     obtain ⟨q, hq, h⟩ := Option.bind_eq_some_iff.1 h; refine Evt.bind (a := q) ?_ (hK _ _ h); unfold onG at hq ⊢; split at hq
     · rename_i b hb
       cases hw : (b == want) with
       | true =>
        rw [hw] at hq; simp only [hw, cond_true] at hq ⊢
        exact su H hq (fun p s hps => Evt.const hps) fun t x s hps => by cases hps
       | false =>
        rw [hw] at hq; simp only [hw, cond_false] at hq ⊢; exact Evt.const hq
     · exact Evt.const hq
     · cases hq
   · cases h
theorem oJ {R : Type} {ops : Array Oper} {K : Env → St → Option R} {N : TypeId → Value → St → Option R} {Kk : Nat → Env → St → Option R} {Nk : Nat → TypeId → Value → St → Option R} {r : R} (hK : ∀ e s, K e s = some r → Evt (fun k => Kk k e s) r) (hN : ∀ t x s, N t x s = some r → Evt (fun k => Nk k t x s) r) :
 ∀ (os : List Oper) (e : Env) (st : St), jB C ops os e st K N = some r → Evt (fun k => jB (Ck k) ops os e st (Kk k) (Nk k)) r
 | [], e, st, h => hK e st h
 | o :: os, e, st, h => by
  simp only [jB, H.n] at h ⊢; exact eF H h (fun p s hp => oJ hK hN os _ _ hp) hN
theorem ji {ops : Array Oper} {o : Oper} {e : Env} {s : St} {r : Rs × St} (h : alone C ops o e s = some r) : Evt (fun k => alone (Ck k) ops o e s) r :=
 eF H h (fun _ _ hp => Evt.const hp) fun _ _ _ hp => Evt.const hp
omit H in
theorem gH {R : Type} {c : Prop} {ck : Nat → Prop} {x : Option R} {xk : Nat → Option R} {r : R} (h : bM c x = some r) (hc : c → ∃ k0, ∀ k, k0 ≤ k → ck k) (hx : x = some r → Evt xk r) : Evt (fun k => bM (ck k) (xk k)) r := by
 unfold bM at h ⊢; split at h
 · rename_i hh
   obtain ⟨k1, h1⟩ := hc hh; obtain ⟨k2, h2⟩ := hx h
   exact ⟨max k1 k2, fun k hk => by
    have := h1 k (by omega); simp only [this, if_true]
    exact h2 k (by omega)⟩
 · cases h
omit H in
theorem gd {R α : Type} {p : α → Prop} {pk : Nat → α → Prop} (hp : ∀ a, p a → ∃ k0, ∀ k, k0 ≤ k → pk k a) {xk : Nat → Option R} {r : R} : ∀ (l : List α) {x : Option R}, hI (l.map p) x = some r → (x = some r → Evt xk r) → Evt (fun k => hI (l.map (pk k)) (xk k)) r
 | [], x, h, hx => hx h
 | a :: l, x, h, hx => by
  simp only [bq, hI] at h ⊢
  exact gH h (hp a) fun h => gd hp l h hx
theorem kZ {R : Type} {ops : Array Oper} {bs : Array Nat} {k0 : Nat} {st : St} {aF : List (Nat × St)} {fin : Option R} {fink : Nat → Option R} {r : R} (hf : fin = some r → Evt fink r) :
 ∀ (os : List Oper) (i : Nat) (e : Env), jw C ops bs k0 st aF fin os i e = some r → Evt (fun k => jw (Ck k) ops bs k0 st aF (fink k) os i e) r
 | [], i, e, h => hf h
 | o :: os, i, e, h => by
  have htold : ∀ (x : Seen) (s : St), told C ops x s → ∃ k0, ∀ k, k0 ≤ k → told (Ck k) ops x s := fun x s hx => ji H hx
  simp only [jw, H.n, H.imp, H.md] at h ⊢
  cases hb : (bs.getD i 0).testBit k0 with
  | true =>
   rw [hb] at h; simp only [cond_true] at h ⊢; exact kZ hf os (i + 1) e h
  | false =>
   rw [hb] at h; simp only [cond_false] at h ⊢; split at h
   · exact eF H h (fun p s hp => kZ hf os _ _ hp) fun _ _ _ hp => by cases hp
   · exact eF H h (fun p s hp => gH hp (fun hc => ⟨0, fun _ _ => hc⟩) fun hp =>
      gd (pk := fun k a => told (Ck k) ops ⟨i, o, e, p⟩ a.2) (fun a ha => htold _ _ ha) _ hp fun hp => kZ hf os _ _ hp) fun _ _ _ hp => by cases hp
   · cases h
theorem jy {R : Type} {ops : Array Oper} {bs : Array Nat} {K : Env → St → Option R} {N : TypeId → Value → St → Option R} {Kk : Nat → Env → St → Option R} {Nk : Nat → TypeId → Value → St → Option R} {r : R} (hK : ∀ e s, K e s = some r → Evt (fun k => Kk k e s) r) (hN : ∀ t x s, N t x s = some r → Evt (fun k => Nk k t x s) r) :
 ∀ (os : List Oper) (i : Nat) (e : Env) (st : St) (seen : List Seen) (aF : List (Nat × St)), jx C ops bs os i e st seen aF K N = some r → Evt (fun k => jx (Ck k) ops bs os i e st seen aF (Kk k) (Nk k)) r
 | [], i, e, st, seen, aF, h => hK e st h
 | o :: os, i, e, st, seen, aF, h => by
  have htold : ∀ (x : Seen) (s : St), told C ops x s → ∃ k0, ∀ k, k0 ≤ k → told (Ck k) ops x s := fun x s hx => ji H hx
  simp only [jx, H.n, H.imp, H.md] at h ⊢; split at h
  · exact eF H h (fun p s hp => jy hK hN os _ _ _ _ _ hp) fun _ _ _ hp => by cases hp
  · exact eF H h (fun p s hp => gH hp (fun hc => ⟨0, fun _ _ => hc⟩) fun hp =>
     gd (pk := fun k a => told (Ck k) ops ⟨i, o, e, p⟩ a.2) (fun a ha => htold _ _ ha) _ hp fun hp => jy hK hN os _ _ _ _ _ hp) fun _ _ _ hp => by cases hp
  · cases hb : aF.all (fun a => (bs.getD i 0).testBit a.1) with
    | false => rw [hb] at h; simp at h
    | true =>
     rw [hb] at h; simp only [cond_true] at h ⊢
     exact eF H h (fun p s hp => gd (pk := fun k x => told (Ck k) ops x s) (fun a ha => htold _ _ ha) _ hp fun hp => jy hK hN os _ _ _ _ _ hp)
      fun t x s hp => kZ H (fun hp => hN t x s hp) os _ _ hp
omit H in
theorem iK {R : Type} {ops : Array Oper} {bs : Array Nat} {k1 m k0 : Nat} {z : List PV} {st : St} {aF : List (Nat × St)} {r' r : R} : ∀ {os : List Oper} {i : Nat} {e : Env}, gj C ops bs k1 z m k0 st aF (some r') os i e = some r → r' = r
 | [], i, e, h => Option.some.inj h
 | o :: os, i, e, h => by
  simp only [gj] at h
  cases hb : (bs.getD i 0).testBit k0 with
  | true => rw [hb, cond_true] at h; exact iK h
  | false =>
   rw [hb, cond_false] at h
   cases hk : ai i k1 with
   | true => rw [hk, cond_true] at h; exact iK h
   | false =>
    rw [hk, cond_false] at h; split at h
    · rw [dm] at h
      obtain ⟨⟨q, s⟩, hq, h⟩ := Option.bind_eq_some_iff.1 h
      cases q with
      | ret p => exact iK h
      | pan t x => cases h
    · rw [dm] at h
      obtain ⟨⟨q, s⟩, hq, h⟩ := Option.bind_eq_some_iff.1 h
      cases q with
      | ret p => exact iK (fu (fE (fE h).2).2).2
      | pan t x => cases h
    · cases h
theorem iJ {R : Type} {ops : Array Oper} {bs : Array Nat} {k1 m k0 : Nat} {z : List PV} {st : St} {aF : List (Nat × St)} {fin : Option R} {fink : Nat → Option R} {r : R} (hf : fin = some r → Evt fink r) :
 ∀ (os : List Oper) (i : Nat) (e : Env), gj C ops bs k1 z m k0 st aF fin os i e = some r → Evt (fun k => gj (Ck k) ops bs k1 z m k0 st aF (fink k) os i e) r
 | [], i, e, h => hf h
 | o :: os, i, e, h => by
  have htold : ∀ (x : Seen) (s : St), told C ops x s → ∃ k0, ∀ k, k0 ≤ k → told (Ck k) ops x s := fun x s hx => ji H hx
  simp only [gj, H.n, H.imp, H.md] at h ⊢
  cases hb : (bs.getD i 0).testBit k0 with
  | true =>
   rw [hb] at h; simp only [cond_true] at h ⊢; exact iJ hf os (i + 1) e h
  | false =>
   rw [hb] at h; simp only [cond_false] at h ⊢
   cases hk : ai i k1 with
   | true =>
    rw [hk] at h; simp only [cond_true] at h ⊢; exact iJ hf os (i + 1) _ h
   | false =>
    rw [hk] at h; simp only [cond_false] at h ⊢; split at h
    · exact eF H h (fun p s hp => iJ hf os _ _ hp) fun _ _ _ hp => by cases hp
    · exact eF H h (fun p s hp => gH hp (fun hc => ⟨0, fun _ _ => hc⟩) fun hp => gH hp (fun hc => htold _ _ hc) fun hp =>
       gd (pk := fun k a => told (Ck k) ops ⟨i, o, e, p⟩ a.2) (fun a ha => htold _ _ ha) _ hp fun hp => iJ hf os _ _ hp) fun _ _ _ hp => by cases hp
    · cases h
theorem jA {R : Type} {ops : Array Oper} {bs : Array Nat} {k1 m : Nat} {z : List PV} {K : Env → St → Option R} {N : TypeId → Value → St → Option R} {Kk : Nat → Env → St → Option R} {Nk : Nat → TypeId → Value → St → Option R} {r : R} (hK : ∀ e s, K e s = some r → Evt (fun k => Kk k e s) r) (hN : ∀ t x s, N t x s = some r → Evt (fun k => Nk k t x s) r) :
 ∀ (os : List Oper) (i : Nat) (e : Env) (st : St) (seen : List Seen) (aF : List (Nat × St)), jz C ops bs k1 z m os i e st seen aF K N = some r → Evt (fun k => jz (Ck k) ops bs k1 z m os i e st seen aF (Kk k) (Nk k)) r
 | [], i, e, st, seen, aF, h => hK e _ h
 | o :: os, i, e, st, seen, aF, h => by
  have htold : ∀ (x : Seen) (s : St), told C ops x s → ∃ k0, ∀ k, k0 ≤ k → told (Ck k) ops x s := fun x s hx => ji H hx
  have hd := jy H (K := K) (N := N) (Kk := Kk) (Nk := Nk) (ops := ops) (bs := bs) hK hN (o :: os) i e; simp only [jz, H.n, H.imp, H.md] at h ⊢
  cases hk : ai i k1 with
  | true =>
   rw [hk] at h; simp only [cond_true] at h ⊢; exact jA hK hN os (i + 1) _ _ _ _ h
  | false =>
   rw [hk] at h; simp only [cond_false] at h ⊢; split at h
   · exact eF H h (fun p s hp => jA hK hN os _ _ _ _ _ hp) fun _ _ _ hp => by cases hp
   · cases hb : (bs.getD i 0).testBit k1 with
     | true => rw [hb] at h; cases h
     | false =>
      rw [hb] at h; simp only [cond_false] at h ⊢
      exact eF H h (fun p s hp => gH hp (fun hc => ⟨0, fun _ _ => hc⟩) fun hp => gH hp (fun hc => htold _ _ hc) fun hp =>
       gd (pk := fun k a => told (Ck k) ops ⟨i, o, e, p⟩ a.2) (fun a ha => htold _ _ ha) _ hp fun hp => jA hK hN os _ _ _ _ _ hp) fun _ _ _ hp => by cases hp
   · cases hb : (bs.getD i 0).testBit k1 with
     | true =>
      rw [hb] at h; simp only [cond_true] at h ⊢; exact hd _ _ _ h
     | false =>
      rw [hb] at h; simp only [cond_false] at h ⊢
      cases hb : aF.all (fun a => (bs.getD i 0).testBit a.1) with
      | false => rw [hb] at h; simp at h
      | true =>
       rw [hb] at h; simp only [cond_true] at h ⊢
       refine eF H h (fun p s hp => gH hp (fun hc => ji H hc) fun hp => gH hp (fun hc => ⟨0, fun _ _ => hc⟩) fun hp =>
        gd (pk := fun k x => told (Ck k) ops x s) (fun a ha => htold _ _ ha) _ hp fun hp => gd (pk := fun k x => told (Ck k) ops x (s.push z)) (fun a ha => htold _ _ ha) _ hp fun hp => jA hK hN os _ _ _ _ _ hp) fun t x s hp => ?_
       refine gH hp (fun hc => ji H hc) fun hp => ?_
       obtain ⟨r', hr', hp⟩ := Option.bind_eq_some_iff.1 hp
       obtain ⟨hc, hp⟩ : N t x (s.push z) = some r' ∧ gj C ops bs k1 z m i st aF (some r') os (i + 1) e = some r := by
        unfold bM at hp; split at hp
        · rename_i hh; exact ⟨hh, hp⟩
        · cases hp
       obtain rfl : r' = r := iK hp; refine (hN t x s hr').bind (gH (c := True) (x := gj C ops bs k1 z m i st aF (some r') os (i + 1) e) (by unfold bM; rw [if_pos trivial]; exact hp) (fun _ => hN t x _ hc) fun hp => iJ H (fun hq => Evt.const hq) os _ _ hp)
theorem xW {R : Type} {ops : Array Oper} {K : Env → St → Option R} {N : TypeId → Value → St → Option R} {Kk : Nat → Env → St → Option R} {Nk : Nat → TypeId → Value → St → Option R} {r : R} {e : Env} {st : St} (hK : ∀ e s, K e s = some r → Evt (fun k => Kk k e s) r) (hN : ∀ t x s, N t x s = some r → Evt (fun k => Nk k t x s) r)
 (h : lS C ops e st K N = some r) : Evt (fun k => lS (Ck k) ops e st (Kk k) (Nk k)) r := by
 unfold lS at h ⊢; simp only [H.P, H.imp, H.md] at h ⊢; split at h
 · exact jy H hK hN ops.toList 0 e st [] [] h
 · obtain ⟨z, hz, h⟩ := Option.bind_eq_some_iff.1 h
   simp only [hz, ag]; exact jA H hK hN ops.toList 0 e st [] [] h
theorem kX : ∀ (c : Code) (A : Ann) (e : Env) (st : St) {R : Type} (K : Ex → Env → St → Option R) (Kk : Nat → Ex → Env → St → Option R) (r : R), fq C c A e st K = some r →
 (∀ x e s, K x e s = some r → Evt (fun k => Kk k x e s) r) → Evt (fun k => fq (Ck k) c A e st (Kk k)) r := by
 intro c
 induction c with
 | skip => intro A e st R K Kk r h hK; exact hK _ _ _ h
 | region id ops d =>
  intro A e st R K Kk r h hK
  cases d with
  | false => exact oJ H (fun e s hk => hK _ _ _ hk) (fun t x s hk => hK _ _ _ hk) ops.toList e st h
  | true =>
   have h : (bif gB ops (Region.before ops) ops.toList 0 then lS C ops e st (fun e' st' => K .normal e' st') (fun t x st' => K (.pan t x) e st') else none) = some r := h
   show Evt (fun k => bif gB ops (Region.before ops) ops.toList 0 then lS (Ck k) ops e st (fun e' st' => Kk k .normal e' st') (fun t x st' => Kk k (.pan t x) e st') else none) r
   cases hc : gB ops (Region.before ops) ops.toList 0 with
   | false => rw [hc] at h; simp at h
   | true =>
    rw [hc] at h; exact xW H (fun e s hk => hK _ _ _ hk) (fun t x s hk => hK _ _ _ hk) h
 | seq x y ihx ihy =>
  intro A e st R K Kk r h hK
  refine ihx A.x e st _ _ r h fun z e' s' hz => ?_
  cases z with
  | normal => exact ihy A.y e' s' K Kk r hz hK
  | exit i => exact hK _ _ _ hz
  | ret => exact hK _ _ _ hz
  | pan t v => exact hK _ _ _ hz
 | cond b x y ihx ihy =>
  intro A e st R K Kk r h hK; have h : aD (dI C.gl e b) (fun t => (bif t then fq C x A.x e st (leave A.live) else fq C y A.y e st (leave A.live)).bind fun r => K r.1 (fO A.live r.2.1) r.2.2) = some r := h
  show Evt (fun k => aD (dI (Ck k).gl e b) (fun t => (bif t then fq (Ck k) x A.x e st (leave A.live) else fq (Ck k) y A.y e st (leave A.live)).bind fun r => Kk k r.1 (fO A.live r.2.1) r.2.2)) r
  simp only [H.gl]; unfold aD at h ⊢; split at h
  · rename_i t ht
    obtain ⟨q, hq, h⟩ := Option.bind_eq_some_iff.1 h; refine Evt.bind (a := q) ?_ (hK _ _ _ h)
    cases t with
    | true => exact ihx A.x e st _ _ q hq fun z e' s' hz => Evt.const hz
    | false => exact ihy A.y e st _ _ q hq fun z e' s' hz => Evt.const hz
  · cases h
 | block id x ih =>
  intro A e st R K Kk r h hK
  exact ih A.x e st _ _ r h fun z e' s' hz => hK _ _ _ hz
 | loop x ih =>
  intro A e st R K Kk r h hK; obtain ⟨q, hq, h⟩ := Option.bind_eq_some_iff.1 h
  show Evt (fun k => ((Ck k).it (fun vs s => fq (Ck k) x A.x (fO A.live vs) s (zQ A.tr (Ck k).base (Ck k).lb s.stk.length A.live)) (A.live.map e) st).bind fun r => Kk k r.1 (fO A.live r.2.1) r.2.2) r
  refine Evt.bind (a := q) (H.it _ _ (fun vs s r hr => ?_) _ _ _ hq) (hK _ _ _ h); simp only [H.base, H.lb]
  exact ih A.x _ s _ _ r hr fun z e' s' hz => Evt.const hz
 | rangeFunc g ps x y _ _ =>
  intro A e st R K Kk r h hK
  have h : fJ (dI C.gl e g) (fun f caps => bif lW C st && eM f then
   (C.call f (.clo (.yield st.lp.length) [] :: caps) { st with lp := st.lp ++ [.loop ⟨A.live, A.live.map e, C.n, C.md, ps.toList, x, y, A.x, 0, .normal⟩] }).bind fun r => dN r fun _ s => lA s st.stk.length st.tk.length st.lp.length fun x s => K x e s
    else none) = some r := h
  show Evt (fun k => fJ (dI (Ck k).gl e g) (fun f caps => bif lW (Ck k) st && eM f then
   ((Ck k).call f (.clo (.yield st.lp.length) [] :: caps) { st with lp := st.lp ++ [.loop ⟨A.live, A.live.map e, (Ck k).n, (Ck k).md, ps.toList, x, y, A.x, 0, .normal⟩] }).bind fun r => dN r fun _ s => lA s st.stk.length st.tk.length st.lp.length fun x s => Kk k x e s
    else none)) r
  have hrd : ∀ k, lW (Ck k) st = lW C st := fun k => by unfold lW; rw [H.rd]
  simp only [H.n, H.md, H.gl, hrd]
  have go : ∀ (f : Fn) (caps : List PV), (bif lW C st && eM f then
   (C.call f (.clo (.yield st.lp.length) [] :: caps) { st with lp := st.lp ++ [.loop ⟨A.live, A.live.map e, C.n, C.md, ps.toList, x, y, A.x, 0, .normal⟩] }).bind fun r => dN r fun _ s => lA s st.stk.length st.tk.length st.lp.length fun x s => K x e s
   else none) = some r → Evt (fun k => bif lW C st && eM f then
   ((Ck k).call f (.clo (.yield st.lp.length) [] :: caps) { st with lp := st.lp ++ [.loop ⟨A.live, A.live.map e, C.n, C.md, ps.toList, x, y, A.x, 0, .normal⟩] }).bind fun r => dN r fun _ s => lA s st.stk.length st.tk.length st.lp.length fun x s => Kk k x e s
   else none) r := by
   intro f caps h
   cases hb : lW C st && eM f with
   | false => rw [hb] at h; simp at h
   | true =>
    rw [hb] at h; simp only [cond_true] at h ⊢; obtain ⟨q, hq, h⟩ := Option.bind_eq_some_iff.1 h; refine Evt.bind (a := q) (H.call _ _ _ _ hq) (oW h fun _ s h => ?_); unfold lA at h ⊢; split at h
    · rename_i lp hlp
      cases hc : ai lp.at_ 1 || lX lp.mM with
      | true => rw [hc] at h; simp at h
      | false => rw [hc] at h; exact hK _ _ _ h
    · cases h
  unfold fJ at h ⊢; split at h
  · exact go _ _ h
  · exact go _ _ h
  · cases h
 | exit id => intro A e st R K Kk r h hK; exact hK _ _ _ h
 | ret => intro A e st R K Kk r h hK; exact hK _ _ _ h
 | scope x ih => intro A e st R K Kk r h hK; exact ih A e st K Kk r h hK
 | label l => intro A e st R K Kk r h hK; exact hK _ _ _ h
 | goto l => intro A e st R K Kk r h hK; cases h
 | refuse s => intro A e st R K Kk r h hK; cases h
end
open Classical in
noncomputable def rY {R : Type} (F : Nat → Option R) : Option R := if h : ∃ r, Evt F r then some h.choose else none
theorem kD {R : Type} {F : Nat → Option R} {r : R} (h : Evt F r) : rY F = some r := by
 unfold rY
 have hx : ∃ r, Evt F r := ⟨r, h⟩
 rw [dif_pos hx]; obtain ⟨k1, h1⟩ := h; obtain ⟨k2, h2⟩ := hx.choose_spec; have := h1 (max k1 k2) (by omega); rw [h2 (max k1 k2) (by omega)] at this; exact this
theorem fM {R : Type} {F : Nat → Option R} {r : R} (h : rY F = some r) : Evt F r := by
 unfold rY at h; split at h
 · rename_i hx
   obtain rfl := Option.some.inj h; exact hx.choose_spec
 · cases h
noncomputable def E (L : Lib) : bG := fun f args st => rY fun k => evF L k f args st
noncomputable def itE : bO := fun b vs st => rY fun k => iter b k vs st
theorem zO {b : List PV → St → Option (Ex × List PV × St)} {bk : Nat → List PV → St → Option (Ex × List PV × St)} (hb : ∀ vs st r, b vs st = some r → Evt (fun k => bk k vs st) r) :
 ∀ (n : Nat) (vs : List PV) (st : St) (r : Ex × List PV × St), iter b n vs st = some r → Evt (fun k => iter (bk k) k vs st) r
 | 0, vs, st, r, h => by cases h
 | n + 1, vs, st, r, h => by
  simp only [iter] at h; obtain ⟨q, hq, h⟩ := Option.bind_eq_some_iff.1 h; obtain ⟨k1, h1⟩ := hb vs st q hq
  replace h1 : ∀ k, k1 ≤ k → bk k vs st = some q := h1
  have key : ∃ k2, ∀ k j, k2 ≤ k → k2 ≤ j → iter (bk k) (j + 1) vs st = some r := by
   obtain ⟨x, vs', st'⟩ := q
   cases x with
   | normal =>
    obtain ⟨k3, h3⟩ := rW hb n vs' st' r h; exact ⟨max k1 k3, fun k j hk hj => by simp only [iter]; rw [h1 k (by omega)]; exact h3 k j (by omega) (by omega)⟩
   | exit i => exact ⟨k1, fun k j hk hj => by simp only [iter]; rw [h1 k (by omega)]; exact h⟩
   | ret => exact ⟨k1, fun k j hk hj => by simp only [iter]; rw [h1 k (by omega)]; exact h⟩
   | pan t v => exact ⟨k1, fun k j hk hj => by simp only [iter]; rw [h1 k (by omega)]; exact h⟩
  obtain ⟨k2, h2⟩ := key; refine ⟨k2 + 1, fun k hk => ?_⟩
  obtain ⟨j, rfl⟩ : ∃ j, k = j + 1 := ⟨k - 1, by omega⟩
  exact h2 (j + 1) j (by omega) (by omega)
where
 rW {b : List PV → St → Option (Ex × List PV × St)} {bk : Nat → List PV → St → Option (Ex × List PV × St)} (hb : ∀ vs st r, b vs st = some r → Evt (fun k => bk k vs st) r) :
  ∀ (n : Nat) (vs : List PV) (st : St) (r : Ex × List PV × St), iter b n vs st = some r → ∃ k0, ∀ k j, k0 ≤ k → k0 ≤ j → iter (bk k) j vs st = some r
 | 0, vs, st, r, h => by cases h
 | n + 1, vs, st, r, h => by
  simp only [iter] at h; obtain ⟨q, hq, h⟩ := Option.bind_eq_some_iff.1 h; obtain ⟨k1, h1⟩ := hb vs st q hq
  replace h1 : ∀ k, k1 ≤ k → bk k vs st = some q := h1
  obtain ⟨x, vs', st'⟩ := q
  cases x with
  | normal =>
   obtain ⟨k3, h3⟩ := rW hb n vs' st' r h; refine ⟨max k1 k3 + 1, fun k j hk hj => ?_⟩
   obtain ⟨j, rfl⟩ : ∃ i, j = i + 1 := ⟨j - 1, by omega⟩
   simp only [iter]; rw [h1 k (by omega)]; exact h3 k j (by omega) (by omega)
  | exit i =>
   refine ⟨k1 + 1, fun k j hk hj => ?_⟩
   obtain ⟨j, rfl⟩ : ∃ i, j = i + 1 := ⟨j - 1, by omega⟩
   simp only [iter]; rw [h1 k (by omega)]; exact h
  | ret =>
   refine ⟨k1 + 1, fun k j hk hj => ?_⟩
   obtain ⟨j, rfl⟩ : ∃ i, j = i + 1 := ⟨j - 1, by omega⟩
   simp only [iter]; rw [h1 k (by omega)]; exact h
  | pan t v =>
   refine ⟨k1 + 1, fun k j hk hj => ?_⟩
   obtain ⟨j, rfl⟩ : ∃ i, j = i + 1 := ⟨j - 1, by omega⟩
   simp only [iter]; rw [h1 k (by omega)]; exact h
theorem BH {b : List PV → St → Option (Ex × List PV × St)} {bk : Nat → List PV → St → Option (Ex × List PV × St)} (hb : ∀ vs st r, b vs st = some r → Evt (fun k => bk k vs st) r) {vs : List PV} {st : St} {r : Ex × List PV × St}
 (h : itE b vs st = some r) : Evt (fun k => itK k (bk k) vs st) r := by
 obtain ⟨k1, h1⟩ := fM h; exact zO hb k1 vs st r (h1 k1 (aq _))
theorem qA (b : List PV → St → Option (Ex × List PV × St)) (vs : List PV) (st : St) : itE b vs st = (b vs st).bind fun r => cd r.1 (itE b r.2.1 r.2.2) fun _ => some r := by
 cases hb : b vs st with
 | none =>
  cases hi : itE b vs st with
  | none => rfl
  | some r =>
   exfalso
   obtain ⟨k1, h1⟩ := fM hi; have := h1 (k1 + 1) (by omega); simp only [iter, hb] at this; cases this
 | some q =>
  rw [ag]; obtain ⟨x, vs', st'⟩ := q
  cases x with
  | normal =>
   show itE b vs st = itE b vs' st'
   have hstep : ∀ k, iter b (k + 1) vs st = iter b k vs' st' := fun k => by simp only [iter, hb]; rfl
   cases hi : itE b vs' st' with
   | some r =>
    obtain ⟨k1, h1⟩ := fM hi; refine kD ⟨k1 + 1, fun k hk => ?_⟩
    obtain ⟨j, rfl⟩ : ∃ i, k = i + 1 := ⟨k - 1, by omega⟩
    show iter b (j + 1) vs st = some r
    rw [hstep]; exact h1 j (by omega)
   | none =>
    cases hj : itE b vs st with
    | none => rfl
    | some r =>
     exfalso
     obtain ⟨k1, h1⟩ := fM hj
     have : itE b vs' st' = some r := kD ⟨k1, fun k hk => by
      show iter b k vs' st' = some r
      rw [← hstep]; exact h1 (k + 1) (by omega)⟩
     rw [hi] at this; cases this
  | exit i => exact kD ⟨1, fun k hk => by obtain ⟨j, rfl⟩ : ∃ i, k = i + 1 := ⟨k - 1, by omega⟩; simp only [iter, hb]; rfl⟩
  | ret => exact kD ⟨1, fun k hk => by obtain ⟨j, rfl⟩ : ∃ i, k = i + 1 := ⟨k - 1, by omega⟩; simp only [iter, hb]; rfl⟩
  | pan t v => exact kD ⟨1, fun k hk => by obtain ⟨j, rfl⟩ : ∃ i, k = i + 1 := ⟨k - 1, by omega⟩; simp only [iter, hb]; rfl⟩
theorem fW {R : Type} {C1 C2 : Cfg} (h : C1.P = C2.P) : ∀ (rs : List ResultVar) (e : Env) (st : St) (K : List PV → Option R), fi C1 rs e st K = fi C2 rs e st K
 | [], e, st, K => rfl
 | .tmp t :: rs, e, st, K => fW h rs e st _
 | .cell a t :: rs, e, st, K => by
  simp only [fi, h]
  cases C2.P.underlying t with
  | none => rfl
  | some d =>
   show (al (mY C2.P t) (szT C2.P t) (e a) st).bind (fun p => fi C1 rs e st fun ps => K (p :: ps)) = (al (mY C2.P t) (szT C2.P t) (e a) st).bind (fun p => fi C2 rs e st fun ps => K (p :: ps))
   congr 1
   funext p
   exact fW h rs e st _
structure yW (callk : Nat → bG) (itk : Nat → bO) (call : bG) (it : bO) : Prop where
 call : ∀ f args st r, call f args st = some r → Evt (fun k => callk k f args st) r
 it : ∀ (b : List PV → St → Option (Ex × List PV × St)) (bk : Nat → List PV → St → Option (Ex × List PV × St)), (∀ vs st r, b vs st = some r → Evt (fun k => bk k vs st) r) → ∀ vs st r, it b vs st = some r → Evt (fun k => itk k (bk k) vs st) r
section
variable {callk : Nat → bG} {itk : Nat → bO} {call : bG} {it : bO} (H : yW callk itk call it) {L : Lib}
include H
theorem yW.lim (n base : Nat) (imp : List FuncId) (md : Md) (rd : Option Nat) (lb : Nat) (gl : Nat → PV) (pn : List FuncId) : Lim (fun k => ⟨L.P, callk k, n, base, itk k, imp, md, rd, lb, gl, pn⟩) ⟨L.P, call, n, base, it, imp, md, rd, lb, gl, pn⟩ :=
 ⟨fun _ => rfl, fun _ => rfl, fun _ => rfl, fun _ => rfl, fun _ => rfl, fun _ => rfl, fun _ => rfl, fun _ => rfl, fun _ => rfl, H.call, H.it⟩
theorem qi {f : FuncId} {fn : Func} {c : Code} {args : List PV} {st : St} {r : PV × St} (h : gO L call it f fn c args st = some r) : Evt (fun k => gO L (callk k) (itk k) f fn c args st) r := by
 unfold gO at h ⊢
 cases hn : di args.length fn.ntmps with
 | false => rw [hn] at h; simp at h
 | true =>
  rw [hn] at h; simp only [cond_true] at h ⊢
  refine kX (H.lim fn.ntmps st.stk.length L.imp (L.md f) none st.lp.length L.gl L.pn) c (L.ann f) _ st _ _ r h fun x e s hx => ?_
  cases hpn : L.pn.any (ai f) with
  | false =>
   rw [hpn] at hx; simp only [hpn, cond_false] at hx ⊢
   cases x with
   | normal => exact (Evt.const hx).congr fun k => by simp only [ep]; refine fW ?_ _ _ _ _; rfl
   | ret => exact (Evt.const hx).congr fun k => by simp only [ep]; refine fW ?_ _ _ _ _; rfl
   | exit i => cases hx
   | pan t v => cases hx
  | true =>
   rw [hpn] at hx; simp only [hpn, cond_true] at hx ⊢
   cases x with
   | normal => exact (Evt.const hx).congr fun k => by simp only [fv]; refine fW ?_ _ _ _ _; rfl
   | ret => exact (Evt.const hx).congr fun k => by simp only [fv]; refine fW ?_ _ _ _ _; rfl
   | exit i => cases hx
   | pan t v => exact Evt.const hx
theorem yu {i : Nat} {lp : Lp} {args : List PV} {st : St} {r : PV × St} (h : il L call it i lp args st = some r) : Evt (fun k => il L (callk k) (itk k) i lp args st) r := by
 unfold il at h ⊢
 cases hn : ai lp.at_ 0 && ai args.length lp.ps.length with
 | false => rw [hn] at h; simp at h
 | true =>
  rw [hn] at h; simp only [cond_true] at h ⊢
  refine kX (H.lim lp.n st.stk.length L.imp lp.md (some i) st.lp.length L.gl L.pn) lp.assign lp.A.x _ st _ _ r h fun x e s hx => ?_
  cases hx2 : fT x with
  | false => rw [hx2] at hx; simp at hx
  | true =>
   rw [hx2] at hx; simp only [cond_true] at hx ⊢; unfold sM at hx ⊢; split at hx
   · rename_i q hq
     cases h0 : ai q.at_ 0 with
     | false => rw [h0] at hx; simp at hx
     | true =>
      rw [h0] at hx; simp only [cond_true] at hx ⊢
      exact kX (H.lim lp.n st.stk.length L.imp lp.md (some i) st.lp.length L.gl L.pn) lp.body lp.A.y e _ _ _ r hx fun x e s hx => Evt.const hx
   · cases hx
end
theorem kC {R : Type} {x : Option R} {r : R} (h : Evt (fun _ => x) r) : x = some r := by
 obtain ⟨k, h⟩ := h; exact h k (aq _)
theorem qv {L : Lib} : ∀ (k : Nat) (g : Fn) (args : List PV) (st : St) (r : PV × St), evF L k g args st = some r → evF L (k + 1) g args st = some r
 | 0, g, args, st, r, h => by cases h
 | k + 1, g, args, st, r, h => by
  have hl : yW (fun _ => evF L (k + 1)) (fun _ => itK (k + 1)) (evF L k) (itK k) :=
   ⟨fun f args st r h => Evt.const (qv k f args st r h), fun b bk hb vs st r h => by
    obtain ⟨k1, h1⟩ : Evt (fun j => itK (k + 1) (bk j) vs st) r := by
     have : ∀ (n : Nat) (vs : List PV) (st : St) (r : Ex × List PV × St), iter b n vs st = some r → ∀ m, n ≤ m → Evt (fun j => iter (bk j) m vs st) r := by
      intro n
      induction n with
      | zero => intro vs st r h; cases h
      | succ n ih =>
       intro vs st r h m hm
       obtain ⟨m, rfl⟩ : ∃ i, m = i + 1 := ⟨m - 1, by omega⟩
       simp only [iter] at h ⊢; obtain ⟨q, hq, h⟩ := Option.bind_eq_some_iff.1 h; refine (hb _ _ _ hq).bind ?_; obtain ⟨x, vs', st'⟩ := q
       cases x with
       | normal => exact ih vs' st' r h m (by omega)
       | exit i => exact Evt.const h
       | ret => exact Evt.const h
       | pan t v => exact Evt.const h
     exact this k vs st r h (k + 1) (Nat.le_succ _)
    exact ⟨k1, h1⟩⟩
  cases g with
  | func f =>
   have h : (match L.lh f with
    | some q => q.g (evF L k) args st
    | none => match L.P.funcs[f]? with
     | some fn => match fn.body with
      | some c => gO L (evF L k) (itK k) f fn c args st
      | none => none
     | none => none) = some r := h
   show (match L.lh f with
    | some q => q.g (evF L (k + 1)) args st
    | none => match L.P.funcs[f]? with
     | some fn => match fn.body with
      | some c => gO L (evF L (k + 1)) (itK (k + 1)) f fn c args st
      | none => none
     | none => none) = some r
   cases hp : L.lh f with
   | some q => rw [hp] at h; exact kC (q.lim (Ck := fun _ => evF L (k + 1)) (fun f args st r h => Evt.const (qv k f args st r h)) args st r h)
   | none =>
    rw [hp] at h; simp only at h ⊢
    cases hf : L.P.funcs[f]? with
    | none => rw [hf] at h; cases h
    | some fn =>
     rw [hf] at h; simp only at h ⊢
     cases hb : fn.body with
     | none => rw [hb] at h; cases h
     | some c =>
      rw [hb] at h; exact kC (qi hl h)
  | yield i =>
   have h : (match st.loop i with
    | some r => il L (evF L k) (itK k) i r args st
    | none => none) = some r := h
   show (match st.loop i with
    | some r => il L (evF L (k + 1)) (itK (k + 1)) i r args st
    | none => none) = some r
   cases hq : st.loop i with
   | none => rw [hq] at h; cases h
   | some lp =>
    rw [hq] at h; exact kC (yu hl h)
  | _ => cases h
theorem zw {L : Lib} {k : Nat} {g : Fn} {args : List PV} {st : St} {r : PV × St} (h : evF L k g args st = some r) : ∀ j, k ≤ j → evF L j g args st = some r := by
 intro j hj
 obtain ⟨d, rfl⟩ : ∃ d, j = k + d := ⟨j - k, by omega⟩
 induction d with
 | zero => exact h
 | succ d ih => exact qv _ _ _ _ _ (ih (by omega))
theorem AO {L : Lib} {k : Nat} {g : Fn} {args : List PV} {st : St} {r : PV × St} (h : evF L k g args st = some r) : E L g args st = some r := kD ⟨k, zw h⟩
theorem vK (L : Lib) (k : Nat) : yW (fun _ => E L) (fun _ => itE) (evF L k) (itK k) := by
 refine ⟨fun f args st r h => Evt.const (AO h), fun b bk hb vs st r h => ?_⟩
 have : ∀ (n : Nat) (vs : List PV) (st : St) (r : Ex × List PV × St), iter b n vs st = some r → Evt (fun j => itE (bk j) vs st) r := by
  intro n
  induction n with
  | zero => intro vs st r h; cases h
  | succ n ih =>
   intro vs st r h; simp only [iter] at h; obtain ⟨q, hq, h⟩ := Option.bind_eq_some_iff.1 h
   refine Evt.congr (F := fun j => (bk j vs st).bind fun r => cd r.1 (itE (bk j) r.2.1 r.2.2) fun _ => some r) ?_ fun j => (qA (bk j) vs st).symm
   refine (hb _ _ _ hq).bind ?_; obtain ⟨x, vs', st'⟩ := q
   cases x with
   | normal => exact ih vs' st' r h
   | exit i => exact Evt.const h
   | ret => exact Evt.const h
   | pan t v => exact Evt.const h
 exact this k vs st r h
theorem Ds (L : Lib) : yW (fun k => evF L k) itK (E L) itE := ⟨fun f args st r h => fM h, fun b bk hb vs st r h => BH hb h⟩
theorem wx {L : Lib} {f : FuncId} {q : pg} (hp : L.lh f = some q) (args : List PV) (st : St) : E L (.func f) args st = q.g (E L) args st := by
 have step : ∀ k, evF L (k + 1) (.func f) args st = q.g (evF L k) args st := fun k => by
  show (match L.lh f with
   | some q => q.g (evF L k) args st
   | none => _) = _
  rw [hp]
 cases hg : q.g (E L) args st with
 | some r =>
  obtain ⟨k, hk⟩ := q.lim (Ck := fun k => evF L k) (fun f args st r h => fM h) args st r hg; exact AO (k := k + 1) ((step k).trans (hk k (aq _)))
 | none =>
  cases he : E L (.func f) args st with
  | none => rfl
  | some r =>
   obtain ⟨k, hk⟩ := fM he; have h1 := hk (k + 1) (by omega); simp only [] at h1; rw [step] at h1; have := kC (q.lim (Ck := fun _ => E L) (fun f args st r h => Evt.const (AO h)) args st r h1)
   rw [hg] at this; cases this
theorem pZ {L : Lib} {f : FuncId} {g : List PV → St → Option (PV × St)} (hp : L.lh f = some (.pure g)) (args : List PV) (st : St) : E L (.func f) args st = g args st := wx hp args st
theorem Cy {L : Lib} {f : FuncId} {fn : Func} {c : Code} (hp : L.lh f = none) (hf : L.P.funcs[f]? = some fn) (hb : fn.body = some c) (args : List PV) (st : St) : E L (.func f) args st = gO L (E L) itE f fn c args st := by
 have step : ∀ k, evF L (k + 1) (.func f) args st = gO L (evF L k) (itK k) f fn c args st := fun k => by
  show (match L.lh f with
   | some q => q.g (evF L k) args st
   | none => match L.P.funcs[f]? with
    | some fn => match fn.body with
     | some c => gO L (evF L k) (itK k) f fn c args st
     | none => none
    | none => none) = _
  rw [hp]; simp only [hf, hb]
 cases hg : gO L (E L) itE f fn c args st with
 | some r =>
  obtain ⟨k, hk⟩ := qi (Ds L) hg; exact AO (k := k + 1) ((step k).trans (hk k (aq _)))
 | none =>
  cases he : E L (.func f) args st with
  | none => rfl
  | some r =>
   obtain ⟨k, hk⟩ := fM he; have := hk (k + 1) (by omega); simp only [] at this; rw [step] at this; have := kC (qi (vK L k) this); rw [hg] at this; cases this
theorem DI {L : Lib} {g : Fn} {args : List PV} {st : St} {r : PV × St} (h : E L g args st = some r) : ∃ k, evF L k g args st = some r := by
 obtain ⟨k, hk⟩ := fM h; exact ⟨k, hk k (aq _)⟩
def _root_.Go.Code.l : Code → Code
 | .seq a _ | .cond _ a _ | .block _ a | .loop a | .scope a | .rangeFunc _ _ a _ => a
 | c => c
def _root_.Go.Code.r : Code → Code
 | .seq _ b | .cond _ _ b | .rangeFunc _ _ _ b => b
 | c => c
def aX (places : List (Nat × Nat)) (z : List PV) (parts : List (Nat × PV)) : Option PV := (cm (fun i => places.toArray[i]?) z parts).bind fun cs => some (.agg cs)
def jI (sz : Nat) (z : List PV) (n : Nat) (parts : List (Nat × PV)) : Option (List PV × Nat) := (cm (fun i => some (i * sz, sz)) (fV n z) parts).bind fun cs => (cC cs).bind fun ds => some (ds, sz)
def bj (sz : Nat) (z : List PV) (n : Nat) (parts : List (Nat × PV)) : Option PV := (jI sz z n parts).bind fun r => some (.sl (chunks r.2 n r.1) .full)
def ej (base : Nat) (z : List PV) (sz bytes : Nat) (s : PV) (ys : List (List PV)) (st : St) : Option (PV × St) := match s with
 | .rs h b off len sz' => (some z).bind fun _ => nE base sz bytes (.rs h b off len sz') ys st
 | s => mw sz bytes s ys st
theorem bJ {L : Lib} {f : FuncId} {fn : Func} (hp : L.lh f = none) (hf : L.P.funcs[f]? = some fn) (args : List PV) (st : St) : E L (.func f) args st = match fn.body with
 | some c => gO L (E L) itE f fn c args st
 | none => none := by
 cases hb : fn.body with
 | some c => exact Cy hp hf hb args st
 | none =>
  cases he : E L (.func f) args st with
  | none => rfl
  | some r =>
   obtain ⟨k, hk⟩ := fM he; have := hk (k + 1) (by omega); simp only [evF, hp, hf, hb] at this; cases this
theorem gR (a b : Nat) : ai a b = decide (a = b) := by
 cases h : ai a b with
 | true => rw [ao h]; simp
 | false => simp [Nat.ne_of_beq_eq_false h]
theorem gQ (a b : Int) : (a == b) = decide (a = b) := by
 by_cases h : a = b <;> simp [h]
theorem gL (a b : Nat) : di a b = decide (a ≤ b) := by
 cases h : di a b with
 | true => simp [dP h]
 | false =>
  have : ¬ a ≤ b := fun z => by rw [← Nat.ble_eq] at z; rw [z] at h; cases h
  simp [this]
theorem gG (a b : Nat) : fC a b = decide (a < b) := by
 rw [fC, gL]; congr 1
theorem cV (x : Value) : ah (.v x) = .v x := rfl
theorem cy (es : List (List PV)) (c : Cap) : ah (.sl es c) = .sl es .dead := rfl
theorem bR (f : Fn) (cs : List PV) : ah (.clo f cs) = .clo f cs := rfl
theorem bS (h : Bool) (b off : Nat) : ah (.ptr h b off) = .ptr h b off := rfl
theorem eY (own : Bool) (m n : Nat) (x : Value) : sf own m (n + 1) (.v x) = true := rfl
theorem fk (own : Bool) (m n : Nat) (es : List (List PV)) (c : Cap) : sf own m (n + 1) (.sl es c) = c.sf own m := rfl
theorem ef (own : Bool) (m n b off : Nat) : sf own m (n + 1) (.ptr false b off) = decide (b < m) := gG b m
theorem db (own : Bool) (m n b off : Nat) : sf own m (n + 1) (.ptr true b off) = true := rfl
theorem ec (own : Bool) (m n : Nat) (g : FuncId) : sf own m (n + 1) (.clo (.func g) []) = true := by cases own <;> rfl
theorem cZ (own : Bool) (m : Nat) : Cap.sf own m .dead = true := rfl
theorem ed (own : Bool) (m : Nat) : Cap.sf own m .nil = true := rfl
theorem da (own : Bool) (m : Nat) : Cap.sf own m .full = true := rfl
theorem fj (m t e : Nat) : Cap.sf true m (.own .fr t e) = true := rfl
theorem bT {β : Type} (x : Option β) : bM True x = x := by simp [bM]
theorem cz (st : St) (es : List (List PV)) (c : Cap) : cw st (.sl es c) = some es := rfl
def St.app (s : St) (bl : List Blk) (tk : List (Nat × Nat)) (lp : List Aux) : St := ⟨s.stk ++ bl, s.hp, s.tk ++ tk, s.lp ++ lp⟩
theorem aj (s : St) : s.app [] [] [] = s := by simp [St.app]
theorem cx (s : St) (bl : List Blk) (tk : List (Nat × Nat)) (lp : List Aux) (cs : List PV) : (s.app bl tk lp).push cs = s.app (bl ++ [⟨cs, []⟩]) tk lp := by simp [St.app, St.push]
theorem cv (s : St) (bl : List Blk) (tk : List (Nat × Nat)) (lp : List Aux) : (s.app bl tk lp).stk.length = s.stk.length + bl.length := by simp [St.app]
theorem dU (s : St) (bl : List Blk) (tk : List (Nat × Nat)) (lp : List Aux) : (s.app bl tk lp).tk.length = s.tk.length + tk.length := by simp [St.app]
theorem dZ (s : St) (bl : List Blk) (tk : List (Nat × Nat)) (lp : List Aux) : (s.app bl tk lp).lp.length = s.lp.length + lp.length := by simp [St.app]
theorem tI (s : St) (bl : List Blk) (tk : List (Nat × Nat)) (lp : List Aux) : (s.app bl tk lp).back s.stk.length s.tk.length s.lp.length = s := by simp [St.app, St.back]
theorem pR (s : St) (bl : List Blk) (tk : List (Nat × Nat)) (lp : List Aux) (j : Nat) : (s.app bl tk lp).blk false (s.stk.length + j) = (bl[j]?).map Blk.cs := by
 simp only [St.blk, St.bk, St.app]; rw [List.getElem?_append_right (by omega)]
 congr 2
 omega
theorem lL {s : St} {b : Nat} (h : b < s.stk.length) (bl : List Blk) (tk : List (Nat × Nat)) (lp : List Aux) : (s.app bl tk lp).blk false b = s.blk false b := by
 simp only [St.blk, St.bk, St.app]; rw [List.getElem?_append_left h]
theorem n9 (agg : Bool) (sz off j : Nat) (s : St) (bl : List Blk) (tk : List (Nat × Nat)) (lp : List Aux) : al agg sz (.ptr false (s.stk.length + j) off) (s.app bl tk lp) = ((bl[j]?).map Blk.cs).bind (part agg sz off) := by
 simp only [al, pR]
theorem zV {agg : Bool} {sz off b : Nat} {s : St} (h : b < s.stk.length) (bl : List Blk) (tk : List (Nat × Nat)) (lp : List Aux) : al agg sz (.ptr false b off) (s.app bl tk lp) = al agg sz (.ptr false b off) s := by
 simp only [al, lL h]
theorem cW (agg : Bool) (sz off : Nat) (cs : List PV) (s : St) : al agg sz (.fp cs off) s = part agg sz off cs := rfl
theorem iz (s : St) (bl : List Blk) (tk : List (Nat × Nat)) (lp : List Aux) (j : Nat) (cs : List PV) : (s.app bl tk lp).af false (s.stk.length + j) cs = s.app (bl.modify j fun x => ⟨cs, x.tk⟩) tk lp := by
 simp only [St.af, St.upB, St.app]
 congr 1
 apply List.ext_getElem?; intro i; rw [List.getElem?_modify, fb, fb, List.getElem?_modify]
 by_cases h : i < s.stk.length
 · rw [if_pos h, if_pos h]
   have : s.stk.length + j ≠ i := by omega
   simp [this]
 · rw [if_neg h, if_neg h]
   have : (s.stk.length + j = i) = (j = i - s.stk.length) := by apply propext; omega
   simp only [this]
def dj (bl : List Blk) (j off sz : Nat) (v : PV) : Option (List Blk) := (cellsOf v).bind fun cs => (bl[j]?).bind fun old =>
 bif ai cs.length sz && !ai sz 0 && (di (off + cs.length) old.cs.length && aG cs) then some (bl.modify j fun x => ⟨laid old.cs off cs, x.tk⟩) else none
theorem mJ (sz off j : Nat) (v : PV) (s : St) (bl : List Blk) (tk : List (Nat × Nat)) (lp : List Aux) : au s.stk.length sz (.ptr false (s.stk.length + j) off) v (s.app bl tk lp) = (dj bl j off sz v).map fun bl => s.app bl tk lp := by
 simp only [au, dj, putCells, pR]
 cases hc : cellsOf v with
 | none => rfl
 | some cs =>
  simp only [ag]
  cases hb : bl[j]? with
  | none => cases ai cs.length sz && !ai sz 0 <;> rfl
  | some old =>
   simp only [aO, ag]
   have hlt : fC (s.stk.length + j) s.stk.length = false := by
    cases h : fC (s.stk.length + j) s.stk.length with
    | false => rfl
    | true => rw [Nat.blt_eq] at h; omega
   cases ai cs.length sz && !ai sz 0 <;> cases di (off + cs.length) old.cs.length && aG cs <;> simp [hlt, iz]
theorem oQ (agg : Bool) (sz off : Nat) (s : St) (bl : List Blk) (tk : List (Nat × Nat)) (lp : List Aux) : al agg sz (.ptr false s.stk.length off) (s.app bl tk lp) = ((bl[0]?).map Blk.cs).bind (part agg sz off) := n9 agg sz off 0 s bl tk lp
theorem nx (sz off : Nat) (v : PV) (s : St) (bl : List Blk) (tk : List (Nat × Nat)) (lp : List Aux) : au s.stk.length sz (.ptr false s.stk.length off) v (s.app bl tk lp) = (dj bl 0 off sz v).map fun bl => s.app bl tk lp := mJ sz off 0 v s bl tk lp
theorem oN (s : St) (n : Nat) (bl : List Blk) (tk : List (Nat × Nat)) (lp : List Aux) (x : Ex) (vs : List PV) : iy s.stk.length s.lp.length (s.stk.length + n) x vs (s.app bl tk lp) =
 bif lp.all eQ && vs.all (sf true (s.stk.length + n) 4) && (bl.take n).all (fun b => b.cs.all (sf true (s.stk.length + n) 4)) then some (x, vs, s.app (bl.take n) tk lp) else none := by
 have h1 : (s.app bl tk lp).lp.drop s.lp.length = lp := by simp [St.app]
 have h2 : ((s.app bl tk lp).stk.drop s.stk.length).take (s.stk.length + n - s.stk.length) = bl.take n := by simp [St.app]
 have h3 : ({ s.app bl tk lp with stk := (s.app bl tk lp).stk.take (s.stk.length + n) } : St) = s.app (bl.take n) tk lp := by
  simp only [St.app]
  congr 1
  rw [List.take_append, List.take_of_length_le (by omega)]
  congr 2
  omega
 simp only [iy, h1, h2, h3]
theorem fD (P : Program) (x : Value) (h : iL x = true) : eZ (eR P (pure x)) = some (.v x) := by
 show eZ (some x) = _
 simp [eZ, h]
section
variable (P : Program) (cst : Bool) (t : TypeId) (k : IntKind) (a b : Int)
theorem nH (op : BinOp) : aT P cst op t (.v (.int k a)) (.v (.int k b)) = eZ (eR P (binOp op t (.int k a) (.int k b))) := rfl
theorem cM : aT P cst .add t (.v (.int k a)) (.v (.int k b)) = some (.v (.int k (k.wrap (a + b)))) := by rw [nH, show binOp .add t (.int k a) (.int k b) = pure (.int k (k.wrap (a + b))) by simp [binOp, Op.intArith]]; exact fD P _ rfl
theorem cU : aT P cst .sub t (.v (.int k a)) (.v (.int k b)) = some (.v (.int k (k.wrap (a - b)))) := by rw [nH, show binOp .sub t (.int k a) (.int k b) = pure (.int k (k.wrap (a - b))) by simp [binOp, Op.intArith]]; exact fD P _ rfl
theorem cS : aT P cst .mul t (.v (.int k a)) (.v (.int k b)) = some (.v (.int k (k.wrap (a * b)))) := by rw [nH, show binOp .mul t (.int k a) (.int k b) = pure (.int k (k.wrap (a * b))) by simp [binOp, Op.intArith]]; exact fD P _ rfl
theorem my (op : BinOp) (h : op = .eql ∨ op = .neq ∨ op = .lss ∨ op = .leq ∨ op = .gtr ∨ op = .geq) : aT P cst op t (.v (.int k a)) (.v (.int k b)) = eZ (eR P (Op.intCmp op a b)) := by
 rw [nH]; rcases h with rfl | rfl | rfl | rfl | rfl | rfl <;> simp [binOp]
theorem cN : aT P cst .eql t (.v (.int k a)) (.v (.int k b)) = some (.v (.bool (decide (a = b)))) := by rw [my _ _ _ _ _ _ _ (by simp)]; exact fD P _ rfl
theorem cT : aT P cst .neq t (.v (.int k a)) (.v (.int k b)) = some (.v (.bool (!decide (a = b)))) := by rw [my _ _ _ _ _ _ _ (by simp)]; exact fD P _ rfl
theorem cR : aT P cst .lss t (.v (.int k a)) (.v (.int k b)) = some (.v (.bool (decide (a < b)))) := by rw [my _ _ _ _ _ _ _ (by simp)]; exact fD P _ rfl
theorem cQ : aT P cst .leq t (.v (.int k a)) (.v (.int k b)) = some (.v (.bool (decide (a ≤ b)))) := by rw [my _ _ _ _ _ _ _ (by simp)]; exact fD P _ rfl
theorem cP : aT P cst .gtr t (.v (.int k a)) (.v (.int k b)) = some (.v (.bool (decide (a > b)))) := by rw [my _ _ _ _ _ _ _ (by simp)]; exact fD P _ rfl
theorem cO : aT P cst .geq t (.v (.int k a)) (.v (.int k b)) = some (.v (.bool (decide (a ≥ b)))) := by rw [my _ _ _ _ _ _ _ (by simp)]; exact fD P _ rfl
theorem eg : aUn P .not (.v (.bool cst)) = some (.v (.bool (!cst))) := by cases cst <;> rfl
variable (x y : ByteArray)
theorem pX (h : x.size + y.size ≤ 9223372036854775807) : aT P cst .add t (.v (.string x)) (.v (.string y)) = some (.v (.string (x ++ y))) := by
 show eZ (eR P (Op.stringOp .add x y)) = _
 have : ¬ (((x.size + y.size : Nat) : Int) > IntKind.i64.max) := by simp [IntKind.max, IntKind.bits]; omega
 simp only [Op.stringOp, this, if_false]; exact fD P _ rfl
theorem dV : (x == y) = decide (x = y) := by
 cases x with | mk x => cases y with | mk y =>
 have h : ((⟨x⟩ : ByteArray) == ⟨y⟩) = (x == y) := rfl; rw [h]
 by_cases e : x = y
 · subst e; simp
 · have : (⟨x⟩ : ByteArray) ≠ ⟨y⟩ := fun q => e (by injection q)
   simp [e, this]
theorem wO : (x.toList == y.toList) = decide (x = y) := by
 rw [← beq_toListBytes, dV]
theorem dc : aT P cst .eql t (.v (.string x)) (.v (.string y)) = some (.v (.bool (decide (x = y)))) := by rw [← wO]; rfl
theorem de : aT P cst .neq t (.v (.string x)) (.v (.string y)) = some (.v (.bool (!decide (x = y)))) := by rw [← wO]; rfl
end
theorem nX (s : St) (bl : List Blk) (tk : List (Nat × Nat)) (lp : List Aux) (ps : List PV) : fin s.stk.length s.tk.length s.lp.length ps (s.app bl tk lp) =
 (jR s.stk.length (s.app bl tk lp) (lf ps)).bind fun p => bif sf false s.stk.length 4 p then some (p, s) else none := by
 simp only [fin, tI]
theorem zB (s : St) (bl : List Blk) (tk : List (Nat × Nat)) (lp : List Aux) (x : Value) : fin s.stk.length s.tk.length s.lp.length [.v x] (s.app bl tk lp) = some (.v x, s.app [] [] []) := by
 rw [nX, aj]; rfl
theorem vz (s : St) (bl : List Blk) (tk : List (Nat × Nat)) (lp : List Aux) (es : List (List PV)) (c : Cap) : fin s.stk.length s.tk.length s.lp.length [.sl es c] (s.app bl tk lp) = some (.sl es .dead, s.app [] [] []) := by
 rw [nX, aj]; rfl
def dL : PV → Bool
 | .v _ | .sl _ _ => true
 | _ => false
theorem zD {own : Bool} {m n : Nat} {p : PV} (h : dL p = true) : sf own m (n + 1) (bL p) = true := by
 cases p <;> simp_all [dL, bL, sf, Cap.sf]
theorem mN {m : Nat} {s : St} : ∀ {cs : List PV}, cs.all dL = true → jS m s cs = some (cs.map bL)
 | [], _ => rfl
 | c :: cs, h => by
  simp only [bB, an] at h
  have h1 : kg m s c = some (bL c) := by
   cases c <;> simp_all [dL, kg]
  simp only [jS, h1, mN h.2, ag, bq]
theorem BA (s : St) (bl : List Blk) (tk : List (Nat × Nat)) (lp : List Aux) {cs : List PV} (h : cs.all dL = true) : fin s.stk.length s.tk.length s.lp.length [.agg cs] (s.app bl tk lp) = some (.agg (cs.map bL), s.app [] [] []) := by
 rw [nX, aj]
 have : jR s.stk.length (s.app bl tk lp) (lf [PV.agg cs]) = some (.agg (cs.map bL)) := by
  simp only [lf, jR, jf, mN h, ag]
 rw [this]
 have h2 : sf false s.stk.length 4 (.agg (cs.map bL)) = true := by
  show (cs.map bL).all (sf false s.stk.length 3) = true
  rw [dD]; intro p hp; obtain ⟨q, hq, rfl⟩ := List.mem_map.1 hp; exact zD (dD.1 h q hq)
 rw [ag, h2]; rfl
theorem sK {sz bytes : Nat} {es ys : List (List PV)} {c : Cap} (s : St) (bl : List Blk) (tk : List (Nat × Nat)) (lp : List Aux) (base : Nat) (z : List PV) (hc : c = .nil ∨ c = .full)
 (h1 : (es.length + ys.length) * bytes ≤ dE) (h2 : cK sz es = true) (h3 : cK sz ys = true) (h4 : sz ≠ 0) (h5 : bytes ≠ 0) :
 ej base z sz bytes (.sl es c) ys (s.app bl tk lp) = some (.sl (es ++ ys) (.own .fr (s.tk.length + tk.length) (es.length + ys.length)), s.app bl (tk ++ [(es.length + ys.length, sz)]) lp) := by
 have e4 : ai sz 0 = false := by cases h : ai sz 0 with | false => rfl | true => exact absurd (ao h) h4
 have e5 : ai bytes 0 = false := by cases h : ai bytes 0 with | false => rfl | true => exact absurd (ao h) h5
 have e1 : di ((es.length + ys.length) * bytes) dE = true := by rw [Nat.ble_eq]; exact h1
 rcases hc with rfl | rfl <;> simp only [ej, mw, e1, h2, h3, e4, e5, aY, bI, cond_true, dU, St.mG, St.app, bh, List.append_assoc]
theorem vl {sz bytes j : Nat} {es ys : List (List PV)} {e : Nat} (s : St) (bl : List Blk) {tk : List (Nat × Nat)} (lp : List Aux) (base : Nat) (z : List PV) (ht : tk[j]? = some (e, sz))
 (h1 : (es.length + ys.length) * bytes ≤ dE) (h2 : cK sz es = true) (h3 : cK sz ys = true) (h4 : sz ≠ 0) (h5 : bytes ≠ 0) :
 ej base z sz bytes (.sl es (.own .fr (s.tk.length + j) e)) ys (s.app bl tk lp) = some (.sl (es ++ ys) (.own .fr (s.tk.length + j) (e + ys.length)), s.app bl (tk.set j (e + ys.length, sz)) lp) := by
 have e4 : ai sz 0 = false := by cases h : ai sz 0 with | false => rfl | true => exact absurd (ao h) h4
 have e5 : ai bytes 0 = false := by cases h : ai bytes 0 with | false => rfl | true => exact absurd (ao h) h5
 have e1 : di ((es.length + ys.length) * bytes) dE = true := by rw [Nat.ble_eq]; exact h1
 have htok : (s.app bl tk lp).tok .fr (s.tk.length + j) = some (e, sz) := by
  simp only [St.tok, St.app]; rw [List.getElem?_append_right (by omega)]
  rw [show s.tk.length + j - s.tk.length = j by omega]; exact ht
 have hset : (s.app bl tk lp).fL .fr (s.tk.length + j) (e + ys.length, sz) = s.app bl (tk.set j (e + ys.length, sz)) lp := by
  simp only [St.fL, St.app]
  congr 1
  rw [List.set_append_right _ _ (by omega), show s.tk.length + j - s.tk.length = j by omega]
 simp only [ej, mw, e1, h2, h3, e4, e5, aY, bI, cond_true, htok, Nat.beq_refl, bn, hset]
theorem jG {α : Type} {sz : Nat} (f : α → List PV) (h : ∀ a, (f a).length = sz) (l : List α) : cK sz (l.map f) = true := by
 unfold cK; rw [dD]; intro e he; obtain ⟨a, _, rfl⟩ := List.mem_map.1 he
 rw [h]; exact Nat.beq_refl _
theorem bW {b : List PV → St → Option (Ex × List PV × St)} {vs vs' : List PV} {st st' : St} (h : b vs st = some (.normal, vs', st')) : itE b vs st = itE b vs' st' := by
 rw [qA, h]; rfl
theorem hG {b : List PV → St → Option (Ex × List PV × St)} {vs vs' : List PV} {st st' : St} {i : Nat} (h : b vs st = some (.exit i, vs', st')) : itE b vs st = some (.exit i, vs', st') := by
 rw [qA, h]; rfl
theorem eL {b : List PV → St → Option (Ex × List PV × St)} {vs vs' : List PV} {st st' : St} (h : b vs st = some (.ret, vs', st')) : itE b vs st = some (.ret, vs', st') := by
 rw [qA, h]; rfl
def Own (s : St) (tk : List (Nat × Nat)) (c : Cap) (n sz : Nat) : Prop :=
 (c = .nil ∨ c = .full) ∨ ∃ j, c = .own .fr (s.tk.length + j) n ∧ tk[j]? = some (n, sz)
def sv : Cap → Option Nat
 | .own _ t _ => some t
 | _ => none
def oA (a b : Cap) : Prop := sv b = none ∨ sv a ≠ sv b
theorem oA.symm {a b : Cap} (h : oA a b) : oA b a := by
 rcases h with h | h
 · cases ha : sv a with
   | none => exact .inl ha
   | some t => exact .inr (by rw [h, ha]; simp)
 · exact .inr fun e => h e.symm
theorem Own.nil (s : St) (tk : List (Nat × Nat)) (n sz : Nat) : Own s tk .nil n sz := .inl (.inl rfl)
theorem tJ {s : St} {tk : List (Nat × Nat)} {c : Cap} {sz bytes : Nat} {es ys : List (List PV)} (h : Own s tk c es.length sz)
 (h1 : (es.length + ys.length) * bytes ≤ dE) (h2 : cK sz es = true) (h3 : cK sz ys = true) (h4 : sz ≠ 0) (h5 : bytes ≠ 0) :
 ∃ c' tk', (∀ (bl : List Blk) (lp : List Aux) (base : Nat) (z : List PV), ej base z sz bytes (.sl es c) ys (s.app bl tk lp) = some (.sl (es ++ ys) c', s.app bl tk' lp)) ∧ Own s tk' c' (es ++ ys).length sz ∧
  c'.sf true 0 = true ∧ (∀ {c2 n2 sz2}, Own s tk c2 n2 sz2 → oA c c2 → Own s tk' c2 n2 sz2 ∧ oA c' c2) := by
 rcases h with h | ⟨j, rfl, hj⟩
 · refine ⟨_, _, fun bl lp base z => sK s bl tk lp base z h h1 h2 h3 h4 h5, .inr ⟨tk.length, by simp, by simp⟩, rfl, ?_⟩
   intro c2 n2 sz2 ho _
   rcases ho with ho | ⟨i, rfl, hi⟩
   · exact ⟨.inl ho, .inl (by rcases ho with rfl | rfl <;> rfl)⟩
   · have : i < tk.length := (List.getElem?_eq_some_iff.1 hi).1
     refine ⟨.inr ⟨i, rfl, by rw [List.getElem?_append_left this]; exact hi⟩, .inr ?_⟩
     simp [sv]; omega
 · refine ⟨_, _, fun bl lp base z => vl s bl lp base z hj h1 h2 h3 h4 h5, .inr ⟨j, by simp, ?_⟩, rfl, ?_⟩
   · have : j < tk.length := (List.getElem?_eq_some_iff.1 hj).1
     simp [this]
   · intro c2 n2 sz2 ho hd
     rcases ho with ho | ⟨i, rfl, hi⟩
     · exact ⟨.inl ho, .inl (by rcases ho with rfl | rfl <;> rfl)⟩
     · have : j ≠ i := by
        rcases hd with hd | hd
        · cases hd
        · intro e; subst e; exact hd rfl
       refine ⟨.inr ⟨i, rfl, by rw [List.getElem?_set_ne this]; exact hi⟩, .inr ?_⟩
       simp [sv]; omega
theorem sJ {s : St} {tk : List (Nat × Nat)} {c : Cap} {sz bytes : Nat} {es ys : List (List PV)} (h : Own s tk c es.length sz)
 (h1 : (es.length + ys.length) * bytes ≤ dE) (h2 : cK sz es = true) (h3 : cK sz ys = true) (h4 : sz ≠ 0) (h5 : bytes ≠ 0) :
 ∃ c' tk', (∀ (bl : List Blk) (lp : List Aux) (base : Nat) (z : List PV), ej base z sz bytes (.sl es c) ys (s.app bl tk lp) = some (.sl (es ++ ys) c', s.app bl tk' lp)) ∧ Own s tk' c' (es ++ ys).length sz :=
 let ⟨c', tk', a, b, _⟩ := tJ h h1 h2 h3 h4 h5
 ⟨c', tk', a, b⟩
theorem Own.sfc {s : St} {tk : List (Nat × Nat)} {c : Cap} {n sz : Nat} (h : Own s tk c n sz) (m : Nat) : c.sf true m = true := by
 rcases h with (rfl | rfl) | ⟨j, rfl, _⟩ <;> rfl
theorem fg (c : PV) : part false 1 0 [c] = some c := rfl
theorem laidB : ∀ (pre old post cs : List PV), old.length = cs.length → laid (pre ++ old ++ post) pre.length cs = pre ++ cs ++ post
 | pre, [], post, [], _ => rfl
 | pre, o :: old, post, c :: cs, h => by
  have : (pre ++ o :: old ++ post).set pre.length c = (pre ++ [c]) ++ old ++ post := by simp
  rw [laid, this, show pre.length + 1 = (pre ++ [c]).length by simp, laidB (pre ++ [c]) old post cs (by simpa using h)]; simp
theorem cX (P : Program) (k : IntKind) (a b : Int) : wI P (.v (.int k a)) (.v (.int k b)) = some (.v (.int k (if b > a then b else a))) := fD P (.int k (if b > a then b else a)) rfl
theorem cY (P : Program) (k : IntKind) (a b : Int) : wJ P (.v (.int k a)) (.v (.int k b)) = some (.v (.int k (if b < a then b else a))) := fD P (.int k (if b < a then b else a)) rfl
def St.hpp (s : St) (hs : List Blk) : St := { s with hp := s.hp ++ hs }
theorem w7 (s : St) (hs : List Blk) : (s.hpp hs).stk.length = s.stk.length := rfl
theorem zJ (s : St) (hs : List Blk) : (s.hpp hs).tk.length = s.tk.length := rfl
theorem zI (s : St) (hs : List Blk) : (s.hpp hs).lp.length = s.lp.length := rfl
def o8 : PV → Bool
 | .v _ => true
 | .sl _ c => match c with | .own _ _ _ => false | _ => true
 | _ => false
theorem jh {h : Bool} {b : Nat} : ∀ {cs : List PV} {st : St}, cs.all o8 = true → lZ h b cs st = some (cs, st)
 | [], st, _ => rfl
 | c :: cs, st, hc => by
  simp only [bB, an] at hc
  have h1 : qL h b c st = some (c, st) := by
   cases c with
   | sl es cp => cases cp <;> simp_all [qL, o8]
   | _ => simp_all [qL, o8]
  simp only [lZ, h1, jh hc.2, ag]
section
variable (s : St) (hs bl : List Blk) (tk : List (Nat × Nat)) (lp : List Aux)
theorem zK (base sz off j : Nat) {v : PV} {cs : List PV} (hv : AM.cellsOf v = some cs) (h : cs.all o8 = true) : au base sz (.ptr false (s.stk.length + j) off) v ((s.hpp hs).app bl tk lp) = (dj bl j off sz v).map fun bl => (s.hpp hs).app bl tk lp := by
 have hb : ((s.hpp hs).app bl tk lp).blk false (s.stk.length + j) = (bl[j]?).map Blk.cs := pR (s.hpp hs) bl tk lp j
 have hs' : ∀ cs, ((s.hpp hs).app bl tk lp).af false (s.stk.length + j) cs = (s.hpp hs).app (bl.modify j fun x => ⟨cs, x.tk⟩) tk lp := iz (s.hpp hs) bl tk lp j
 simp only [au, dj, putCells, hb, hv, ag]
 cases hbj : bl[j]? with
 | none => cases ai cs.length sz && !ai sz 0 <;> rfl
 | some old =>
  simp only [aO, ag]
  cases ai cs.length sz && !ai sz 0 <;> cases di (off + cs.length) old.cs.length && aG cs <;> cases fC (s.stk.length + j) base <;> simp [jh h, hs']
theorem uf (base sz off j : Nat) (es : List (List PV)) : au base sz (.ptr false (s.stk.length + j) off) (.sl es .dead) ((s.hpp hs).app bl tk lp) = (dj bl j off sz (.sl es .dead)).map fun bl => (s.hpp hs).app bl tk lp := zK s hs bl tk lp base sz off j rfl rfl
end
def valOf : PV → Option Value
 | .v x => some x
 | .ifc t x => some (.iface t x)
 | _ => none
def kv : List PV → Option (List Value)
 | [] => some []
 | p :: ps => (valOf p).bind fun x => (kv ps).bind fun xs => some (x :: xs)
def mb : PV → Bool
 | .v x => iL x
 | .ni => true
 | _ => false
def iM (h : List Value → Option PV) : List PV → St → Option (PV × St) := fun args st => (kv args).bind fun vs => (h vs).bind fun p => bif mb p then some (p, st) else none
inductive tE : Value → PV → Prop
 | v {x : Value} : tE x (.v x)
 | ni {t : TypeId} {x : Value} : tE (.iface t x) .ni
section
variable {w w' : World} {C : Ctx} {st : St} {bs : List (Nat × Nat × Nat)}
theorem rR (H : Sim w C st bs) (b : Below w.heap.size w w') : Ext w C w' C :=
 ⟨b.size, rfl, b.mono H.low.1, fun _ _ h => h, fun B o h => b.cell (p := ⟨B, o, none⟩) (H.Sok B o h), fun _ _ _ h => h, fun _ _ B f to e _ h => ⟨B, f, to, e, h, aq _, fun _ => ⟨rfl, rfl, rfl⟩⟩, fun _ _ h => h,
  fun h c B hB arr elem fr hc => ⟨arr, elem, fr, (b.block B (Array.getElem?_eq_some_iff.1 hc).1).trans hc, rfl⟩, fun D h => (b.block D (Array.getElem?_eq_some_iff.1 h).1).trans h⟩
theorem uR (b : Below w.heap.size w w') {B o : Nat} (h : spare w C B o) : spare w' C B o := by
 obtain ⟨h1, h2, arr, elem, fr, h3, h4, h5⟩ := h; exact ⟨h1, h2, arr, elem, fr, (b.block B (Array.getElem?_eq_some_iff.1 h3).1).trans h3, h4, h5⟩
theorem yz (H : Sim w C st bs) (b : Below w.heap.size w w') : Sim w' C st bs := by
 have x := rR H b; refine { H with blk := ?_, Sok := fun B o h => Nat.lt_of_lt_of_le (H.Sok B o h) b.size, tok := ?_, low := ⟨Nat.le_trans H.low.1 b.size, H.low.2⟩, lps := ?_ }
 · intro h c cs hc
   obtain ⟨B, arr, elem, fr, h1, h2, h3, h4, h5, h6, h7, h8⟩ := H.blk h c cs hc; exact ⟨B, arr, elem, fr, h1, (b.block B (Array.getElem?_eq_some_iff.1 h2).1).trans h2, h3, h4, h5, h6, fun o y p hy hp => (h7 o y p hy hp).mono x, fun m t l hm hh o y p hy hp => (h8 m t l hm hh o y p hy hp).mono (x.cut m t l)⟩
 · intro o t B f to e s h
   obtain ⟨h1, h2⟩ := H.tok o t B f to e s h; exact ⟨h1, fun i hi hj => uR b (h2 i hi hj)⟩
 · intro i r hr
   obtain ⟨B, h1, h2⟩ := H.lps i r hr; exact ⟨B, h1, h2.mono x fun ob ho _ => (b.block B (Array.getElem?_eq_some_iff.1 ho).1).trans ho⟩
end
theorem yQ {w : World} {C : Ctx} {p : PV} {x y : Value} (h : valOf p = some y) (hp : Rep w C x p) : x = y := by
 cases p with
 | v z => cases hp; exact Option.some.inj h
 | ifc t z => cases hp; exact Option.some.inj h
 | _ => cases h
theorem rq {w : World} {C : Ctx} : ∀ {ps : List PV} {vs : List Value} {xs : List Value}, kv ps = some vs → xs.length = ps.length → (∀ (i : Nat) (x : Value) (p : PV), xs[i]? = some x → ps[i]? = some p → Rep w C x p) → xs = vs
 | [], vs, xs, h, hl, _ => by
  simp only [kv, Option.some.injEq] at h; subst h; exact List.length_eq_zero_iff.1 hl
 | p :: ps, vs, [], h, hl, _ => by simp at hl
 | p :: ps, vs, x :: xs, h, hl, hr => by
  simp only [kv] at h; obtain ⟨y, h0, h⟩ := Option.bind_eq_some_iff.1 h; obtain ⟨ys, h1, h2⟩ := Option.bind_eq_some_iff.1 h; obtain rfl := Option.some.inj h2; rw [yQ h0 (hr 0 x p rfl rfl), rq h1 (by simpa using hl) fun i x p hx hp => hr (i + 1) x p hx hp]
def GV.at (gv : GV) (w : World) : Prop := (∀ g o v, gv.cell g o = some v → w.cell? ⟨g, o, none⟩ = some v) ∧ Below gv.w0.heap.size gv.w0 w
theorem kG {gv : GV} {pn : List FuncId} {P : Program} {f : FuncId} {h : List Value → Option PV} (hfn : ∃ fn, P.funcs[f]? = some fn ∧ (fn.name == "runtime.NumGoroutine") = false ∧ fn.body.isNone = false)
 (ct : ∀ (w : World) vs p, gv.at w → h vs = some p → Calls P f vs.toArray w fun e w' => (∃ v, e = .returned v ∧ tE v p) ∧ Below w.heap.size w w') :
 Good gv pn P fun f' args st => match f' with
  | .func k => if k = f then iM h args st else none
  | _ => none := by
 intro g args st r hr
 cases g with
 | func k =>
  simp only at hr
  by_cases hk : k = f
  · subst hk
    rw [if_pos rfl] at hr; obtain ⟨vs, h1, hr⟩ := Option.bind_eq_some_iff.1 hr; obtain ⟨p, h2, hr⟩ := Option.bind_eq_some_iff.1 hr
    cases hf : mb p with
    | false => rw [hf] at hr; simp at hr
    | true =>
     rw [hf, cond_true, Option.some.injEq] at hr; subst hr; refine ⟨fun _ => by cases p <;> first | rfl | (simp [mb] at hf), hfn, fun w C bs xs hg H hs hrep => ?_⟩
     have e : xs = vs.toArray := by
      have : xs.toList = vs := rq h1 (by simpa using hs) fun i x p hx hp => hrep i x p (by simpa using hx) hp
      rw [← this]
     subst e; refine (ct w vs p ⟨fun g o v hv => (hg.1 g o v hv).2, hg.2.2⟩ h2).mono ?_
     rintro e w' ⟨⟨v, rfl, hv⟩, b⟩
     refine ⟨C, yz H b, rR H b, Ends.of ?_⟩
     cases hv with
     | v => exact .v hf
     | ni => exact .ni
  · rw [if_neg hk] at hr; cases hr
 | yield i => cases hr
 | _ => cases hr
theorem lens3 (s : St) : ∃ N T Lb, s.stk.length = N ∧ s.tk.length = T ∧ s.lp.length = Lb := ⟨_, _, _, rfl, rfl, rfl⟩
def bs (l : List UInt8) : ByteArray := ⟨l.toArray⟩
abbrev str (l : List UInt8) : PV := .v (.string (bs l))
theorem fw (a : Array UInt8) : ByteArray.mk a = bs a.toList := rfl
theorem kL (l : List UInt8) : (bs l).data.toList = l := rfl
theorem en {a b : List UInt8} : bs a = bs b ↔ a = b := by
 constructor
 · intro h
   have : (bs a).data.toList = (bs b).data.toList := by rw [h]
   exact this
 · rintro rfl; rfl
theorem cf (l : List UInt8) : (bs l).size = l.length := by show l.toArray.size = _; simp
theorem Di {l : List UInt8} {i : Nat} (h : i < l.length) : (bs l)[i]? = some l[i] := by
 have hs : i < (bs l).size := by rw [cf]; exact h
 exact (getElem?_pos (bs l) i hs).trans rfl
theorem mz (a b : List UInt8) : bs a ++ bs b = bs (a ++ b) := by
 apply ByteArray.ext
 show (bs a ++ bs b).data = (a ++ b).toArray
 rw [ByteArray.data_append]; simp [bs]
theorem iw (l : List UInt8) (lo hi : Nat) : (bs l).extract lo hi = bs ((l.take hi).drop lo) := by
 apply ByteArray.ext; rw [ByteArray.data_extract]
 show l.toArray.extract lo hi = ((l.take hi).drop lo).toArray
 rw [List.drop_take, List.extract_toArray]
theorem j5 {α β : Type} (P : Program) (f : α → Sem β) (s : Sem α) : eR P (s >>= f) = (eR P s).bind fun a => eR P (f a) := by
 induction s with
 | pure a => rfl
 | program k ih => exact ih P
 | _ => rfl
theorem nr {P : Program} {t : TypeId} {d : TypeDesc} (h : P.underlying t = some d) : eR P (underlying t) = some d := by
 show eR P (match P.underlying t with | some d => pure d | none => stuck "no such type") = _
 rw [h]; rfl
theorem j6 {α : Type} (P : Program) (a : α) : eR P (pure a : Sem α) = some a := rfl
section
variable {P : Program} {t : TypeId}
theorem BF (ht : P.underlying t = some .string) {l : List UInt8} {i : Nat} (k : IntKind) (h : i < l.length) : du P t (str l) (.v (.int k (i : Int))) = some (.v (.int .u8 (l[i].toNat : Int))) := by
 have : eR P (Instr.index t (.string (bs l)) (.int k (i : Int))) = some (.int .u8 (l[i].toNat : Int)) := by
  simp only [Instr.index, asIntOf, j5, j6, nr ht, ag]
  have e : (0 : Int) ≤ (i : Int) := by omega
  simp only [e, if_true, Int.toNat_natCast, Di h]
  rfl
 simp [du, this, eZ, iL]
theorem iH {k : IntKind} {i n : Nat} {c : BoundsCode} (h : i ≤ n) : eR P (Instr.sliceBound (.int k (i : Int)) n c) = some i := by
 have e : (0 : Int) ≤ (i : Int) ∧ (i : Int) ≤ (n : Int) := by omega
 simp only [Instr.sliceBound, asIntOf, j5, j6, ag, e, and_self, if_true, Int.toNat_natCast]
theorem Av (ht : P.underlying t = some .string) {l : List UInt8} {lo : Nat} (k : IntKind) (h : lo ≤ l.length) :
 gz P t (str l) (some (.v (.int k (lo : Int)))) none none = some (str (l.drop lo)) := by
 have : eR P (Instr.slice t (.string (bs l)) (some (.int k (lo : Int))) none none) = some (.string (bs (l.drop lo))) := by
  simp only [Instr.slice, Instr.sliceBounds, j5, j6, nr ht, ag, Option.isSome_none, ab, if_false, cf]
  first
   | simp only [iH h', iH h, ag, iw, List.take_length, bg]
   | simp only [iH h', ag, iw, List.take_length, bg]
   | simp only [iH h, ag, iw, List.take_length, bg]
 simp [gz, yf, ht, this, eZ, iL]
theorem At (ht : P.underlying t = some .string) {l : List UInt8} {hi : Nat} (k' : IntKind) (h' : hi ≤ l.length) :
 gz P t (str l) none (some (.v (.int k' (hi : Int)))) none = some (str (l.take hi)) := by
 have : eR P (Instr.slice t (.string (bs l)) none (some (.int k' (hi : Int))) none) = some (.string (bs (l.take hi))) := by
  simp only [Instr.slice, Instr.sliceBounds, j5, j6, nr ht, ag, Option.isSome_none, ab, if_false, cf]
  first
   | simp only [iH h', iH h, ag, iw, List.take_length, bg]
   | simp only [iH h', ag, iw, List.take_length, bg]
   | simp only [iH h, ag, iw, List.take_length, bg]
 simp [gz, yf, ht, this, eZ, iL]
end
theorem sQ {l : List UInt8} {i : Nat} (h : i < l.length) : (bs l).get! i = l[i] := by
 show (l.toArray)[i]! = l[i]
 rw [getElem!_pos _ _ (by simpa using h)]; simp
theorem decode_ascii {l : List UInt8} {i : Nat} (h : i < l.length) (hb : l[i].toNat < 128) : Utf8.decode (bs l) i = (l[i].toNat, 1) := by
 unfold Utf8.decode; simp only [bx, sQ h]; rw [if_pos hb]
theorem jj {l : List UInt8} {j : Nat} (h : (decide (j < (bs l).size) && (((bs l).get! j).toNat / 64 == 2)) = true) : ∃ hj : j < l.length, 128 ≤ l[j].toNat := by
 simp only [an, decide_eq_true_eq, beq_iff_eq, cf] at h; obtain ⟨hj, h2⟩ := h; rw [sQ hj] at h2; exact ⟨hj, by omega⟩
theorem decode_high {l : List UInt8} {i : Nat} (h : i < l.length) (hb : 128 ≤ l[i].toNat) :
 128 ≤ (Utf8.decode (bs l) i).1 ∧ (Utf8.decode (bs l) i).1 < 2097152 ∧ 1 ≤ (Utf8.decode (bs l) i).2 ∧ i + (Utf8.decode (bs l) i).2 ≤ l.length ∧ ∀ j (hj : j < l.length), i ≤ j → j < i + (Utf8.decode (bs l) i).2 → 128 ≤ l[j].toNat := by
 have one : ∀ {q : Nat × Nat}, q = (Utf8.runeError, 1) → 128 ≤ q.1 ∧ q.1 < 2097152 ∧ 1 ≤ q.2 ∧ i + q.2 ≤ l.length ∧ ∀ j (hj : j < l.length), i ≤ j → j < i + q.2 → 128 ≤ l[j].toNat := by
  rintro q rfl
  refine ⟨by decide, by decide, by decide, h, fun j hj h1 h2 => ?_⟩
  obtain rfl : j = i := by simp only at h2; omega
  exact hb
 generalize hq : Utf8.decode (bs l) i = q; unfold Utf8.decode at hq; simp only [bx, sQ h] at hq; rw [if_neg (by omega)] at hq; have lt : l[i].toNat < 256 := l[i].toNat_lt; split at hq
 · rename_i h1
   simp only [an, beq_iff_eq] at h1; obtain ⟨j1, g1⟩ := jj (by simpa only [an, beq_iff_eq] using h1.2); split at hq
   · subst hq
     have : ((bs l).get! (i + 1)).toNat < 256 := UInt8.toNat_lt _; refine ⟨by simp only; omega, by simp only; omega, by simp only; omega, by simp only; omega, fun j hj a b => ?_⟩
     have : j = i ∨ j = i + 1 := by simp only at b; omega
     rcases this with rfl | rfl
     · exact hb
     · exact g1
   · exact one hq.symm
 · split at hq
   · rename_i h1
     simp only [an, beq_iff_eq] at h1; obtain ⟨j1, g1⟩ := jj (by simpa only [an, beq_iff_eq] using h1.1.2); obtain ⟨j2, g2⟩ := jj (by simpa only [an, beq_iff_eq] using h1.2); split at hq
     · rename_i h2
       simp only [an, decide_eq_true_eq, ge_iff_le] at h2; subst hq; refine ⟨by simp only; omega, by simp only; omega, by simp only; omega, by simp only; omega, fun j hj a b => ?_⟩
       have : j = i ∨ j = i + 1 ∨ j = i + 2 := by simp only at b; omega
       rcases this with rfl | rfl | rfl
       · exact hb
       · exact g1
       · exact g2
     · exact one hq.symm
   · split at hq
     · rename_i h1
       simp only [an, beq_iff_eq] at h1; obtain ⟨j1, g1⟩ := jj (by simpa only [an, beq_iff_eq] using h1.1.1.2); obtain ⟨j2, g2⟩ := jj (by simpa only [an, beq_iff_eq] using h1.1.2); obtain ⟨j3, g3⟩ := jj (by simpa only [an, beq_iff_eq] using h1.2); split at hq
       · rename_i h2
         simp only [an, decide_eq_true_eq, ge_iff_le] at h2; subst hq; refine ⟨by simp only; omega, by simp only; omega, by simp only; omega, by simp only; omega, fun j hj a b => ?_⟩
         have : j = i ∨ j = i + 1 ∨ j = i + 2 ∨ j = i + 3 := by simp only at b; omega
         rcases this with rfl | rfl | rfl | rfl
         · exact hb
         · exact g1
         · exact g2
         · exact g3
       · exact one hq.symm
     · exact one hq.symm
section
variable {s : St} {N T Lb : Nat}
theorem cG (s : St) (h : Bool) (b : Nat) (cs : List PV) : (s.af h b cs).stk.length = s.stk.length := by cases h <;> simp [St.af, St.upB]
theorem eu (s : St) (h : Bool) (b : Nat) (cs : List PV) : (s.af h b cs).tk.length = s.tk.length := by cases h <;> rfl
theorem et (s : St) (h : Bool) (b : Nat) (cs : List PV) : (s.af h b cs).lp.length = s.lp.length := by cases h <;> rfl
theorem set_set (s : St) (h : Bool) (b : Nat) (c d : List PV) : (s.af h b c).af h b d = s.af h b d := by
 have e : ∀ l : List Blk, (l.modify b fun x => ⟨c, x.tk⟩).modify b (fun x => ⟨d, x.tk⟩) = l.modify b fun x => ⟨d, x.tk⟩ := fun l => by
  apply List.ext_getElem?; intro i; simp only [List.getElem?_modify]
  by_cases hi : b = i <;> simp [hi, Option.map_map, Function.comp_def]
 cases h <;> simp only [St.af, St.upB, e]
theorem Ap {h : Bool} {b : Nat} {cs : List PV} (hb : s.blk h b = some cs) : s.af h b cs = s := by
 have e : ∀ l : List Blk, (l[b]?).map Blk.cs = some cs → (l.modify b fun x => ⟨cs, x.tk⟩) = l := fun l hl => by
  apply List.ext_getElem?; intro i; rw [List.getElem?_modify]
  by_cases hi : b = i
  · subst hi
    obtain ⟨x, hx, rfl⟩ := Option.map_eq_some_iff.1 hl; simp [hx]
  · simp [hi]
 cases h
 · simp only [St.af, St.upB]; rw [e s.stk hb]
 · simp only [St.af, St.upB]; rw [e s.hp hb]
theorem Be {b : Nat} {cs : List PV} (hb : s.blk false b = some cs) : b < s.stk.length := by
 obtain ⟨x, hx, _⟩ := Option.map_eq_some_iff.1 (show (s.stk[b]?).map Blk.cs = some cs from hb); exact (List.getElem?_eq_some_iff.1 hx).1
theorem tx {b : Nat} (cs : List PV) (hb : b < s.stk.length) : (s.af false b cs).blk false b = some cs := by
 show ((s.stk.modify b fun x => ⟨cs, x.tk⟩)[b]?).map Blk.cs = some cs
 rw [List.getElem?_modify_eq, dC hb]
 rfl
variable (bl : List Blk) (tk : List (Nat × Nat)) (lp : List Aux)
theorem fA (hN : s.stk.length = N) (j : Nat) : (s.app bl tk lp).blk false (N + j) = (bl[j]?).map Blk.cs := by subst hN; exact pR s bl tk lp j
theorem fB (hN : s.stk.length = N) (j : Nat) (cs : List PV) : (s.app bl tk lp).af false (N + j) cs = s.app (bl.modify j fun x => ⟨cs, x.tk⟩) tk lp := by subst hN; exact iz s bl tk lp j cs
theorem bD {b : Nat} (hb : b < s.stk.length) (cs : List PV) : (s.app bl tk lp).af false b cs = (s.af false b cs).app bl tk lp := by
 simp only [St.af, St.upB, St.app]
 congr 1
 apply List.ext_getElem?; intro i; simp only [List.getElem?_modify, fb, List.length_modify]
 by_cases h : i < s.stk.length
 · simp [h]
 · have : b ≠ i := by omega
   simp [h, this]
theorem eB (hN : s.stk.length = N) (agg : Bool) (sz off j : Nat) : al agg sz (.ptr false (N + j) off) (s.app bl tk lp) = ((bl[j]?).map Blk.cs).bind (part agg sz off) := by subst hN; exact n9 agg sz off j s bl tk lp
theorem dy (hN : s.stk.length = N) (agg : Bool) (sz off : Nat) : al agg sz (.ptr false N off) (s.app bl tk lp) = ((bl[0]?).map Blk.cs).bind (part agg sz off) := by subst hN; exact oQ agg sz off s bl tk lp
theorem fG {b : Nat} {cs : List PV} (hb : b < s.stk.length) (agg : Bool) (sz off : Nat) : al agg sz (.ptr false b off) ((s.af false b cs).app bl tk lp) = part agg sz off cs := by
 have := tx cs hb; rw [zV (by rw [cG]; exact hb)]; simp only [al, this, ag]
theorem dz (hN : s.stk.length = N) (sz off j : Nat) (v : PV) : au N sz (.ptr false (N + j) off) v (s.app bl tk lp) = (dj bl j off sz v).map fun bl => s.app bl tk lp := by subst hN; exact mJ sz off j v s bl tk lp
theorem cF (hN : s.stk.length = N) (sz off : Nat) (v : PV) : au N sz (.ptr false N off) v (s.app bl tk lp) = (dj bl 0 off sz v).map fun bl => s.app bl tk lp := by subst hN; exact nx sz off v s bl tk lp
theorem bC {b off base : Nat} {cs : List PV} (hb : b < s.stk.length) (ho : off < cs.length) (v : Value) : au base 1 (.ptr false b off) (.v v) ((s.af false b cs).app bl tk lp) = some ((s.af false b (cs.set off (.v v))).app bl tk lp) := by
 have h1 : ((s.af false b cs).app bl tk lp).blk false b = some cs := by rw [lL (by rw [cG]; exact hb), tx cs hb]
 have h2 : ∀ ds, ((s.af false b cs).app bl tk lp).af false b ds = (s.af false b ds).app bl tk lp := fun ds => by rw [bD _ _ _ (by rw [cG]; exact hb), set_set]
 have h3 : di (off + [PV.v v].length) cs.length = true := by rw [Nat.ble_eq]; exact ho
 have h4 : aG [PV.v v] = true := rfl; simp only [au, AM.cellsOf, ag, putCells, h1, h3, h4, bn, cond_true]; have h5 : (ai [PV.v v].length 1 && !ai 1 0) = true := rfl; rw [h5, cond_true]
 cases fC b base <;> simp [lZ, qL, h2, laid]
theorem dx (hN : s.stk.length = N) (hL : s.lp.length = Lb) (n : Nat) (x : Ex) (vs : List PV) : iy N Lb (N + n) x vs (s.app bl tk lp) =
 bif lp.all eQ && vs.all (sf true (N + n) 4) && (bl.take n).all (fun b => b.cs.all (sf true (N + n) 4)) then some (x, vs, s.app (bl.take n) tk lp) else none := by subst hN; subst hL; exact oN s n bl tk lp x vs
theorem dw (hN : s.stk.length = N) (hT : s.tk.length = T) (hL : s.lp.length = Lb) (x : Value) : fin N T Lb [.v x] (s.app bl tk lp) = some (.v x, s) := by subst hN; subst hT; subst hL; rw [zB, aj]
theorem dv (hN : s.stk.length = N) (hT : s.tk.length = T) (hL : s.lp.length = Lb) : fin N T Lb [] (s.app bl tk lp) = some (.tup [], s) := by subst hN; subst hT; subst hL; rw [nX]; rfl
theorem cE (hN : s.stk.length = N) (hT : s.tk.length = T) (hL : s.lp.length = Lb) (es : List (List PV)) (c : Cap) : fin N T Lb [.sl es c] (s.app bl tk lp) = some (.sl es .dead, s) := by subst hN; subst hT; subst hL; rw [vz, aj]
theorem bZ (hN : s.stk.length = N) (hT : s.tk.length = T) (hL : s.lp.length = Lb) {cs : List PV} (h : cs.all dL = true) : fin N T Lb [.agg cs] (s.app bl tk lp) = some (.agg (cs.map bL), s) := by subst hN; subst hT; subst hL; rw [BA s bl tk lp h, aj]
def bX : PV → Bool
 | .agg cs => cs.all eK
 | p => eK p
where eK : PV → Bool
 | .v _ | .sl _ _ | .ni | .ifc _ _ => true
 | _ => false
theorem zE {own : Bool} {m n : Nat} {p : PV} (h : bX.eK p = true) : sf own m (n + 1) (bL p) = true := by
 cases p <;> simp_all [bX.eK, bL, sf, Cap.sf]
theorem mO {m : Nat} {s : St} : ∀ {cs : List PV}, cs.all bX.eK = true → jS m s cs = some (cs.map bL)
 | [], _ => rfl
 | c :: cs, h => by
  simp only [bB, an] at h
  have h1 : kg m s c = some (bL c) := by
   cases c <;> simp_all [bX.eK, kg]
  simp only [jS, h1, mO h.2, ag, bq]
theorem sR {m : Nat} {s : St} {p : PV} (h : bX p = true) : jf m s p = some (cL p) := by
 cases p with
 | agg cs => simp only [jf, mO h, ag]; rfl
 | _ => simp_all [bX, bX.eK, jf, kg, cL]
theorem lP {m : Nat} {s : St} : ∀ {cs : List PV}, cs.all bX = true → kz m s cs = some (cs.map cL)
 | [], _ => rfl
 | c :: cs, h => by
  simp only [bB, an] at h; simp only [kz, sR h.1, lP h.2, ag, bq]
theorem zC {own : Bool} {m n : Nat} {p : PV} (h : bX p = true) : sf own m (n + 2) (cL p) = true := by
 cases p with
 | agg cs =>
  show (cs.map bL).all (sf own m (n + 1)) = true
  rw [dD]; intro p hp; obtain ⟨q, hq, rfl⟩ := List.mem_map.1 hp; exact zE (dD.1 h q hq)
 | _ => first | rfl | (simp_all [bX, bX.eK])
theorem cc (hN : s.stk.length = N) (hT : s.tk.length = T) (hL : s.lp.length = Lb) {a b : PV} {cs : List PV} (h : (a :: b :: cs).all bX = true) : fin N T Lb (a :: b :: cs) (s.app bl tk lp) = some (.tup ((a :: b :: cs).map cL), s) := by
 subst hN; subst hT; subst hL
 rw [nX]
 have : jR s.stk.length (s.app bl tk lp) (lf (a :: b :: cs)) = some (.tup ((a :: b :: cs).map cL)) := by
  simp only [lf, jR, lP h, ag]
 rw [this, ag]
 have h2 : sf false s.stk.length 4 (.tup ((a :: b :: cs).map cL)) = true := by
  show ((a :: b :: cs).map cL).all (sf false s.stk.length 3) = true
  rw [dD]; intro p hp; obtain ⟨q, hq, rfl⟩ := List.mem_map.1 hp; exact zC (dD.1 h q hq)
 rw [h2]; rfl
theorem eA (hN : s.stk.length = N) (hT : s.tk.length = T) (hL : s.lp.length = Lb) : (s.app bl tk lp).back N T Lb = s := by subst hN; subst hT; subst hL; exact tI s bl tk lp
theorem xq {P : Program} {t : TypeId} (ht : P.underlying t = some .string) (l : ByteArray) (hL : s.lp.length = Lb) : lJ P t (.v (.string l)) (s.app bl tk lp) = some (.it (Lb + lp.length), s.app bl tk (lp ++ [.iter l 0])) := by
 subst hL
 show (match P.underlying t, PV.v (.string l) with | some .string, .v (.string s') => some (PV.it (s.app bl tk lp).lp.length, { (s.app bl tk lp) with lp := (s.app bl tk lp).lp ++ [Aux.iter s' 0] }) | _, _ => none) = _
 rw [ht]; simp [St.app, List.append_assoc]
theorem eC (l : ByteArray) (pos : Nat) (hL : s.lp.length = Lb) : qe (.it Lb) (s.app bl tk [.iter l pos]) =
 if pos < l.size then some (.tup [.v (.bool true), .v (.int .i64 pos), .v (.int .i32 (Utf8.decode l pos).1)], s.app bl tk [.iter l (pos + (Utf8.decode l pos).2)]) else some (.tup [.v (.bool false)], s.app bl tk [.iter l pos]) := by
 subst hL
 have h1 : (s.app bl tk [.iter l pos]).lp[s.lp.length]? = some (.iter l pos) := by simp [St.app]
 have h2 : (s.app bl tk [.iter l pos]).j7 s.lp.length (.iter l (pos + (Utf8.decode l pos).2)) = s.app bl tk [.iter l (pos + (Utf8.decode l pos).2)] := by simp [St.j7, St.app]
 simp only [qe, h1, gG, h2]
 by_cases h : pos < l.size <;> simp [h]
end
def kP (P : Program) (o : Oper) : Prop := (∀ c, o.op ≠ .defer c) ∧ ∀ (a : Act) (w : World) (d : Deferred) (w' : World), (execOp a.eval o).run P w ≠ .ok (.defer d) w'
theorem put_defers (a : Act) (ds : List Deferred) (dst : Option Tmp) (v : Value) : ({ a with defers := ds } : Act).put dst v = { a.put dst v with defers := ds } := by cases dst <;> rfl
theorem u9 {rd : Option Nat} {P : Program} {o : Oper} (hn : kP P o) {a : Act} {ds : List Deferred} {w : World} {next : Act → World → Prop} {Q : Exit → Act → World → Prop}
 (h : o.wpIn (fen rd) 0 P a w (fun a' w' => next { a' with defers := ds } w') (fun e a' w' => Q e { a' with defers := ds } w')) : o.wpIn (fen rd) 0 P { a with defers := ds } w next Q := by
 refine ⟨fun _ _ => trivial, ?_⟩; have h := h.2; rw [Oper.semAt_eq _ _ _ hn.1] at h ⊢; have he : ({ a with defers := ds } : Act).eval = a.eval := rfl; rw [he]; have hnd := hn.2 a w; revert h hnd; generalize (execOp a.eval o).run P w = r; intro h hnd
 have lo : LetsOut (fun e a' w' => Q e { a' with defers := ds } w') → LetsOut Q := fun ⟨a, w, q⟩ => ⟨_, w, q⟩
 cases r with
 | ok x w' =>
  cases x with
  | value v => rw [Oper.uponIn_value] at h ⊢; rw [put_defers]; exact h
  | skip => rw [Oper.uponIn_skip] at h ⊢; rw [put_defers]; exact h
  | «defer» d => exact absurd rfl (hnd d w')
  | enter f args =>
   rw [Oper.uponIn_enter] at h ⊢; refine ⟨h.1, h.2.mono fun e w'' q => ?_⟩
   cases e with
   | returned v => simp only at q ⊢; rw [put_defers]; exact q
   | panicked ch => exact q
   | outgrown => exact lo q
  | row row args =>
   rw [Oper.uponIn_row] at h ⊢; simp only [put_defers]; exact h
  | round l f tmps asg body =>
   rw [Oper.uponIn_round] at h ⊢; refine ⟨h.1, h.2.mono fun e w'' q => ?_⟩
   cases e with
   | returned v => simp only at q ⊢; rw [put_defers]; exact q
   | panicked ch => exact q
   | outgrown => exact lo q
  | _ => exact h
 | halt hlt w' =>
  cases hlt <;> first | exact h | (rw [Oper.uponIn_panic] at h ⊢; exact h)
section
variable {gv : GV} {Cf : Cfg} {rd : Option Nat} {lo : Nat} {bs : List (Nat × Nat × Nat)} {Q : Exit → Act → World → Prop}
theorem Ah {n : Nat} {e : Env} {dst : Option Nat} {p : PV} {t : Nat} (h : dst ≠ some t) : put n e dst p t = e t := by
 cases dst with
 | none => rfl
 | some d =>
  have : ai t d = false := by
   rw [Bool.eq_false_iff]; intro q; exact h (by rw [ao q])
  unfold put; simp only
  cases fC d n with
  | false => rfl
  | true => simp only [cond_true, upd, this, cond_false]
theorem kj {R : Type} (G : Good gv Cf.pn Cf.P Cf.call) (hbase : ∀ m t l, (m, t, l) ∈ bs → m ≤ Cf.base) {ops : Array Oper} {ds : List Deferred} {live : List Nat} {K : Env → St → Option R} {N : TypeId → Value → St → Option R} {r : R} :
 ∀ (os : List Oper) (i : Nat) (e : Env) (a : Act) (w : World) (C : Ctx) (st : St), ops.toList.drop i = os → (∀ o ∈ os, kP Cf.P o ∧ ∀ t ∈ live, o.dst ≠ some t) → Sim w C st bs → dT gv Cf.gl lo w C e Cf.n a → jB Cf ops os e st K N = some r →
  (∀ e' st' a' w' C', K e' st' = some r → Sim w' C' st' bs → Ext w C w' C' → dT gv Cf.gl lo w' C' e' Cf.n a' → (∀ t ∈ live, e' t = e t) → Q .normal { a' with defers := ds } w') →
  (∀ t x st' e' a' w' C', N t x st' = some r → Sim w' C' st' bs → Ext w C w' C' → dT gv Cf.gl lo w' C' e' Cf.n a' → (∀ t ∈ live, e' t = e t) → Q (.panic [{ v := .iface t x, recovered := false }]) { a' with defers := ds } w') →
  wpOpsIn (fen rd) 0 Cf.P ops Q (List.range' i os.length) { a with defers := ds } w
 | [], i, e, a, w, C, st, hd, _, H, hE, h, hK, hN => hK e st a w C h H (Ext.refl w C) hE fun _ _ => rfl
 | o :: os, i, e, a, w, C, st, hd, hno, H, hE, h, hK, hN => by
  have hoi : ops[i]? = some o := by
   have : (ops.toList.drop i)[0]? = some o := by rw [hd]; rfl
   rw [gD] at this; simpa using this
  have hdr : ops.toList.drop (i + 1) = os := by
   rw [show i + 1 = i + 1 from rfl, ← List.drop_drop, hd]; rfl
  obtain ⟨hnd, hlv⟩ := hno o (bK ..); simp only [jB] at h; rw [ak, List.range'_succ]; simp only [wpOpsIn, hoi]
  have hg := iE (rd := rd) (Q := fun e a' w' => Q e { a' with defers := ds } w') (next := fun a' w' => wpOpsIn (fen rd) 0 Cf.P ops Q (List.range' (i + 1) os.length) { a' with defers := ds } w') G hbase H hE h (fun p st' v w' C' hk k1 k2 k3 =>
   kj G hbase (live := live) os (i + 1) _ _ w' C' st' hdr (fun o' h' => hno o' (cn _ h')) k1 ((hE.mono k2).put o.dst k3) hk
    (fun e' st'' a' w'' C'' q1 q2 q3 q4 q5 => hK e' st'' a' w'' C'' q1 q2 (k2.trans q3) q4 fun t ht => (q5 t ht).trans (Ah (hlv t ht)))
    fun t x st'' e' a' w'' C'' q1 q2 q3 q4 q5 => hN t x st'' e' a' w'' C'' q1 q2 (k2.trans q3) q4 fun t ht => (q5 t ht).trans (Ah (hlv t ht)))
   fun t x st' w' C' q1 q2 q3 => hN t x st' e a w' C' q1 q2 q3 (hE.mono q3) fun _ _ => rfl
  split at hg
  · rename_i hw; rw [if_pos hw]; exact u9 hnd hg
  · rename_i hw; rw [if_neg hw, put_defers]; exact ⟨fun _ _ => trivial, hg⟩
def uI (z : Code) : List (Nat × Array Oper) → Code
 | [] => z
 | x :: l => .seq (.region x.1 x.2 false) (uI z l)
def kk {R : Type} (Cf : Cfg) : List (Nat × Array Oper) → Env → St → (Env → St → Option R) → (TypeId → Value → St → Option R) → Option R
 | [], e, st, K, _ => K e st
 | x :: l, e, st, K, N => jB Cf x.2 x.2.toList e st (fun e st => kk Cf l e st K N) N
theorem nS {R : Type} (G : Good gv Cf.pn Cf.P Cf.call) (hbase : ∀ m t l, (m, t, l) ∈ bs → m ≤ Cf.base) {ds : List Deferred} {live : List Nat} {K : Env → St → Option R} {N : TypeId → Value → St → Option R} {r : R} :
 ∀ (l : List (Nat × Array Oper)) (e : Env) (a : Act) (w : World) (C : Ctx) (st : St), (∀ x ∈ l, ∀ o ∈ x.2.toList, kP Cf.P o ∧ ∀ t ∈ live, o.dst ≠ some t) → Sim w C st bs → dT gv Cf.gl lo w C e Cf.n a → kk Cf l e st K N = some r →
  (∀ e' st' a' w' C', K e' st' = some r → Sim w' C' st' bs → Ext w C w' C' → dT gv Cf.gl lo w' C' e' Cf.n a' → (∀ t ∈ live, e' t = e t) → Q .ret { a' with defers := ds } w') →
  (∀ t x st' e' a' w' C', N t x st' = some r → Sim w' C' st' bs → Ext w C w' C' → dT gv Cf.gl lo w' C' e' Cf.n a' → (∀ t ∈ live, e' t = e t) → Q (.panic [{ v := .iface t x, recovered := false }]) { a' with defers := ds } w') →
  (uI .ret l).wpIn (fen rd) 0 Cf.P Q { a with defers := ds } w
 | [], e, a, w, C, st, _, H, hE, h, hK, hN => wpIn_ret (hK e st a w C h H (Ext.refl w C) hE fun _ _ => rfl)
 | x :: l, e, a, w, C, st, hno, H, hE, h, hK, hN => by
  simp only [kk] at h; refine wpIn_seq (wpIn_region ?_)
  have := kj (rd := rd) (Q := Exit.then ((uI .ret l).wpIn (fen rd) 0 Cf.P Q) Q) (ds := ds) G hbase (live := live) x.2.toList 0 e a w C st rfl (hno x (bK ..)) H hE h
   (fun e' st' a' w' C' q1 q2 q3 q4 q5 => nS G hbase l e' a' w' C' st' (fun y hy => hno y (cn _ hy)) q2 q4 q1
    (fun e2 s2 a2 w2 C2 k1 k2 k3 k4 k5 => hK e2 s2 a2 w2 C2 k1 k2 (q3.trans k3) k4 fun t ht => (k5 t ht).trans (q5 t ht))
    fun t x s2 e2 a2 w2 C2 k1 k2 k3 k4 k5 => hN t x s2 e2 a2 w2 C2 k1 k2 (q3.trans k3) k4 fun t ht => (k5 t ht).trans (q5 t ht))
   (fun t x st' e' a' w' C' q1 q2 q3 q4 q5 => hN t x st' e' a' w' C' q1 q2 q3 q4 q5)
  rw [List.range_eq_range']; simpa using this
end
def B6 (z : Code) : List (Code × Ann) → Code
 | [] => z
 | x :: l => .seq x.1 (B6 z l)
noncomputable def nT {R : Type} (Cf : Cfg) : List (Code × Ann) → Env → St → (Env → St → Option R) → (Env → St → Option R) → Option R
 | [], e, st, F, K => K e st
 | x :: l, e, st, F, K => fq Cf x.1 x.2 e st fun ex e st => match ex with
  | .normal => nT Cf l e st F K
  | .ret => F e st
  | _ => none
section
variable {gv : GV} {Cf : Cfg} {lo : Nat} {bs : List (Nat × Nat × Nat)} {Q : Exit → Act → World → Prop}
theorem pv {R : Type} (G : Good gv Cf.pn Cf.P Cf.call) {k : Nat} (hk : Cf.it = itK k) (hbase : ∀ m t l, (m, t, l) ∈ bs → m ≤ Cf.base) (tb : Nat) (hmem : (Cf.base, tb, Cf.lb) ∈ bs) (hD : vd gv Cf none lo bs) (hrd : ∀ C, sD Cf C none) {z : Code} {F K : Env → St → Option R} {r : R} :
 ∀ (l : List (Code × Ann)) (e : Env) (st : St) (a : Act) (w : World) (C : Ctx), nT Cf l e st F K = some r → Sim w C st bs → dT gv Cf.gl lo w C e Cf.n a →
  (∀ e' st' a' w' C', F e' st' = some r → Sim w' C' st' bs → Ext w C w' C' → dT gv Cf.gl lo w' C' e' Cf.n a' → Q .ret a' w') →
  (∀ e' st' a' w' C', K e' st' = some r → Sim w' C' st' bs → Ext w C w' C' → dT gv Cf.gl lo w' C' e' Cf.n a' → z.wpIn (fen none) 0 Cf.P Q a' w') → (B6 z l).wpIn (fen none) 0 Cf.P Q a w
 | [], e, st, a, w, C, h, H, hE, hF, hK => hK e st a w C h H (Ext.refl w C) hE
 | x :: l, e, st, a, w, C, h, H, hE, hF, hK => by
  simp only [nT] at h; refine wpIn_seq (kY G hk hbase tb hmem hD x.1 x.2 e st _ r a w C _ h H hE (hrd C) ?_); intro ex e' st' a' w' C' hq q1 q2 q3
  cases ex with
  | normal => exact pv G hk hbase tb hmem hD hrd l e' st' a' w' C' hq q1 (q3.rel rfl) (fun e2 s2 a2 w2 C2 k1 k2 k3 k4 => hF e2 s2 a2 w2 C2 k1 k2 (q2.trans k3) k4) fun e2 s2 a2 w2 C2 k1 k2 k3 k4 => hK e2 s2 a2 w2 C2 k1 k2 (q2.trans k3) k4
  | ret => exact hF e' st' a' w' C' hq q1 q2 (q3.rel rfl)
  | exit i => cases hq
  | pan t v => cases hq
end
structure Hdl (gv : GV) (P : Program) (h ar : Nat) (hd : List PV → TypeId → Value → St → Option St) : Prop where
 fn : ∃ fn, P.funcs[h]? = some fn ∧ (fn.name == "runtime.NumGoroutine") = false ∧ fn.body.isNone = false
 ret : ∀ (xs : Array Value) (w : World), xs.size = ar → CallsDIn (fen none) 0 P h xs .returning w fun e u' w' => (∃ v, e = .returned v) ∧ u' = .returning ∧ w' = w
 pan : ∀ cs t x s s', hd cs t x s = some s' → ∀ w C bs (xs : Array Value), lG gv w C → Sim w C s bs → (s.stk.length, s.tk.length, s.lp.length) ∈ bs ∨ True → xs.size = ar → xs.size = cs.length → (∀ (i : Nat) (x : Value) (p : PV), xs[i]? = some x → cs[i]? = some p → Rep w C x p) →
  CallsDIn (fen none) 0 P h xs (.panicking [{ v := .iface t x, recovered := false }]) w fun e u' w' => (∃ v, e = .returned v) ∧ settle u' = .returning ∧ ∃ C', Sim w' C' s' bs ∧ Ext w C w' C'
structure lH where
 P : Program
 n : Nat
 md : Md
 imp : List FuncId
 gl : Nat → PV
 pn : List FuncId
 pre : List (Code × Ann)
 id5 : Nat
 mf : Oper
 df : Oper
 t : Nat
 h : Nat
 ar : Nat
 post : List (Nat × Array Oper)
 rs : List ResultVar
 live : List Nat
 hd : List PV → TypeId → Value → St → Option St
def lH.cfg (R : lH) (call : bG) (st : St) : Cfg := ⟨R.P, call, R.n, st.stk.length, itK 0, R.imp, R.md, none, st.lp.length, R.gl, R.pn⟩
def lH.fin (R : lH) (st : St) (e : Env) (s : St) : Option (PV × St) := fi (R.cfg (fun _ _ _ => none) st) R.rs e s fun ps => AM.fin st.stk.length st.tk.length st.lp.length ps s
def qO {R : Type} (h ar : Nat) (p : PV) (K : List PV → Option R) : Option R := match p with
 | .clo (.func g) cs => bif ai g h && ai cs.length ar then K cs else none
 | _ => none
noncomputable def lH.ev (R : lH) (call : bG) (args : List PV) (st : St) : Option (PV × St) :=
 bif di args.length R.n then
  nT (R.cfg call st) R.pre (iW 0 args) st (R.fin st) fun e s =>
   guarded (R.cfg call st) #[R.mf, R.df] R.mf e s (fun p s => qO R.h R.ar (AM.put R.n e R.mf.dst p R.t) fun cs =>
    kk (R.cfg call st) R.post (AM.put R.n e R.mf.dst p) s (R.fin st) fun t x s2 => (R.hd cs t x s2).bind fun s3 => R.fin st (fO R.live (R.live.map (AM.put R.n e R.mf.dst p))) s3) fun _ _ _ => none
 else none
theorem qw {R : Type} {Ck : Nat → Cfg} {C : Cfg} (H : Lim Ck C) {K : Env → St → Option R} {N : TypeId → Value → St → Option R} {r : R} : ∀ (l : List (Nat × Array Oper)) (e : Env) (st : St), kk C l e st K N = some r → Evt (fun k => kk (Ck k) l e st K N) r
 | [], e, st, h => Evt.const h
 | x :: l, e, st, h => by
  simp only [kk] at h ⊢; exact oJ H (Kk := fun k e st => kk (Ck k) l e st K N) (Nk := fun _ => N) (fun e s h => qw H l e s h) (fun t x s h => Evt.const h) _ _ _ h
theorem rQ {R : Type} {Ck : Nat → Cfg} {C : Cfg} (H : Lim Ck C) {F K : Env → St → Option R} {Kk : Nat → Env → St → Option R} {r : R} (hK : ∀ e s, K e s = some r → Evt (fun k => Kk k e s) r) : ∀ (l : List (Code × Ann)) (e : Env) (st : St), nT C l e st F K = some r → Evt (fun k => nT (Ck k) l e st F (Kk k)) r
 | [], e, st, h => hK e st h
 | x :: l, e, st, h => by
  simp only [nT] at h ⊢
  refine kX H x.1 x.2 e st _ _ r h fun ex e s hx => ?_
  cases ex with
  | normal => exact rQ H hK l e s hx
  | ret => exact Evt.const hx
  | exit i => cases hx
  | pan t v => cases hx
noncomputable def lH.lh (R : lH) : pg := ⟨R.ev, fun {Ck C} hc args st r h => by
 have H : Lim (fun k => R.cfg (Ck k) st) (R.cfg C st) := ⟨fun _ => rfl, fun _ => rfl, fun _ => rfl, fun _ => rfl, fun _ => rfl, fun _ => rfl, fun _ => rfl, fun _ => rfl, fun _ => rfl, hc, fun b bk hb vs st r h => by
  simp only [lH.cfg, itK, iter] at h; cases h⟩
 unfold lH.ev at h ⊢
 cases hn : di args.length R.n with
 | false => rw [hn] at h; simp at h
 | true =>
  rw [hn] at h; simp only [cond_true] at h ⊢; refine rQ H (fun e s hx => ?_) R.pre _ st h
  refine eF H hx (fun p s hp => ?_) fun t x s hx => by cases hx
  unfold qO at hp ⊢; split at hp
  · rename_i g cs hc
    cases hg : ai g R.h && ai cs.length R.ar with
    | false => rw [hg] at hp; simp at hp
    | true =>
     rw [hg] at hp; simp only [hg, cond_true] at hp ⊢; exact qw H _ _ _ hp
  · cases hp⟩
structure lH.Ok (R : lH) (gv : GV) (f : Nat) : Prop where
 gl : GOk gv R.gl
 mixed : R.P.follows .mixedOrders = true
 fn : ∃ fn, R.P.funcs[f]? = some fn ∧ (fn.name == "runtime.NumGoroutine") = false ∧ fn.ntmps = R.n ∧ fn.results.toList = R.rs ∧ fn.body = some (B6 (.seq (.region R.id5 #[R.mf, R.df] false) (uI .ret R.post)) R.pre)
 mfg : R.mf.guard = none
 dfg : R.df.guard = none
 dfd : R.df.dst = none
 dfo : ∃ c : Call, R.df.op = .defer c ∧ c.callee = .value (.tmp R.t) ∧ c.args = #[]
 post : ∀ x ∈ R.post, ∀ o ∈ x.2.toList, kP R.P o ∧ ∀ t ∈ R.live, o.dst ≠ some t
 hdl : Hdl gv R.P R.h R.ar R.hd
theorem B3 {R : lH} {call : bG} {args : List PV} {st : St} {r : PV × St} (h : R.ev call args st = some r) : gE r.1 = false := by
 have fnp : ∀ e s, R.fin st e s = some r → gE r.1 = false := fun e s h => by
  obtain ⟨ps, h⟩ := ll _ _ _ _ _ h; exact zA h
 have postK : ∀ (C : Cfg) (l : List (Nat × Array Oper)) (e : Env) (s : St) (K : Env → St → Option (PV × St)) (N : TypeId → Value → St → Option (PV × St)), kk C l e s K N = some r → (∃ e s, K e s = some r) ∨ ∃ t x s, N t x s = some r := by
  intro C l
  induction l with
  | nil => intro e s K N h; exact cH ⟨_, _, h⟩
  | cons x l ih =>
   intro e s K N h; simp only [kk] at h
   rcases sX _ _ _ h with ⟨e', s', h⟩ | h
   · exact ih e' s' K N h
   · exact cD h
 have yi : ∀ (C : Cfg) (l : List (Code × Ann)) (e : Env) (s : St) (F K : Env → St → Option (PV × St)), nT C l e s F K = some r → (∃ e s, F e s = some r) ∨ ∃ e s, K e s = some r := by
  intro C l
  induction l with
  | nil => intro e s F K h; exact cD ⟨_, _, h⟩
  | cons x l ih =>
   intro e s F K h; simp only [nT] at h; obtain ⟨ex, e', s', h⟩ := nQ _ _ _ _ _ r h
   cases ex with
   | normal => exact ih e' s' F K h
   | ret => exact cH ⟨_, _, h⟩
   | exit i => cases h
   | pan t v => cases h
 unfold lH.ev at h
 cases hn : di args.length R.n with
 | false => rw [hn] at h; simp at h
 | true =>
  rw [hn] at h; simp only [cond_true] at h
  rcases yi _ _ _ _ _ _ h with ⟨e, s, h⟩ | ⟨e, s, h⟩
  · exact fnp e s h
  · rw [dm] at h
    obtain ⟨q, hq, h⟩ := Option.bind_eq_some_iff.1 h
    rcases qP h with ⟨p, s, h⟩ | ⟨t, x, s, h⟩
    · unfold qO at h
      split at h
      · rename_i g cs hc
        cases hg : ai g R.h && ai cs.length R.ar with
        | false => rw [hg] at h; simp at h
        | true =>
         rw [hg] at h; simp only [cond_true] at h
         rcases postK _ _ _ _ _ _ h with ⟨e, s, h⟩ | ⟨t, x, s, h⟩
         · exact fnp e s h
         · obtain ⟨s3, _, h⟩ := Option.bind_eq_some_iff.1 h
           exact fnp _ _ h
      · cases h
    · cases h
theorem yr {gv : GV} {R : lH} {f : Nat} (ok : R.Ok gv f) {call : bG} (G : Good gv R.pn R.P call) : Good gv R.pn R.P fun f' args st => match f' with
 | .func k => if k = f then R.ev call args st else none
 | _ => none := by
 intro g args st r hr
 cases g with
 | func k =>
  simp only at hr
  by_cases hkf : k = f
  · subst hkf
    rw [if_pos rfl] at hr; obtain ⟨fn, hf, hname, hn0, hrs, hbody⟩ := ok.fn; refine ⟨fun _ => ?_, ⟨fn, hf, hname, by rw [hbody]; rfl⟩, fun w C bs xs hg H hs hrep => ?_⟩
    · exact B3 hr
    · unfold lH.ev at hr
      cases hn : di args.length R.n with
      | false => rw [hn] at hr; simp at hr
      | true =>
       rw [hn] at hr; simp only [cond_true] at hr; have hn := dP hn; refine pw (rd := none) (n := 0) (callsIn_of_wp_marks hf hbody trivial ?_); rw [hn0]
       have hbase : ∀ m t l, (m, t, l) ∈ ((st.stk.length, st.tk.length, st.lp.length) :: bs) → m ≤ (R.cfg call st).base := by
        intro m t l hm
        rcases List.mem_cons.1 hm with hm | hm
        · cases hm; exact aq _
        · exact (H.bnd m t l hm).1
       have G' : Good gv (R.cfg call st).pn (R.cfg call st).P (R.cfg call st).call := G
       have go : ∀ e' s' (ds : List Deferred) (a' : Act) w' C', R.fin st e' s' = some r → Sim w' C' s' ((st.stk.length, st.tk.length, st.lp.length) :: bs) → Ext w C w' C' → (∀ i, Rep w' C' (a'.tmps.getD i undef) (e' i)) → Marks w' w.heap.size ds →
        LeavesInM (fen none) 0 R.P fn a'.tmps (pJ r bs w C) ds .returning w' := by
        intro e' s' ds a' w' C' hres q1 q2 q3 q4
        refine uw (e := e') rfl ds w' q1 q2 q4 q3 (by rw [q2.N]; exact H.low.1) fun w2 H2 X2 hr2 => ?_
        obtain ⟨ps, vs, p1, p2, p3, p4⟩ := lq (Cf := R.cfg (fun _ _ _ => none) st) H2 hr2 _ _ hres
        have p2 : (fn.results.toList.mapM (vV a'.tmps)).run R.P w2 = .ok vs w2 := by rw [hrs]; exact p2
        refine ⟨_, pE (Cf := R.cfg (fun _ _ _ => none) st) p2, ?_⟩; unfold AM.fin at p1; obtain ⟨p, hp, p1⟩ := Option.bind_eq_some_iff.1 p1
        cases hsf : sf false st.stk.length 4 p with
        | false => rw [hsf] at p1; simp at p1
        | true =>
         rw [hsf] at p1; obtain rfl := Option.some.inj p1; refine ⟨C'.fin s' st.stk.length st.tk.length st.lp.length, H2.fin (bK ..) (fun _ x => cn _ x) (fun m t l hm => H.bnd m t l hm), ?_, Ends.of (ql H2 hp hsf (uL p3 p4))⟩; exact (H.lT X2).trans (pT w2 C' s' _ _ _)
       refine pv (Cf := R.cfg call st) (lo := w.heap.size) (bs := (st.stk.length, st.tk.length, st.lp.length) :: bs) G' (k := 0) rfl hbase st.tk.length (bK ..) (sV G' hbase ok.mixed) (fun _ => trivial) R.pre (iW 0 args) st _ w C hr H.enter (dT.enter ⟨hg, ok.gl⟩ hs hn hrep) ?_ ?_
       · intro e' st' a' w' C' q0 q1 q2 q3
         exact go e' st' a'.defers a' w' C' q0 q1 q2 q3.rep q3.defers
       · intro e st1 a1 w1 C1 hq q1 q2 q3
         refine wpIn_seq (wpIn_region ?_)
         have hw0 : ∀ t : Array Value, Region.wanted R.mf (yielded #[R.mf, R.df] t) = true := fun t => by simp [Region.wanted, ok.mfg]
         have hw1 : ∀ t : Array Value, Region.wanted R.df (yielded #[R.mf, R.df] t) = true := fun t => by simp [Region.wanted, ok.dfg]
         have hgd := iE (rd := none) (lo := w.heap.size) (bs := (st.stk.length, st.tk.length, st.lp.length) :: bs) (Q := Exit.then ((uI .ret R.post).wpIn (fen none) 0 R.P (bodyPostM (fen none) 0 R.P fn (pJ r bs w C))) (bodyPostM (fen none) 0 R.P fn (pJ r bs w C)))
          (next := wpOpsIn (fen none) 0 R.P #[R.mf, R.df] (Exit.then ((uI .ret R.post).wpIn (fen none) 0 R.P (bodyPostM (fen none) 0 R.P fn (pJ r bs w C))) (bodyPostM (fen none) 0 R.P fn (pJ r bs w C))) [1]) G' hbase q1 q3 hq (fun p st2 v w2 C2 hp k1 k2 k3 => ?_) (fun t x s w' C' h => by cases h)
         · rw [if_pos (hw0 _)] at hgd
           show wpOpsIn (fen none) 0 R.P #[R.mf, R.df] _ [0, 1] a1 w1
           simp only [wpOpsIn, List.getElem?_toArray, aC]; rw [if_pos (hw0 _)]; exact hgd
         · -- the call that waits
           have hE2 := (q3.mono k2).put R.mf.dst k3; have hE2 : dT gv R.gl w.heap.size w2 C2 (AM.put R.n e R.mf.dst p) R.n (a1.put R.mf.dst v) := hE2; generalize hee : AM.put R.n e R.mf.dst p = e2 at hp hE2; generalize haa : a1.put R.mf.dst v = a2 at hE2; unfold qO at hp; split at hp
           · rename_i g cs hclo
             cases hgh : ai g R.h && ai cs.length R.ar with
             | false => rw [hgh] at hp; simp at hp
             | true =>
              rw [hgh] at hp; simp only [cond_true] at hp; simp only [an] at hgh; obtain rfl := ao hgh.1; have har := ao hgh.2; have hrt := hE2.rep R.t; rw [hclo] at hrt; generalize hvt : a2.tmps.getD R.t undef = vt at hrt
              cases hrt with
              | @clo _ _ ys _ hys hyr =>
              obtain ⟨c, hco, hcc, hca⟩ := ok.dfo
              have hev : (execOp a2.eval R.df).run R.P w2 = .ok (.defer { target := .fn (.func R.h) ys, args := #[] }) w2 := by
               have : a2.eval (.tmp R.t) = .func (.func R.h) #[] ys := hvt; simp [execOp, hco, resolve, hcc, hca, this, Deferred.ofValue]
              simp only [wpOpsIn, List.getElem?_toArray, ay, aC]; rw [if_pos (hw1 _)]; refine ⟨fun _ _ => trivial, ?_⟩; have hsm : (R.df.semAt (fen none).round a2.eval) = execOp a2.eval R.df := rfl; rw [hsm, hev, Oper.uponIn_defer, ok.dfd]
              show (uI .ret R.post).wpIn (fen none) 0 R.P (bodyPostM (fen none) 0 R.P fn (pJ r bs w C)) { a2 with defers := { target := .fn (.func R.h) ys, args := #[] } :: a2.defers } w2
              obtain ⟨fh, hfh1, hfh2, hfh3⟩ := ok.hdl.fn
              have hinv : ∀ w', (invoke (.fn (.func R.h) ys) #[]).run R.P w' = .ok (.enter R.h ys) w' := fun w' => by
               simp only [invoke, Array.empty_append]; exact kJ hfh1 hfh2 hfh3 w'
              have hX2 : Ext w C w2 C2 := q2.trans k2; refine nS (Cf := R.cfg call st) (rd := none) (lo := w.heap.size) (bs := (st.stk.length, st.tk.length, st.lp.length) :: bs) (live := R.live) G' hbase R.post e2 a2 w2 C2 st2 ok.post k1 hE2 hp ?_ ?_
              · intro e' st' a' w' C' p0 p1 p2 p3 p4
                refine ⟨by simp, cD ⟨fun hd => by simp [fen, Fence.wide] at hd, .func R.h, ys, R.h, ys, rfl, hinv w', fun _ _ => trivial, (ok.hdl.ret ys w' (by rw [hys]; exact har)).mono fun ee u' w'' hh => ?_⟩⟩; obtain ⟨⟨v', rfl⟩, rfl, rfl⟩ := hh; exact go e' st' a2.defers a' _ C' p0 p1 (hX2.trans p2) p3.rep (hE2.defers.mono p2)
              · intro t x st' e' a' w' C' p0 p1 p2 p3 p4
                obtain ⟨s3, h3, p0⟩ := Option.bind_eq_some_iff.1 p0; refine ⟨by simp, cD ⟨fun hd => by simp [fen, Fence.wide] at hd, .func R.h, ys, R.h, ys, rfl, hinv w', fun _ _ => trivial, (ok.hdl.pan cs t x st' s3 h3 w' C' _ ys p3.gl.1 p1 (cD trivial) (by rw [hys]; exact har) hys (fun i y q hy hq => (hyr i y q hy hq).mono p2)).mono fun ee u' w'' hh => ?_⟩⟩; obtain ⟨⟨v', rfl⟩, hu, C'', s1, x1⟩ := hh
                have hl : R.live.map e2 = R.live.map e' := List.map_congr_left fun t ht => (p4 t ht).symm
                rw [hl] at p0; simp only [hu]; exact go _ s3 a2.defers a' w'' C'' p0 s1 (hX2.trans (p2.trans x1)) (((p3.live R.live).mono x1).rep) (hE2.defers.mono (p2.trans x1))
           · cases hp
  · rw [if_neg hkf] at hr; cases hr
 | yield i => cases hr
 | _ => cases hr
def nb (s : ByteArray) : Bool := s.data.toList.all fun b => decide (b.toNat < 128)
def kE : List Value → Option PV
 | [.string s, .string t] => if s.size < 4294967281 then some (.v (.bool (Lib.contains s.data.toList t.data.toList))) else none
 | _ => none
def jH : List Value → Option PV
 | [.string s, .int .u8 c] => some (.v (.int .i64 (Lib.indexByte s.data.toList c.toNat.toUInt8)))
 | _ => none
def ir : List Value → Option PV
 | [.string s, .string t] => if s.size < 4294967281 ∧ t.size < 4294967281 ∧ nb s = true ∧ nb t = true then some (.v (.bool (Lib.containsAny s.data.toList t.data.toList))) else none
 | _ => none
def qR (ty : TypeId) : List Value → Option PV
 | [.string f, .string s, .int .i64 b, .int .i64 z, .iface t (.int .i64 n)] => if s.size ≤ 281474976710656 ∧ t = ty ∧ (n = 1 ∨ n = 2) then some .ni else none
 | _ => none
def yg : List Value → Option PV
 | [.int .u64 n, .int .i64 b] => if b = 10 ∧ 0 ≤ n ∧ n < 18446744073709551616 then some (.v (.string ⟨(Lib.decDigits n.toNat).toArray⟩)) else none
 | _ => none
open Go Go.Proofs
noncomputable def lk : Code → Array Oper
 | .region _ ops _ => ops
 | _ => #[]
noncomputable def qX : Code → Nat
 | .region i _ _ => i
 | _ => 0
noncomputable def c20 : Code := Tryd.f10.body.getD .skip
noncomputable def c47 : Code := Tryd.f25.body.getD .skip
noncomputable def r5 : Code := c20.r.r.r.r.l
noncomputable def r6 : Code := c20.r.r.r.r.r.l
noncomputable def pns : List FuncId := [46, 43, 79, 81, 80, 42, 171, 155, 137, 119, 118, 117, 45, 121, 115, 114, 116, 82, 41, 44, 26]
noncomputable def zm (s : St) : Cfg := ⟨Tryd.prog, fun _ _ _ => none, 14, s.stk.length, itK 0, [], ⟨[], []⟩, none, s.lp.length, fun _ => .u, pns⟩
noncomputable def o0 : Array Oper := lk c47.l
noncomputable def o1 : Array Oper := lk c47.r.l
noncomputable def o2 : Array Oper := lk c47.r.r.l.l
noncomputable def o3 : Array Oper := lk c47.r.r.l.r
noncomputable def zH (cs : List PV) (t : TypeId) (x : Value) (s : St) : Option St := match x with
 | .agg ⟨[]⟩ => bif ai t 92 && ai cs.length 3 then jB (zm s) o3 o3.toList (iW 0 cs) s (fun _ s2 => some s2) (fun _ _ _ => none) else none
 | _ => none
noncomputable def iZ : lH where
 P := Tryd.prog
 n := 24
 md := ⟨[], []⟩
 imp := []
 gl := fun _ => .u
 pn := pns
 pre := [(c20.l, .nil), (c20.r.l, .nil), (c20.r.r.l, .seq .nil (.cnd [2, 3, 4] (.seq .nil .nil) .nil)), (c20.r.r.r.l, .nil)]
 id5 := qX r5
 mf := (lk r5).toList.headD default
 df := (lk r5).toList.tail.headD default
 t := 20
 h := 25
 ar := 3
 post := [(qX r6, lk r6)]
 rs := Tryd.f10.results.toList
 live := [2, 3]
 hd := zH
theorem Dg : Tryd.f10.body = some (B6 (.seq (.region iZ.id5 #[iZ.mf, iZ.df] false) (uI .ret iZ.post)) iZ.pre) := by kernel_rfl
theorem vu : Tryd.f25.body = some c47 := by kernel_rfl
theorem xx : c47 = .seq (.region (qX c47.l) o0 false) (.seq (.region (qX c47.r.l) o1 false) (.cond (.tmp 6) (.seq (.region (qX c47.r.r.l.l) o2 false) (.region (qX c47.r.r.l.r) o3 false)) .skip)) := by kernel_rfl
noncomputable def opA (a : Array Oper) : Oper := a.toList.headD default
noncomputable def opB (a : Array Oper) : Oper := a.toList.tail.headD default
theorem Cq : o0 = #[opA o0, opB o0] := by kernel_rfl
theorem Cr : o1 = #[opA o1, opB o1] := by kernel_rfl
theorem Eb : o2 = #[opA o2, opB o2] := by kernel_rfl
theorem x0a (ρ : Operand → Value) : execOp ρ (opA o0) = pure .recover := by kernel_rfl
theorem x0b (ρ : Operand → Value) : execOp ρ (opB o0) = pure (.value (ρ (.tmp 4))) := by kernel_rfl
theorem x1a (ρ : Operand → Value) : execOp ρ (opA o1) = pure (.value (ρ (.tmp 3))) := by kernel_rfl
theorem x1b (ρ : Operand → Value) : execOp ρ (opB o1) = (do pure (Next.value (← (do eqGuard .neq 20 (.tmp 5) (.const .nilIface) (ρ (.tmp 5)) (ρ (.const .nilIface)); binOp .neq 20 (ρ (.tmp 5)) (ρ (.const .nilIface)))))) := by kernel_rfl
theorem x2a (ρ : Operand → Value) : execOp ρ (opA o2) = pure (.value (ρ (.tmp 3))) := by kernel_rfl
theorem x2b (ρ : Operand → Value) : execOp ρ (opB o2) = (do pure (Next.value (← Instr.typeAssert (ρ (.tmp 7)) 20 92 false))) := by kernel_rfl
theorem Cg : (opA o0).dst = some 4 ∧ (opB o0).dst = some 3 ∧ (opA o1).dst = some 5 ∧ (opB o1).dst = some 6 ∧ (opA o2).dst = some 7 ∧ (opB o2).dst = some 8 := by refine ⟨?_, ?_, ?_, ?_, ?_, ?_⟩ <;> kernel_rfl
theorem Ci : (opA o0).guard = none ∧ (opB o0).guard = none ∧ (opA o1).guard = none ∧ (opB o1).guard = none ∧ (opA o2).guard = none ∧ (opB o2).guard = none := by refine ⟨?_, ?_, ?_, ?_, ?_, ?_⟩ <;> kernel_rfl
theorem Ea (w : World) : (do pure (Next.value (← (do eqGuard .neq 20 (.tmp 5) (.const .nilIface) (.iface 92 (.agg #[])) .nilIface; binOp .neq 20 (.iface 92 (.agg #[])) .nilIface))) : Sem Next).run Tryd.prog w = .ok (.value (.bool true)) w := by kernel_rfl
theorem D0 (w : World) : (do pure (Next.value (← (do eqGuard .neq 20 (.tmp 5) (.const .nilIface) .nilIface .nilIface; binOp .neq 20 .nilIface .nilIface))) : Sem Next).run Tryd.prog w = .ok (.value (.bool false)) w := by kernel_rfl
theorem En (w : World) : (do pure (Next.value (← Instr.typeAssert (.iface 92 (.agg #[])) 20 92 false)) : Sem Next).run Tryd.prog w = .ok (.value (.agg #[])) w := by kernel_rfl
open Go Go.Proofs Go.RowKit
section
variable {P : Program} {ops : Array Oper} {Q : Exit → Act → List Frame → World → Prop} {a : Act} {cs : List Frame} {w : World}
theorem ic {i : Nat} {rest : List Nat} {o : Oper} {v : Value} {w' : World} (ho : ops[i]? = some o) (hg : o.guard = none) (h : (execOp a.eval o).run P w = .ok (.value v) w') (hn : wpOpsSIn (fen none) 0 P ops Q rest (a.put o.dst v) cs w') : wpOpsSIn (fen none) 0 P ops Q (i :: rest) a cs w := by
 have hw : Region.wanted o (yielded ops a.tmps) = true := by simp [Region.wanted, hg]
 simp only [wpOpsSIn, ho]; refine ⟨fun _ _ => trivial, ?_⟩; rw [if_pos hw, h]; exact hn
theorem va {i : Nat} {rest : List Nat} {o : Oper} {v : Value} {cs' : List Frame} (ho : ops[i]? = some o) (hg : o.guard = none) (h : (execOp a.eval o).run P w = .ok .recover w) (hr : recoverD cs = some (v, cs')) (hn : wpOpsSIn (fen none) 0 P ops Q rest (a.put o.dst v) cs' w) : wpOpsSIn (fen none) 0 P ops Q (i :: rest) a cs w := by
 have hw : Region.wanted o (yielded ops a.tmps) = true := by simp [Region.wanted, hg]
 simp only [wpOpsSIn, ho]; refine ⟨fun _ _ => trivial, ?_⟩; rw [if_pos hw, h]; simp only [hr]; exact hn
theorem yT {i : Nat} {rest : List Nat} {o : Oper} (ho : ops[i]? = some o) (hg : o.guard = none) (h : (execOp a.eval o).run P w = .ok .recover w) (hr : recoverD cs = none) (hn : wpOpsSIn (fen none) 0 P ops Q rest (a.put o.dst .nilIface) cs w) : wpOpsSIn (fen none) 0 P ops Q (i :: rest) a cs w := by
 have hw : Region.wanted o (yielded ops a.tmps) = true := by simp [Region.wanted, hg]
 simp only [wpOpsSIn, ho]; refine ⟨fun _ _ => trivial, ?_⟩; rw [if_pos hw, h]; simp only [hr]; exact hn
end
theorem iF {a : Act} {d : Nat} {v : Value} (h : d < a.tmps.size) : (a.put (some d) v).eval (.tmp d) = v := by
 show (a.tmps.setIfInBounds d v).getD d undef = v
 rw [aH, Array.getElem?_setIfInBounds]; simp [h]
theorem eX {a : Act} {d : Nat} {v : Value} : (a.put (some d) v).tmps.size = a.tmps.size := by simp [Act.put]
theorem gY {a : Act} {d : Option Nat} {v : Value} : (a.put d v).defers = a.defers := by cases d <;> rfl
theorem dT.yn {gv : GV} {g : Nat → PV} {lo n : Nat} {w : World} {C : Ctx} {e : Env} {a : Act} (h : dT gv g lo w C e n a) {d : Nat} (hd : e d = .u) (v : Value) : dT gv g lo w C e n (a.put (some d) v) := by
 have := h.put (some d) (Rep.u (w := w) (C := C) (x := v))
 have he : AM.put n e (some d) .u = e := by
  funext j
  unfold AM.put; simp only
  cases fC d n with
  | false => rfl
  | true =>
   simp only [cond_true, upd]
   cases hj : ai j d with
   | false => rfl
   | true => rw [ao hj, hd]; rfl
 rw [he] at this; exact this
theorem pC {P : Program} {o : Oper} (h : (match o.op with | .build _ _ | .load _ _ | .nilCheck _ | .fieldAddr _ _ _ | .store _ _ _ => true | _ => false) = true) : kP P o := by
 have hv : ∀ (s : Sem Value) (w : World) (d : Deferred) (w' : World), (do pure (Next.value (← s)) : Sem Next).run P w ≠ .ok (.defer d) w' := fun s w d w' hx => by
  rw [Sem.run_bind] at hx
  cases hq : s.run P w <;> rw [hq] at hx <;> simp [Result.andThen] at hx
 have hu : ∀ (s : Sem Unit) (w : World) (d : Deferred) (w' : World), (do s; pure Next.skip : Sem Next).run P w ≠ .ok (.defer d) w' := fun s w d w' hx => by
  rw [Sem.run_bind] at hx
  cases hq : s.run P w <;> rw [hq] at hx <;> simp [Result.andThen] at hx
 refine ⟨fun c hc => (by rw [hc] at h; cases h), fun a w d w' hx => ?_⟩; split at h
 · rename_i hop; simp only [execOp, hop] at hx; exact hv _ _ _ _ hx
 · rename_i hop; simp only [execOp, hop] at hx; exact hv _ _ _ _ hx
 · rename_i hop
   simp only [execOp, hop] at hx; split at hx
   · simp [runtimePanic] at hx
   · simp [runtimePanic] at hx
   · simp [runtimePanic] at hx
   · split at hx
     · simp [runtimePanic] at hx
     · simp only [Sem.run_bind] at hx
       generalize Sem.run P program w = q1 at hx
       cases q1 with
       | ok p1 w1 =>
        simp only [Result.andThen] at hx; generalize Sem.run P (nilAhead _ _ _ _) w1 = q2 at hx
        cases q2 with
        | ok p2 w2 =>
         simp only at hx; split at hx
         · simp [unsupported] at hx
         · simp at hx
        | _ => simp at hx
       | _ => simp [Result.andThen] at hx
     · simp [runtimePanic] at hx
   · simp at hx
 · rename_i hop; simp only [execOp, hop] at hx; exact hv _ _ _ _ hx
 · rename_i hop; simp only [execOp, hop] at hx; exact hu _ _ _ _ hx
 · cases h
theorem results47 (tmps : Array Value) (w : World) : (results Tryd.f25 tmps).run Tryd.prog w = .ok (.tuple #[]) w := by kernel_rfl
theorem zZ : ∀ o ∈ o3.toList, kP Tryd.prog o ∧ ∀ t ∈ ([] : List Nat), o.dst ≠ some t := by
 have hk : (o3.toList.all fun o => match o.op with | .build _ _ | .load _ _ | .nilCheck _ | .fieldAddr _ _ _ | .store _ _ _ => true | _ => false) = true := by kernel_rfl
 exact fun o ho => ⟨pC (dD.1 hk o ho), by simp⟩
theorem DT {gv : GV} (hgo : GOk gv fun _ => .u) : Hdl gv Tryd.prog 25 3 zH where
 fn := ⟨_, Tryd.func25, by kernel_rfl, by rw [vu]; rfl⟩
 ret xs w hs := by
  refine callsDIn_of_wpSIn Tryd.func25 vu trivial fun c0 cs hm => ?_
  obtain ⟨d1, d2, d3, d4, d5, d6⟩ := Cg; obtain ⟨g1, g2, g3, g4, g5, g6⟩ := Ci
  have hn : Tryd.f25.ntmps = 14 := by kernel_rfl
  rw [xx, hn]; generalize ha : ({ tmps := xs ++ Array.replicate (14 - xs.size) undef, defers := [] } : Act) = a
  have hsz : a.tmps.size = 14 := by rw [← ha]; simp [hs]
  have hdf : a.defers = [] := by rw [← ha]
  have hrec : recoverD (c0 :: cs) = none := by simp [recoverD, hm]
  refine wpSIn_seq (wpSIn_region ?_); rw [Cq]; refine yT (i := 0) (rest := [1]) (o := opA o0) rfl g1 (by rw [x0a]; rfl) hrec ?_; refine ic (i := 1) (rest := []) (o := opB o0) (v := .nilIface) rfl g2 (by rw [x0b, d1, iF (by omega)]; rfl) ?_; refine wpSIn_seq (wpSIn_region ?_); rw [Cr, d1, d2]; refine ic (i := 0) (rest := [1]) (o := opA o1) (v := .nilIface) rfl g3 (by rw [x1a, iF (by rw [eX]; omega)]; rfl) ?_; rw [d3]; refine ic (i := 1) (rest := []) (o := opB o1) (v := .bool false) (w' := w) rfl g4 (by rw [x1b, iF (by rw [eX, eX]; omega)]; exact D0 w) ?_; rw [d4]; refine wpSIn_cond (t := false) (iF (by rw [eX, eX, eX]; omega)) ?_; refine wpSIn_of_wpIn rfl (wpIn_skip ?_); refine ⟨by rw [gY, gY, gY, gY]; exact hdf, .returning, ?_, _, results47 _ w, ⟨_, rfl⟩, rfl, rfl⟩; rw [← hm]
 pan cl t x s s' h w C bs xs hg H _ hs hsl hrep := by
  unfold zH at h; split at h
  · cases htc : ai t 92 && ai cl.length 3 with
    | false => rw [htc] at h; simp at h
    | true =>
     rw [htc] at h; simp only [cond_true] at h; simp only [an] at htc; obtain rfl := ao htc.1
     refine callsDIn_of_wpSIn Tryd.func25 vu trivial fun c0 cs hm => ?_
     obtain ⟨d1, d2, d3, d4, d5, d6⟩ := Cg; obtain ⟨g1, g2, g3, g4, g5, g6⟩ := Ci
     have hn : Tryd.f25.ntmps = 14 := by kernel_rfl
     have hE := dT.enter (n := 14) ⟨hg, hgo⟩ hsl (by omega) hrep; rw [xx, hn]; generalize ha : ({ tmps := xs ++ Array.replicate (14 - xs.size) undef, defers := [] } : Act) = a at hE; have hsz : a.tmps.size = 14 := hE.size
     have hu : ∀ d, 3 ≤ d → iW 0 cl d = .u := fun d hd => by
      rw [mZ cl 0 d, if_pos (dh _), Nat.sub_zero, List.getElem?_eq_none (by omega)]; rfl
     have hrec : recoverD (c0 :: cs) = some (.iface 92 (.agg #[]), { c0 with mode := .panicking [{ v := .iface 92 (.agg #[]), recovered := true }] } :: cs) := by simp [recoverD, hm]
     refine wpSIn_seq (wpSIn_region ?_); rw [Cq]; refine va (i := 0) (rest := [1]) (o := opA o0) rfl g1 (by rw [x0a]; rfl) hrec ?_; rw [d1]; have hE := hE.yn (hu 4 (by omega)) (.iface 92 (.agg #[])); refine ic (i := 1) (rest := []) (o := opB o0) (v := .iface 92 (.agg #[])) rfl g2 (by rw [x0b, iF (by omega)]; rfl) ?_; rw [d2]; have hE := hE.yn (hu 3 (by omega)) (.iface 92 (.agg #[])); refine wpSIn_seq (wpSIn_region ?_); rw [Cr]; refine ic (i := 0) (rest := [1]) (o := opA o1) (v := .iface 92 (.agg #[])) rfl g3 (by rw [x1a, iF (by rw [eX]; omega)]; rfl) ?_; rw [d3]; have hE5 := hE.yn (hu 5 (by omega)) (.iface 92 (.agg #[])); refine ic (i := 1) (rest := []) (o := opB o1) (v := .bool true) (w' := w) rfl g4 (by rw [x1b, iF (by rw [eX, eX]; omega)]; exact Ea w) ?_; rw [d4]; have hE6 := hE5.yn (hu 6 (by omega)) (.bool true); refine wpSIn_cond (t := true) (iF (by rw [eX, eX, eX]; omega)) ?_; simp only [if_true]; refine wpSIn_seq (wpSIn_region ?_); rw [Eb]
     have h3 : ∀ (b : Act) (d : Nat) (v : Value), d ≠ 3 → (b.put (some d) v).eval (.tmp 3) = b.eval (.tmp 3) := fun b d v hd => by
      show (b.tmps.setIfInBounds d v).getD 3 undef = b.tmps.getD 3 undef
      rw [aH, aH, dR hd]
     refine ic (i := 0) (rest := [1]) (o := opA o2) (v := .iface 92 (.agg #[])) rfl g5 (by rw [x2a, h3 _ _ _ (by omega), h3 _ _ _ (by omega), iF (by rw [eX]; omega)]; rfl) ?_; rw [d5]; have hE7 := hE6.yn (hu 7 (by omega)) (.iface 92 (.agg #[])); refine ic (i := 1) (rest := []) (o := opB o2) (v := .agg #[]) (w' := w) rfl g6 (by rw [x2b, iF (by rw [eX, eX, eX, eX]; omega)]; exact En w) ?_; rw [d6]; have hE8 := hE7.yn (hu 8 (by omega)) (.agg #[]); generalize hb8 : (((((((a.put (some 4) _).put (some 3) _).put (some 5) _).put (some 6) _).put (some 7) _).put (some 8) _)) = b at hE8
     have hdb : b.defers = [] := by rw [← hb8, gY, gY, gY, gY, gY, gY, ← ha]
     refine wpSIn_of_wpIn rfl (wpIn_region ?_)
     have hb2 : ({ b with defers := [] } : Act) = b := by cases b; simp only at hdb; rw [hdb]
     have G : Good gv (zm s).pn (zm s).P (zm s).call := fun g args st r hr => by cases hr
     have := kj (Cf := zm s) (rd := none) (lo := w.heap.size) (bs := bs) (Q := fun e a' w' => bodyPostS Tryd.prog Tryd.f25 c0 cs (fun e u' w' => (∃ v, e = .returned v) ∧ settle u' = .returning ∧ ∃ C', Sim w' C' s' bs ∧ Ext w C w' C') e a' ({ c0 with mode := .panicking [{ v := .iface 92 (.agg #[]), recovered := true }] } :: cs) w')
      G (fun m t l hm => (H.bnd m t l hm).1) (ds := []) (live := []) o3.toList 0 (iW 0 cl) b w C s rfl zZ H hE8 h
      (fun e' st' a' w' C' hq q1 q2 q3 q4 => by
       obtain rfl := Option.some.inj hq
       exact ⟨rfl, _, rfl, _, results47 _ w', ⟨_, rfl⟩, rfl, C', q1, q2⟩)
      (fun t x st' e' a' w' C' hq => by cases hq)
     rw [hb2] at this; rw [List.range_eq_range']; rw [Array.length_toList] at this; exact this
  · cases h
theorem z6 : ∀ x ∈ iZ.post, ∀ o ∈ x.2.toList, kP Tryd.prog o ∧ ∀ t ∈ iZ.live, o.dst ≠ some t := by
 have hk : ((lk r6).toList.all fun o => (match o.op with | .build _ _ | .load _ _ | .nilCheck _ | .fieldAddr _ _ _ | .store _ _ _ => true | .call c => (match c.callee with | .value (.func f) => ai f 26 | _ => false) | _ => false) && (match o.dst with | some t => fC 3 t | none => true)) = true := by kernel_rfl
 intro x hx o ho; obtain rfl : x = (qX r6, lk r6) := List.mem_singleton.1 hx; have h := dD.1 hk o ho; rw [an] at h; refine ⟨?_, fun t ht hd => ?_⟩
 · have h := h.1
   cases hop : o.op with
   | call c =>
    rw [hop] at h; simp only at h; split at h
    · rename_i f hc
      obtain rfl := ao h; refine ⟨fun c hc => (by rw [hop] at hc; cases hc), fun a w d w' hx => ?_⟩
      have : execOp a.eval o = callFunc 26 (#[] ++ c.args.map a.eval ++ #[]) := by
       simp [execOp, hop, resolve, hc, Act.eval, Deferred.ofValue, invoke]
      rw [this, kJ Tryd.func26 (by kernel_rfl) (by kernel_rfl) w] at hx; cases hx
    · cases h
   | _ =>
    rw [hop] at h
    first
    | (cases h; done)
    | exact pC (by rw [hop])
 · have h := h.2
   rw [hd] at h
   have ht : t = 2 ∨ t = 3 := by simpa [iZ] using ht
   rcases ht with rfl | rfl <;> cases h
theorem yq {gv : GV} (hgo : GOk gv fun _ => .u) : iZ.Ok gv 10 where
 gl := hgo
 mixed := by kernel_rfl
 fn := ⟨Tryd.f10, Tryd.func10, by kernel_rfl, by kernel_rfl, rfl, Dg⟩
 mfg := by kernel_rfl
 dfg := by kernel_rfl
 dfd := by kernel_rfl
 dfo := ⟨(match iZ.df.op with | .defer c => c | _ => default), by kernel_rfl, by kernel_rfl, by kernel_rfl⟩
 post := z6
 hdl := DT hgo
end Go.AM
namespace Go.Proofs.YtlhlijaondmccaaDoor.S
open Go Go.AM Go.Proofs
def Em : List (Nat × Ann) := [(69, .seq .nil (.seq .nil (.seq .nil (.seq (.seq .nil (.blk (.lop [0, 5, 24, 25, 26] false (.seq .nil (.seq (.cnd [0, 5, 24, 25, 26] .nil .nil) (.seq (.blk (.seq .nil (.seq .nil (.seq .nil (.cnd [0, 5, 24, 25, 26] .nil .nil))))) .nil)))))) .nil)))),
 (70, .seq .nil (.seq (.seq .nil (.blk (.lop [0, 1, 4, 11] false (.seq .nil (.seq (.cnd [0, 1, 4, 11, 12] .nil .nil) (.blk (.seq .nil (.seq .nil (.cnd [0, 1, 4, 11] .nil .nil))))))))) .nil)),
 (37, .seq .nil (.blk (.lop [0] false (.seq (.seq .nil (.cnd [0] .nil .nil)) (.blk (.blk (.seq .nil (.cnd [0] .nil (.seq .nil (.cnd [0] .nil .nil)))))))))),
 (109, .seq .nil (.seq (.seq .nil (.blk (.lop [0, 2, 6] false (.seq .nil (.seq (.cnd [0, 2, 6, 7] .nil .nil) (.blk (.seq .nil (.seq .nil (.cnd [0, 2, 6] .nil .nil))))))))) .nil)),
 (134, .seq .nil (.seq (.seq .nil (.cnd [0, 1, 2, 6, 7] .nil .nil)) (.seq .nil (.seq .nil (.seq (.blk (.seq .nil (.cnd [0, 1, 2, 6, 7, 8, 9] .nil (.seq .nil (.cnd [0, 1, 2, 6, 7, 8, 9] (.seq .nil (.seq .nil (.cnd [0, 1, 2, 6, 7, 8, 9] (.blk (.seq .nil (.cnd [0, 1, 2, 6, 7, 8, 9] .nil (.seq .nil (.cnd [0, 1, 2, 6, 7, 8, 9] .nil (.seq .nil (.cnd [0, 1, 2, 6, 7, 8, 9] .nil .nil))))))) .nil))) .nil))))) (.seq (.seq .nil (.cnd [0, 1, 2, 6, 7, 8, 9] .nil (.seq .nil (.cnd [0, 1, 2, 6, 7, 8, 9] .nil .nil)))) (.seq .nil (.seq (.seq .nil (.blk (.seq .nil (.cnd [0, 1, 2, 6, 7, 8, 9, 10] .nil (.seq .nil (.cnd [0, 1, 2, 6, 7, 8, 9, 10] .nil .nil)))))) (.seq .nil (.seq .nil (.seq .nil (.seq (.seq .nil (.blk (.lop [1, 6, 7, 8, 9, 10, 11, 12, 13, 99, 100, 101] false (.seq .nil (.seq (.cnd [1, 6, 7, 8, 9, 10, 11, 12, 13, 99, 100, 101] .nil .nil) (.seq (.blk (.seq .nil (.seq .nil (.seq (.blk (.seq .nil (.cnd [1, 6, 7, 8, 9, 10, 11, 12, 13, 16, 99, 100, 101] .nil (.seq .nil (.cnd [1, 6, 7, 8, 9, 10, 11, 12, 13, 16, 99, 100, 101] .nil (.seq .nil (.cnd [1, 6, 7, 8, 9, 10, 11, 12, 13, 16, 99, 100, 101] .nil .nil))))))) (.seq (.seq .nil (.cnd [1, 6, 7, 8, 9, 10, 11, 12, 13, 16, 99, 100, 101] .nil .nil)) (.seq (.seq .nil (.cnd [1, 6, 7, 8, 9, 10, 11, 12, 13, 16, 99, 100, 101] .nil .nil)) (.seq .nil (.seq .nil (.seq (.seq .nil (.cnd [1, 6, 7, 8, 9, 10, 11, 12, 13, 17, 99, 100, 101] .nil .nil)) .nil))))))))) .nil)))))) (.seq (.seq .nil (.cnd [6, 7, 13] .nil .nil)) .nil))))))))))))),
 (110, .seq .nil (.seq .nil (.seq (.seq .nil (.cnd [6, 7, 8] .nil .nil)) .nil))),
 (75, .seq .nil (.seq .nil (.seq .nil (.seq (.blk (.seq .nil (.cnd [2, 3, 4] .nil (.seq .nil (.cnd [2, 3, 4] .nil .nil))))) .nil)))),
 (77, .seq .nil (.seq .nil (.seq (.seq .nil (.blk (.lop [0, 2, 3, 4, 16, 17] false (.seq .nil (.seq (.cnd [0, 2, 3, 4, 16, 17] .nil .nil) (.seq (.blk (.seq .nil (.seq .nil (.cnd [0, 2, 3, 4, 16, 17] .nil .nil)))) .nil)))))) (.seq (.seq .nil (.cnd [0, 2, 3, 4] .nil .nil)) .nil)))),
 (38, .seq .nil (.seq .nil (.seq (.blk (.seq .nil (.cnd [0, 2, 3] .nil (.seq .nil (.cnd [0, 2, 3] .nil .nil))))) .nil))),
 (24, .seq .nil (.seq (.seq .nil (.cnd [0, 2, 3] .nil .nil)) (.seq .nil (.seq .nil (.blk (.lop [2, 3, 4, 5] true (.blk (.seq .nil (.seq (.seq .nil (.cnd [2, 3, 4, 5] .nil .nil)) (.seq .nil (.seq (.seq .nil (.cnd [2, 3, 4, 5, 6] .nil .nil)) .nil))))))))))),
 (40, .seq .nil (.seq (.seq .nil (.cnd [4] .nil .nil)) .nil)),
 (43, .seq .nil (.seq .nil (.seq (.seq .nil (.cnd [4, 5] .nil .nil)) .nil))),
 (113, .seq .nil (.seq .nil (.seq (.seq .nil (.cnd [2, 3] .nil .nil)) .nil))),
 (79, .seq .nil (.seq .nil (.seq (.seq .nil (.cnd [0, 4] .nil .nil)) .nil))),
 (80, .seq .nil (.seq (.seq .nil (.blk (.lop [0, 2, 5, 6] false (.seq .nil (.seq (.cnd [0, 2, 5, 6] .nil .nil) (.seq (.blk (.seq .nil (.seq .nil (.cnd [0, 2, 5, 6] .nil .nil)))) .nil)))))) .nil)),
 (41, .seq .nil (.seq .nil (.seq .nil (.seq .nil (.seq (.blk (.lop [0, 2, 4] false (.seq (.seq .nil (.cnd [0, 2, 4] .nil .nil)) .nil))) .nil))))),
 (81, .seq .nil (.seq .nil (.seq .nil (.cnd [] .nil .nil)))),
 (170, .seq .nil (.seq (.seq .nil (.blk (.seq .nil (.cnd [2] .nil (.seq .nil (.cnd [2] .nil (.seq .nil (.cnd [2] .nil .nil)))))))) .nil)),
 (171, .seq .nil (.seq .nil (.seq .nil (.seq (.blk (.seq .nil (.cnd [2, 4] .nil (.seq .nil (.cnd [2, 4] .nil (.seq .nil (.cnd [2, 4] .nil (.seq .nil (.cnd [2, 4] .nil (.seq .nil (.cnd [2, 4] (.seq .nil (.seq .nil (.cnd [2, 4] .nil .nil))) (.seq .nil (.cnd [2, 4] .nil .nil))))))))))))) .nil)))),
 (155, .seq .nil (.seq .nil (.seq .nil (.seq (.seq .nil (.cnd [0, 2, 3, 4] .nil .nil)) (.seq (.seq .nil (.cnd [0, 2, 3, 4] .nil .nil)) .nil))))),
 (157, .seq .nil (.seq (.seq .nil (.blk (.lop [0, 2, 5, 6] false (.seq .nil (.seq (.cnd [0, 2, 5, 6] .nil .nil) (.seq (.blk (.seq .nil (.seq .nil (.cnd [0, 2, 5, 6] .nil .nil)))) .nil)))))) .nil)),
 (137, .seq .nil (.seq (.seq .nil (.cnd [0, 1, 4] .nil .nil)) (.seq .nil (.blk (.lop [0, 1, 4, 5] true (.blk (.seq .nil (.seq (.seq .nil (.cnd [0, 1, 4, 5, 6] .nil .nil)) (.seq .nil (.seq .nil (.seq .nil (.cnd [0, 1, 4, 5] .nil .nil)))))))))))),
 (118, .seq .nil (.seq .nil (.seq .nil (.seq (.blk (.seq .nil (.cnd [2, 4] .nil (.seq .nil (.cnd [2, 4] .nil .nil))))) .nil)))),
 (117, .seq .nil (.seq .nil (.seq .nil (.seq (.blk (.seq .nil (.cnd [2, 4] .nil (.seq .nil (.cnd [2, 4] .nil (.seq .nil (.cnd [2, 4] (.seq .nil (.cnd [2, 4] .nil .nil)) .nil))))))) .nil)))),
 (114, .seq .nil (.seq .nil (.seq (.seq .nil (.cnd [0, 3, 4] .nil .nil)) .nil))),
 (116, .seq .nil (.seq .nil (.seq .nil (.seq (.seq .nil (.cnd [3, 4] .nil .nil)) .nil)))),
 (120, .seq .nil (.seq (.seq .nil (.cnd [2] .nil .nil)) .nil)),
 (121, .seq .nil (.seq .nil (.seq .nil (.seq (.seq .nil (.cnd [0, 2, 3] .nil .nil)) (.blk (.lop [0, 2, 3] false (.blk (.seq .nil (.seq (.seq .nil (.cnd [0, 2, 3] .nil .nil)) .nil))))))))),
 (82, .seq .nil (.seq .nil (.seq .nil (.seq (.seq .nil (.cnd [0, 2, 3, 4] .nil .nil)) (.seq (.blk (.seq .nil (.cnd [0, 2, 4] .nil (.seq .nil (.cnd [0, 2, 4] .nil (.seq .nil (.cnd [0, 2, 4] .nil (.seq .nil (.cnd [0, 2, 4] (.seq .nil (.seq (.seq .nil (.cnd [0, 2, 4] .nil .nil)) .nil)) (.seq .nil (.cnd [0, 2, 4] .nil (.seq .nil (.cnd [0, 2, 4] .nil (.seq .nil (.cnd [0, 2, 4] .nil (.seq .nil (.cnd [0, 2, 4] .nil (.seq .nil (.cnd [0, 2, 4] .nil .nil))))))))))))))))))) .nil))))),
 (45, .seq .nil (.seq .nil (.seq .nil (.seq (.blk (.lop [0, 3] false (.seq (.seq .nil (.cnd [0, 3] .nil .nil)) .nil))) .nil)))),
 (44, .seq .nil (.seq .nil (.seq .nil (.seq .nil (.seq (.seq .nil (.cnd [0, 2, 4] (.blk (.lop [0, 2, 4] false (.blk (.seq .nil (.seq (.seq .nil (.cnd [0, 2, 4] .nil .nil)) .nil))))) .nil)) .nil))))),
 (26, .seq .nil (.seq .nil (.blk (.lop [0, 2, 3] true (.blk (.seq .nil (.blk (.seq .nil (.cnd [0, 2, 3] .nil (.seq .nil (.cnd [0, 2, 3] .nil (.seq .nil (.cnd [0, 2, 3] .nil (.seq .nil (.cnd [0, 2, 3] .nil (.seq .nil (.cnd [0, 2, 3] .nil .nil))))))))))))))))),
 (4, .seq .nil (.seq (.seq .nil (.cnd [0, 1, 4] .nil .nil)) (.seq (.seq .nil (.cnd [0, 1, 4] .nil .nil)) (.seq .nil (.seq (.seq .nil (.cnd [0, 1, 4, 5, 6] .nil .nil)) (.seq (.seq .nil (.cnd [0, 1, 4, 5, 6] .nil .nil)) (.seq .nil (.seq (.seq .nil (.blk (.lop [0, 1, 4, 5, 6, 7, 8, 9] false (.seq (.seq .nil (.cnd [0, 1, 4, 5, 6, 7, 8, 9] .nil .nil)) .nil)))) (.seq .nil (.seq .nil (.seq (.seq .nil (.cnd [0, 4, 10, 11] .nil .nil)) (.seq .nil (.seq (.seq .nil (.cnd [4, 11, 13] .nil .nil)) .nil)))))))))))))]
def look : List (Nat × Ann) → Nat → Ann
 | (i, x) :: l, f => bif ai i f then x else look l f
 | [], _ => .nil
def mdL : List (Nat × Md) := []
def Cp : List (Nat × Md) → Nat → Md
 | (i, x) :: l, f => bif ai i f then x else Cp l f
 | [], _ => ⟨[], []⟩
def glL : List (Nat × PV) := []
def Co : List (Nat × PV) → Nat → PV
 | (i, x) :: l, g => bif ai i g then x else Co l g
 | [], _ => .u
def gl : Nat → PV := Co glL
noncomputable def Ad : List (Nat × pg) := [(133, .pure (iM kE)), (106, .pure (iM jH)), (112, .pure (iM ir)), (99, .pure (iM yg)), (135, .pure (iM (qR 192))), (10, iZ.lh)]
noncomputable def xp : List (Nat × pg) → Nat → Option pg
 | (i, x) :: l, f => bif ai i f then some x else xp l f
 | [], _ => none
noncomputable def L : Lib := ⟨Tryd.prog, look Em, Cp mdL, [46, 43, 79, 81, 80, 42, 171, 155, 137, 119, 118, 117, 45, 121, 115, 114, 116, 82, 41, 44, 26, 113, 40, 120, 53, 90, 48, 50, 49, 126, 92, 91, 51, 176, 172, 158, 138, 127, 128, 125, 52, 93, 30, 69, 37, 75, 76, 77, 38], xp Ad, gl, [46, 43, 79, 81, 80, 42, 171, 155, 137, 119, 118, 117, 45, 121, 115, 114, 116, 82, 41, 44, 26]⟩
noncomputable def S97 (call : bG) (it : bO) (a0 a1 : PV) (st : St) : Option (PV × St) :=
(jP Tryd.prog 9 a0).bind fun p1 =>
(jP Tryd.prog 9 a1).bind fun p2 =>
(aT Tryd.prog false .geq 3 p1 p2).bind fun p3 =>
(onG p3 true (
some (a0, st)) st).bind fun r5 =>
(onG p3 true (
some (a1, r5.2)) r5.2).bind fun r7 =>
(onG p3 true (
(jP Tryd.prog 9 r7.1).bind fun p10 =>
some (p10, r7.2)) r7.2).bind fun r9 =>
(onG p3 true (
(gz Tryd.prog 9 r5.1 none (some r9.1) none).bind fun p13 =>
some (p13, r9.2)) r9.2).bind fun r12 =>
(onG p3 true (
some (a1, r12.2)) r12.2).bind fun r15 =>
(onG p3 true (
(aT Tryd.prog false .eql 9 r12.1 r15.1).bind fun p18 =>
some (p18, r15.2)) r15.2).bind fun r17 =>
(bP p3 r17.1 (PV.v (.bool false))).bind fun p19 =>
fin st.stk.length st.tk.length st.lp.length [p19] r17.2
theorem Db (a0 a1 : PV) (st : St) : E L (.func 97) [a0, a1] st = S97 (E L) itE a0 a1 st := (bJ (by kernel_rfl) Tryd.func97 _ _).trans (by kernel_rfl)
noncomputable def S59 (call : bG) (it : bO) (a0 a1 : PV) (st : St) : Option (PV × St) :=
(call (.func 97) [ah a0, ah a1] st).bind fun r1 =>
fin st.stk.length st.tk.length st.lp.length [r1.1] r1.2
theorem CX (a0 a1 : PV) (st : St) : E L (.func 59) [a0, a1] st = S59 (E L) itE a0 a1 st := (bJ (by kernel_rfl) Tryd.func59 _ _).trans (by kernel_rfl)
noncomputable def S69.b0 (call : bG) (it : bO) (base lb : Nat) (vs15 : List PV) (st16 : St) : Option (Ex × List PV × St) :=
(aT Tryd.prog false .lss 3 (ae vs15 4) (ae vs15 3)).bind fun p17 =>
aD p17 fun b18 => (bif b18 then
some (Ex.normal, [(ae vs15 0), (ae vs15 1), (ae vs15 2), (ae vs15 3), (ae vs15 4)], st16)
else
some ((Ex.exit 0), [(ae vs15 0), (ae vs15 1), (ae vs15 2), (ae vs15 3), (ae vs15 4)], st16)).bind fun r19 =>
cd r19.1 ((cJ Tryd.prog 74 (ae r19.2.1 2) (ae r19.2.1 4)).bind fun p21 =>
(al false 1 p21 r19.2.2).bind fun p22 =>
(aE (ae r19.2.1 0)).bind fun p23 =>
(av p23 2).bind fun p24 =>
(al false 1 p24 r19.2.2).bind fun p25 =>
(aT Tryd.prog true .add 3 p25 (PV.v (.int .i64 1))).bind fun p26 =>
(aE (ae r19.2.1 0)).bind fun p27 =>
(av p27 2).bind fun p28 =>
(au base 1 p28 p26 r19.2.2).bind fun st29 =>
(aT Tryd.prog true .eql 5 p22 (PV.v (.int .u8 10))).bind fun p30 =>
aD p30 fun b31 => (bif b31 then
(aE (ae r19.2.1 0)).bind fun p33 =>
(av p33 1).bind fun p34 =>
(al false 1 p34 st29).bind fun p35 =>
(aT Tryd.prog true .add 3 p35 (PV.v (.int .i64 1))).bind fun p36 =>
(aE (ae r19.2.1 0)).bind fun p37 =>
(av p37 1).bind fun p38 =>
(au base 1 p38 p36 st29).bind fun st39 =>
(aE (ae r19.2.1 0)).bind fun p40 =>
(av p40 2).bind fun p41 =>
(au base 1 p41 (PV.v (.int .i64 1)) st39).bind fun st42 =>
some (Ex.normal, [(ae r19.2.1 0), (ae r19.2.1 1), (ae r19.2.1 2), (ae r19.2.1 3), (ae r19.2.1 4)], st42)
else
some (Ex.normal, [(ae r19.2.1 0), (ae r19.2.1 1), (ae r19.2.1 2), (ae r19.2.1 3), (ae r19.2.1 4)], st29)).bind fun r32 =>
cd (Ex.bf 1 r32.1) ((aT Tryd.prog true .add 3 (ae r32.2.1 4) (PV.v (.int .i64 1))).bind fun p44 =>
some (Ex.normal, [(ae r32.2.1 0), (ae r32.2.1 1), (ae r32.2.1 2), (ae r32.2.1 3), p44], r32.2.2)) fun x43 =>
some (x43, [(ae r32.2.1 0), (ae r32.2.1 1), (ae r32.2.1 2), (ae r32.2.1 3), (ae r32.2.1 4)], r32.2.2)) fun x20 =>
some (x20, [(ae r19.2.1 0), (ae r19.2.1 1), (ae r19.2.1 2), (ae r19.2.1 3), (ae r19.2.1 4)], r19.2.2)
noncomputable def S69 (call : bG) (it : bO) (a0 a1 : PV) (st : St) : Option (PV × St) :=
(aE a0).bind fun p1 =>
(av p1 0).bind fun p2 =>
(al false 1 p2 st).bind fun p3 =>
(gz Tryd.prog 9 p3 none (some a1) none).bind fun p4 =>
(aE a0).bind fun p5 =>
(av p5 0).bind fun p6 =>
(al false 1 p6 st).bind fun p7 =>
(gz Tryd.prog 9 p7 (some a1) none none).bind fun p8 =>
(aE a0).bind fun p9 =>
(av p9 0).bind fun p10 =>
(au st.stk.length 1 p10 p8 st).bind fun st11 =>
(gU Tryd.prog 9 74 p4).bind fun p12 =>
(jP Tryd.prog 74 p12).bind fun p13 =>
(it (S69.b0 call it st.stk.length st.lp.length) [a0, p4, p12, p13, (PV.v (.int .i64 0))] st11).bind fun r14 =>
cd (Ex.bf 0 r14.1) (fin st.stk.length st.tk.length st.lp.length [(ae r14.2.1 1)] r14.2.2) fun x45 =>
ep x45 (fin st.stk.length st.tk.length st.lp.length [PV.u] r14.2.2)
theorem CY (a0 a1 : PV) (st : St) : E L (.func 69) [a0, a1] st = S69 (E L) itE a0 a1 st := (bJ (by kernel_rfl) Tryd.func69 _ _).trans (by kernel_rfl)
noncomputable def S70.b0 (call : bG) (it : bO) (base lb : Nat) (vs6 : List PV) (st7 : St) : Option (Ex × List PV × St) :=
(qe (ae vs6 3) st7).bind fun r8 =>
(aV r8.1 0).bind fun p9 =>
aD p9 fun b10 => (bif b10 then
some (Ex.normal, [(ae vs6 0), (ae vs6 1), (ae vs6 2), (ae vs6 3), r8.1], r8.2)
else
some ((Ex.exit 0), [(ae vs6 0), (ae vs6 1), (ae vs6 2), (ae vs6 3), r8.1], r8.2)).bind fun r11 =>
cd r11.1 ((aV (ae r11.2.1 4) 1).bind fun p13 =>
(aV (ae r11.2.1 4) 2).bind fun p14 =>
fJ (ae r11.2.1 1) fun g16 caps17 =>
(call g16 ([ah p14] ++ caps17) r11.2.2).bind fun r15 =>
dN r15 fun p18 st19 =>
(aUn Tryd.prog .not p18).bind fun p20 =>
aD p20 fun b21 => (bif b21 then
some (Ex.ret, [(ae r11.2.1 0), (ae r11.2.1 1), p13, (ae r11.2.1 3)], st19)
else
some (Ex.normal, [(ae r11.2.1 0), (ae r11.2.1 1), (ae r11.2.1 2), (ae r11.2.1 3)], st19)).bind fun r22 =>
some ((Ex.bf 1 r22.1), [(ae r22.2.1 0), (ae r22.2.1 1), (ae r22.2.1 2), (ae r22.2.1 3)], r22.2.2)) fun x12 =>
some (x12, [(ae r11.2.1 0), (ae r11.2.1 1), (ae r11.2.1 2), (ae r11.2.1 3)], r11.2.2)
noncomputable def S70 (call : bG) (it : bO) (a0 a1 : PV) (st : St) : Option (PV × St) :=
(aE a0).bind fun p1 =>
(av p1 0).bind fun p2 =>
(al false 1 p2 st).bind fun p3 =>
(lJ Tryd.prog 9 p3 st).bind fun r4 =>
(it (S70.b0 call it st.stk.length st.lp.length) [a0, a1, (PV.v (.int .i64 0)), r4.1] r4.2).bind fun r5 =>
cd (Ex.bf 0 r5.1) ((aE (ae r5.2.1 0)).bind fun p24 =>
(av p24 0).bind fun p25 =>
(al false 1 p25 r5.2.2).bind fun p26 =>
(jP Tryd.prog 9 p26).bind fun p27 =>
fin st.stk.length st.tk.length st.lp.length [p27] r5.2.2) fun x23 =>
ep x23 (fin st.stk.length st.tk.length st.lp.length [(ae r5.2.1 2)] r5.2.2)
theorem CZ (a0 a1 : PV) (st : St) : E L (.func 70) [a0, a1] st = S70 (E L) itE a0 a1 st := (bJ (by kernel_rfl) Tryd.func70 _ _).trans (by kernel_rfl)
noncomputable def S72 (call : bG) (it : bO) (a0 a1 : PV) (st : St) : Option (PV × St) :=
(call (.func 106) [ah a0, ah a1] st).bind fun r1 =>
fin st.stk.length st.tk.length st.lp.length [r1.1] r1.2
theorem C4 (a0 a1 : PV) (st : St) : E L (.func 72) [a0, a1] st = S72 (E L) itE a0 a1 st := (bJ (by kernel_rfl) Tryd.func72 _ _).trans (by kernel_rfl)
noncomputable def S37.b0 (call : bG) (it : bO) (base lb : Nat) (vs2 : List PV) (st3 : St) : Option (Ex × List PV × St) :=
(aE (ae vs2 0)).bind fun p4 =>
(av p4 0).bind fun p5 =>
(al false 1 p5 st3).bind fun p6 =>
(aT Tryd.prog true .neq 9 p6 (PV.v (.string ⟨#[]⟩))).bind fun p7 =>
aD p7 fun b8 => (bif b8 then
some (Ex.normal, [(ae vs2 0)], st3)
else
some ((Ex.exit 0), [(ae vs2 0)], st3)).bind fun r9 =>
cd r9.1 ((aE (ae r9.2.1 0)).bind fun p11 =>
(av p11 0).bind fun p12 =>
(al false 1 p12 r9.2.2).bind fun p13 =>
(call (.func 59) [ah p13, ah (PV.v (.string ⟨#[47, 47]⟩))] r9.2.2).bind fun r14 =>
aD r14.1 fun b15 => (bif b15 then
(call (.func 70) [ah (ae r9.2.1 0), ah (PV.clo (.func 71) [])] r14.2).bind fun r17 =>
(call (.func 69) [ah (ae r9.2.1 0), ah r17.1] r17.2).bind fun r18 =>
some (Ex.normal, [(ae r9.2.1 0)], r18.2)
else
(aE (ae r9.2.1 0)).bind fun p19 =>
(av p19 0).bind fun p20 =>
(al false 1 p20 r14.2).bind fun p21 =>
(du Tryd.prog 9 p21 (PV.v (.int .i64 0))).bind fun p22 =>
(call (.func 72) [ah (PV.v (.string ⟨#[32, 9, 13, 10]⟩)), ah p22] r14.2).bind fun r23 =>
(aT Tryd.prog true .geq 3 r23.1 (PV.v (.int .i64 0))).bind fun p24 =>
aD p24 fun b25 => (bif b25 then
(call (.func 69) [ah (ae r9.2.1 0), ah (PV.v (.int .i64 1))] r23.2).bind fun r27 =>
some (Ex.normal, [(ae r9.2.1 0)], r27.2)
else
some ((Ex.exit 0), [(ae r9.2.1 0)], r23.2)).bind fun r26 =>
some (r26.1, [(ae r26.2.1 0)], r26.2.2)).bind fun r16 =>
some ((Ex.bf 1 (Ex.bf 2 r16.1)), [(ae r16.2.1 0)], r16.2.2)) fun x10 =>
some (x10, [(ae r9.2.1 0)], r9.2.2)
noncomputable def S37 (call : bG) (it : bO) (a0 : PV) (st : St) : Option (PV × St) :=
(it (S37.b0 call it st.stk.length st.lp.length) [a0] st).bind fun r1 =>
ep (Ex.bf 0 r1.1) (fin st.stk.length st.tk.length st.lp.length [] r1.2.2)
theorem CS (a0 : PV) (st : St) : E L (.func 37) [a0] st = S37 (E L) itE a0 st := (bJ (by kernel_rfl) Tryd.func37 _ _).trans (by kernel_rfl)
noncomputable def S73 (call : bG) (it : bO) (a0 : PV) (st : St) : Option (PV × St) :=
(aT Tryd.prog true .eql 21 a0 (PV.v (.int .i32 95))).bind fun p1 =>
(onG p1 false (
some (a0, st)) st).bind fun r3 =>
(onG p1 false (
(aT Tryd.prog true .geq 21 r3.1 (PV.v (.int .i32 97))).bind fun p6 =>
some (p6, r3.2)) r3.2).bind fun r5 =>
(onG p1 false (
some (r5.1, r5.2)) r5.2).bind fun r8 =>
(onG r8.1 true (
some (a0, r8.2)) r8.2).bind fun r10 =>
(onG r8.1 true (
(aT Tryd.prog true .leq 21 r10.1 (PV.v (.int .i32 122))).bind fun p13 =>
some (p13, r10.2)) r10.2).bind fun r12 =>
(onG p1 false (
(bP r8.1 r12.1 (PV.v (.bool false))).bind fun p16 =>
some (p16, r12.2)) r12.2).bind fun r15 =>
(bP p1 (PV.v (.bool true)) r15.1).bind fun p17 =>
(onG p17 false (
some (a0, r15.2)) r15.2).bind fun r19 =>
(onG p17 false (
(aT Tryd.prog true .geq 21 r19.1 (PV.v (.int .i32 65))).bind fun p22 =>
some (p22, r19.2)) r19.2).bind fun r21 =>
(onG p17 false (
some (r21.1, r21.2)) r21.2).bind fun r24 =>
(onG r24.1 true (
some (a0, r24.2)) r24.2).bind fun r26 =>
(onG r24.1 true (
(aT Tryd.prog true .leq 21 r26.1 (PV.v (.int .i32 90))).bind fun p29 =>
some (p29, r26.2)) r26.2).bind fun r28 =>
(onG p17 false (
(bP r24.1 r28.1 (PV.v (.bool false))).bind fun p32 =>
some (p32, r28.2)) r28.2).bind fun r31 =>
(bP p17 (PV.v (.bool true)) r31.1).bind fun p33 =>
fin st.stk.length st.tk.length st.lp.length [p33] r31.2
theorem C5 (a0 : PV) (st : St) : E L (.func 73) [a0] st = S73 (E L) itE a0 st := (bJ (by kernel_rfl) Tryd.func73 _ _).trans (by kernel_rfl)
noncomputable def S74 (call : bG) (it : bO) (a0 : PV) (st : St) : Option (PV × St) :=
(aT Tryd.prog true .geq 21 a0 (PV.v (.int .i32 48))).bind fun p1 =>
(onG p1 true (
some (a0, st)) st).bind fun r3 =>
(onG p1 true (
(aT Tryd.prog true .leq 21 r3.1 (PV.v (.int .i32 57))).bind fun p6 =>
some (p6, r3.2)) r3.2).bind fun r5 =>
(bP p1 r5.1 (PV.v (.bool false))).bind fun p7 =>
fin st.stk.length st.tk.length st.lp.length [p7] r5.2
theorem C6 (a0 : PV) (st : St) : E L (.func 74) [a0] st = S74 (E L) itE a0 st := (bJ (by kernel_rfl) Tryd.func74 _ _).trans (by kernel_rfl)
noncomputable def DK (call : bG) (it : bO) (a0 : PV) (st : St) : Option (PV × St) :=
(aT Tryd.prog true .neq 9 a0 (PV.v (.string ⟨#[]⟩))).bind fun p1 =>
(onG p1 true (
some (a0, st)) st).bind fun r3 =>
(onG p1 true (
(call (.func 133) [ah r3.1, ah (PV.v (.string ⟨#[32]⟩))] r3.2).bind fun r6 =>
some (r6.1, r6.2)) r3.2).bind fun r5 =>
(onG p1 true (
(aUn Tryd.prog .not r5.1).bind fun p9 =>
some (p9, r5.2)) r5.2).bind fun r8 =>
(bP p1 r8.1 (PV.v (.bool false))).bind fun p10 =>
(onG p10 true (
some (a0, r8.2)) r8.2).bind fun r12 =>
(onG p10 true (
(aT Tryd.prog true .add 9 (PV.v (.string ⟨#[32]⟩)) r12.1).bind fun p15 =>
some (p15, r12.2)) r12.2).bind fun r14 =>
(onG p10 true (
(aT Tryd.prog true .add 9 r14.1 (PV.v (.string ⟨#[32]⟩))).bind fun p18 =>
some (p18, r14.2)) r14.2).bind fun r17 =>
(onG p10 true (
(call (.func 133) [ah (PV.v (.string ⟨#[32, 114, 101, 99, 111, 114, 100, 32, 103, 108, 111, 98, 97, 108, 32, 102, 117, 110, 32, 116, 104, 114, 101, 97, 100, 32, 108, 101, 116, 32, 118, 97, 114, 32, 115, 101, 116, 32, 112, 114, 105, 110, 116, 32, 105, 102, 32, 101, 108, 115, 101, 32, 108, 111, 111, 112, 32, 98, 114, 101, 97, 107, 32, 99, 111, 110, 116, 105, 110, 117, 101, 32, 97, 116, 111, 109, 105, 99, 32, 99, 97, 108, 108, 32, 108, 111, 97, 100, 32, 110, 101, 119, 32, 115, 105, 122, 101, 32, 105, 110, 116, 32, 114, 101, 97, 108, 32, 105, 110, 116, 115, 32, 110, 105, 108, 32, 105, 110, 112, 117, 116, 32, 116, 114, 117, 110, 99, 32]⟩)), ah r17.1] r17.2).bind fun r21 =>
some (r21.1, r21.2)) r17.2).bind fun r20 =>
(bP p10 r20.1 (PV.v (.bool false))).bind fun p22 =>
fin st.stk.length st.tk.length st.lp.length [p22] r20.2
theorem AZ (a0 : PV) (st : St) : E L (.func 108) [a0] st = DK (E L) itE a0 st := (bJ (by kernel_rfl) Tryd.func108 _ _).trans (by kernel_rfl)
noncomputable def nA.b0 (call : bG) (it : bO) (base lb : Nat) (vs3 : List PV) (st4 : St) : Option (Ex × List PV × St) :=
(qe (ae vs3 2) st4).bind fun r5 =>
(aV r5.1 0).bind fun p6 =>
aD p6 fun b7 => (bif b7 then
some (Ex.normal, [(ae vs3 0), (ae vs3 1), (ae vs3 2), r5.1], r5.2)
else
some ((Ex.exit 0), [(ae vs3 0), (ae vs3 1), (ae vs3 2), r5.1], r5.2)).bind fun r8 =>
cd r8.1 ((aV (ae r8.2.1 3) 1).bind fun p10 =>
(aV (ae r8.2.1 3) 2).bind fun p11 =>
(call (.func 73) [ah p11] r8.2.2).bind fun r12 =>
(aUn Tryd.prog .not r12.1).bind fun p13 =>
(onG p13 true (
some (p10, r12.2)) r12.2).bind fun r15 =>
(onG p13 true (
(aT Tryd.prog true .eql 3 r15.1 (PV.v (.int .i64 0))).bind fun p18 =>
some (p18, r15.2)) r15.2).bind fun r17 =>
(onG p13 true (
some (r17.1, r17.2)) r17.2).bind fun r20 =>
(onG r20.1 false (
some (p11, r20.2)) r20.2).bind fun r22 =>
(onG r20.1 false (
(call (.func 74) [ah r22.1] r22.2).bind fun r25 =>
some (r25.1, r25.2)) r22.2).bind fun r24 =>
(onG r20.1 false (
(aUn Tryd.prog .not r24.1).bind fun p28 =>
some (p28, r24.2)) r24.2).bind fun r27 =>
(onG p13 true (
(bP r20.1 (PV.v (.bool true)) r27.1).bind fun p31 =>
some (p31, r27.2)) r27.2).bind fun r30 =>
(bP p13 r30.1 (PV.v (.bool false))).bind fun p32 =>
aD p32 fun b33 => (bif b33 then
some (Ex.ret, [(ae r8.2.1 0), (PV.v (.bool false)), (ae r8.2.1 2)], r30.2)
else
some (Ex.normal, [(ae r8.2.1 0), (ae r8.2.1 1), (ae r8.2.1 2)], r30.2)).bind fun r34 =>
some ((Ex.bf 1 r34.1), [(ae r34.2.1 0), (ae r34.2.1 1), (ae r34.2.1 2)], r34.2.2)) fun x9 =>
some (x9, [(ae r8.2.1 0), (ae r8.2.1 1), (ae r8.2.1 2)], r8.2.2)
noncomputable def nA (call : bG) (it : bO) (a0 : PV) (st : St) : Option (PV × St) :=
(lJ Tryd.prog 9 a0 st).bind fun r1 =>
(it (nA.b0 call it st.stk.length st.lp.length) [a0, (PV.v (.bool false)), r1.1] r1.2).bind fun r2 =>
cd (Ex.bf 0 r2.1) ((aT Tryd.prog true .neq 9 (ae r2.2.1 0) (PV.v (.string ⟨#[]⟩))).bind fun p36 =>
(onG p36 true (
some ((ae r2.2.1 0), r2.2.2)) r2.2.2).bind fun r38 =>
(onG p36 true (
(call (.func 108) [ah r38.1] r38.2).bind fun r41 =>
some (r41.1, r41.2)) r38.2).bind fun r40 =>
(onG p36 true (
(aUn Tryd.prog .not r40.1).bind fun p44 =>
some (p44, r40.2)) r40.2).bind fun r43 =>
(bP p36 r43.1 (PV.v (.bool false))).bind fun p45 =>
fin st.stk.length st.tk.length st.lp.length [p45] r43.2) fun x35 =>
ep x35 (fin st.stk.length st.tk.length st.lp.length [(ae r2.2.1 1)] r2.2.2)
theorem A0 (a0 : PV) (st : St) : E L (.func 109) [a0] st = nA (E L) itE a0 st := (bJ (by kernel_rfl) Tryd.func109 _ _).trans (by kernel_rfl)
noncomputable def DM (call : bG) (it : bO) (a0 : PV) (st : St) : Option (PV × St) :=
(aT Tryd.prog true .or 5 a0 (PV.v (.int .u8 32))).bind fun p1 =>
fin st.stk.length st.tk.length st.lp.length [p1] st
theorem A4 (a0 : PV) (st : St) : E L (.func 145) [a0] st = DM (E L) itE a0 st := (bJ (by kernel_rfl) Tryd.func145 _ _).trans (by kernel_rfl)
noncomputable def ig.b0 (call : bG) (it : bO) (base lb : Nat) (vs107 : List PV) (st108 : St) : Option (Ex × List PV × St) :=
(aT Tryd.prog false .lss 3 (ae vs107 11) (ae vs107 10)).bind fun p109 =>
aD p109 fun b110 => (bif b110 then
some (Ex.normal, [(ae vs107 0), (ae vs107 1), (ae vs107 2), (ae vs107 3), (ae vs107 4), (ae vs107 5), (ae vs107 6), (ae vs107 7), (ae vs107 8), (ae vs107 9), (ae vs107 10), (ae vs107 11)], st108)
else
some ((Ex.exit 3), [(ae vs107 0), (ae vs107 1), (ae vs107 2), (ae vs107 3), (ae vs107 4), (ae vs107 5), (ae vs107 6), (ae vs107 7), (ae vs107 8), (ae vs107 9), (ae vs107 10), (ae vs107 11)], st108)).bind fun r111 =>
cd r111.1 ((cJ Tryd.prog 74 (ae r111.2.1 9) (ae r111.2.1 11)).bind fun p113 =>
(al false 1 p113 r111.2.2).bind fun p114 =>
(aT Tryd.prog true .eql 5 p114 (PV.v (.int .u8 95))).bind fun p115 =>
(onG p115 true (
some ((ae r111.2.1 3), r111.2.2)) r111.2.2).bind fun r117 =>
(bP p115 r117.1 (PV.v (.bool false))).bind fun p118 =>
aD p118 fun b119 => (bif b119 then
some ((Ex.exit 4), [(ae r111.2.1 0), (ae r111.2.1 1), (ae r111.2.1 2), (ae r111.2.1 3), (ae r111.2.1 4), (ae r111.2.1 5), (ae r111.2.1 6), (PV.v (.bool true)), (ae r111.2.1 8), (PV.v (.int .u8 0)), (ae r111.2.1 9), (ae r111.2.1 10), (ae r111.2.1 11)], r117.2)
else
(aT Tryd.prog true .leq 5 (PV.v (.int .u8 48)) p114).bind fun p121 =>
(onG p121 true (
some (p114, r117.2)) r117.2).bind fun r123 =>
(onG p121 true (
(aT Tryd.prog true .leq 5 r123.1 (PV.v (.int .u8 57))).bind fun p126 =>
some (p126, r123.2)) r123.2).bind fun r125 =>
(bP p121 r125.1 (PV.v (.bool false))).bind fun p127 =>
aD p127 fun b128 => (bif b128 then
(aT Tryd.prog true .sub 5 p114 (PV.v (.int .u8 48))).bind fun p130 =>
some (Ex.normal, [(ae r111.2.1 0), (ae r111.2.1 1), (ae r111.2.1 2), (ae r111.2.1 3), (ae r111.2.1 4), (ae r111.2.1 5), (ae r111.2.1 6), (ae r111.2.1 7), (ae r111.2.1 8), p130, (ae r111.2.1 9), (ae r111.2.1 10), (ae r111.2.1 11)], r125.2)
else
(call (.func 145) [ah p114] r125.2).bind fun r131 =>
(aT Tryd.prog true .leq 5 (PV.v (.int .u8 97)) r131.1).bind fun p132 =>
(onG p132 true (
some (p114, r131.2)) r131.2).bind fun r134 =>
(onG p132 true (
(call (.func 145) [ah r134.1] r134.2).bind fun r137 =>
some (r137.1, r137.2)) r134.2).bind fun r136 =>
(onG p132 true (
(aT Tryd.prog true .leq 5 r136.1 (PV.v (.int .u8 122))).bind fun p140 =>
some (p140, r136.2)) r136.2).bind fun r139 =>
(bP p132 r139.1 (PV.v (.bool false))).bind fun p141 =>
aD p141 fun b142 => (bif b142 then
(call (.func 145) [ah p114] r139.2).bind fun r144 =>
(aT Tryd.prog true .sub 5 r144.1 (PV.v (.int .u8 97))).bind fun p145 =>
(aT Tryd.prog true .add 5 p145 (PV.v (.int .u8 10))).bind fun p146 =>
some (Ex.normal, [(ae r111.2.1 0), (ae r111.2.1 1), (ae r111.2.1 2), (ae r111.2.1 3), (ae r111.2.1 4), (ae r111.2.1 5), (ae r111.2.1 6), (ae r111.2.1 7), (ae r111.2.1 8), p146, (ae r111.2.1 9), (ae r111.2.1 10), (ae r111.2.1 11)], r144.2)
else
(ij Tryd.prog 192 (PV.v (.int .i64 2))).bind fun p147 =>
some (Ex.ret, [(ae r111.2.1 0), (PV.v (.int .u64 0)), p147, (ae r111.2.1 3), (ae r111.2.1 4), (ae r111.2.1 5), (ae r111.2.1 6), (ae r111.2.1 7), (ae r111.2.1 8), (PV.v (.int .u8 0)), (ae r111.2.1 9), (ae r111.2.1 10), (ae r111.2.1 11)], r139.2)).bind fun r143 =>
some (r143.1, [(ae r143.2.1 0), (ae r143.2.1 1), (ae r143.2.1 2), (ae r143.2.1 3), (ae r143.2.1 4), (ae r143.2.1 5), (ae r143.2.1 6), (ae r143.2.1 7), (ae r143.2.1 8), (ae r143.2.1 9), (ae r143.2.1 10), (ae r143.2.1 11), (ae r143.2.1 12)], r143.2.2)).bind fun r129 =>
some (r129.1, [(ae r129.2.1 0), (ae r129.2.1 1), (ae r129.2.1 2), (ae r129.2.1 3), (ae r129.2.1 4), (ae r129.2.1 5), (ae r129.2.1 6), (ae r129.2.1 7), (ae r129.2.1 8), (ae r129.2.1 9), (ae r129.2.1 10), (ae r129.2.1 11), (ae r129.2.1 12)], r129.2.2)).bind fun r120 =>
cd (Ex.bf 5 r120.1) ((gU Tryd.prog 3 5 (ae r120.2.1 0)).bind fun p149 =>
(aT Tryd.prog false .geq 5 (ae r120.2.1 9) p149).bind fun p150 =>
aD p150 fun b151 => (bif b151 then
(ij Tryd.prog 192 (PV.v (.int .i64 2))).bind fun p153 =>
some (Ex.ret, [(ae r120.2.1 0), (PV.v (.int .u64 0)), p153, (ae r120.2.1 3), (ae r120.2.1 4), (ae r120.2.1 5), (ae r120.2.1 6), (ae r120.2.1 7), (ae r120.2.1 8), (ae r120.2.1 9), (ae r120.2.1 10), (ae r120.2.1 11), (ae r120.2.1 12)], r120.2.2)
else
some (Ex.normal, [(ae r120.2.1 0), (ae r120.2.1 1), (ae r120.2.1 2), (ae r120.2.1 3), (ae r120.2.1 4), (ae r120.2.1 5), (ae r120.2.1 6), (ae r120.2.1 7), (ae r120.2.1 8), (ae r120.2.1 9), (ae r120.2.1 10), (ae r120.2.1 11), (ae r120.2.1 12)], r120.2.2)).bind fun r152 =>
cd r152.1 ((aT Tryd.prog false .geq 45 (ae r152.2.1 8) (ae r152.2.1 5)).bind fun p155 =>
aD p155 fun b156 => (bif b156 then
(ij Tryd.prog 192 (PV.v (.int .i64 1))).bind fun p158 =>
some (Ex.ret, [(ae r152.2.1 0), (ae r152.2.1 6), p158, (ae r152.2.1 3), (ae r152.2.1 4), (ae r152.2.1 5), (ae r152.2.1 6), (ae r152.2.1 7), (ae r152.2.1 8), (ae r152.2.1 9), (ae r152.2.1 10), (ae r152.2.1 11), (ae r152.2.1 12)], r152.2.2)
else
some (Ex.normal, [(ae r152.2.1 0), (ae r152.2.1 1), (ae r152.2.1 2), (ae r152.2.1 3), (ae r152.2.1 4), (ae r152.2.1 5), (ae r152.2.1 6), (ae r152.2.1 7), (ae r152.2.1 8), (ae r152.2.1 9), (ae r152.2.1 10), (ae r152.2.1 11), (ae r152.2.1 12)], r152.2.2)).bind fun r157 =>
cd r157.1 ((gU Tryd.prog 3 45 (ae r157.2.1 0)).bind fun p160 =>
(aT Tryd.prog false .mul 45 (ae r157.2.1 8) p160).bind fun p161 =>
(gU Tryd.prog 5 45 (ae r157.2.1 9)).bind fun p162 =>
(aT Tryd.prog false .add 45 p161 p162).bind fun p163 =>
(aT Tryd.prog false .lss 45 p163 p161).bind fun p164 =>
(onG p164 false (
some (p163, r157.2.2)) r157.2.2).bind fun r166 =>
(onG p164 false (
some ((ae r157.2.1 6), r166.2)) r166.2).bind fun r168 =>
(onG p164 false (
(aT Tryd.prog false .gtr 45 r166.1 r168.1).bind fun p171 =>
some (p171, r168.2)) r168.2).bind fun r170 =>
(bP p164 (PV.v (.bool true)) r170.1).bind fun p172 =>
aD p172 fun b173 => (bif b173 then
(ij Tryd.prog 192 (PV.v (.int .i64 1))).bind fun p175 =>
some (Ex.ret, [(ae r157.2.1 0), (ae r157.2.1 6), p175, (ae r157.2.1 3), (ae r157.2.1 4), (ae r157.2.1 5), (ae r157.2.1 6), (ae r157.2.1 7), p161, p163, (ae r157.2.1 10), (ae r157.2.1 11), (ae r157.2.1 12)], r170.2)
else
some (Ex.normal, [(ae r157.2.1 0), (ae r157.2.1 1), (ae r157.2.1 2), (ae r157.2.1 3), (ae r157.2.1 4), (ae r157.2.1 5), (ae r157.2.1 6), (ae r157.2.1 7), p161, p163, (ae r157.2.1 10), (ae r157.2.1 11), (ae r157.2.1 12)], r170.2)).bind fun r174 =>
cd r174.1 ((aT Tryd.prog true .add 3 (ae r174.2.1 12) (PV.v (.int .i64 1))).bind fun p177 =>
some (Ex.normal, [(ae r174.2.1 0), (ae r174.2.1 1), (ae r174.2.1 2), (ae r174.2.1 3), (ae r174.2.1 4), (ae r174.2.1 5), (ae r174.2.1 6), (ae r174.2.1 7), (ae r174.2.1 9), (ae r174.2.1 10), (ae r174.2.1 11), p177], r174.2.2)) fun x176 =>
cd (Ex.bf 4 x176) ((aT Tryd.prog true .add 3 (ae r174.2.1 12) (PV.v (.int .i64 1))).bind fun p179 =>
some (Ex.normal, [(ae r174.2.1 0), (ae r174.2.1 1), (ae r174.2.1 2), (ae r174.2.1 3), (ae r174.2.1 4), (ae r174.2.1 5), (ae r174.2.1 6), (ae r174.2.1 7), (ae r174.2.1 8), (ae r174.2.1 10), (ae r174.2.1 11), p179], r174.2.2)) fun x178 =>
some (x178, [(ae r174.2.1 0), (ae r174.2.1 1), (ae r174.2.1 2), (ae r174.2.1 3), (ae r174.2.1 4), (ae r174.2.1 5), (ae r174.2.1 6), (ae r174.2.1 7), (ae r174.2.1 8), (ae r174.2.1 10), (ae r174.2.1 11), (ae r174.2.1 12)], r174.2.2)) fun x159 =>
cd (Ex.bf 4 x159) ((aT Tryd.prog true .add 3 (ae r157.2.1 12) (PV.v (.int .i64 1))).bind fun p181 =>
some (Ex.normal, [(ae r157.2.1 0), (ae r157.2.1 1), (ae r157.2.1 2), (ae r157.2.1 3), (ae r157.2.1 4), (ae r157.2.1 5), (ae r157.2.1 6), (ae r157.2.1 7), (ae r157.2.1 8), (ae r157.2.1 10), (ae r157.2.1 11), p181], r157.2.2)) fun x180 =>
some (x180, [(ae r157.2.1 0), (ae r157.2.1 1), (ae r157.2.1 2), (ae r157.2.1 3), (ae r157.2.1 4), (ae r157.2.1 5), (ae r157.2.1 6), (ae r157.2.1 7), (ae r157.2.1 8), (ae r157.2.1 10), (ae r157.2.1 11), (ae r157.2.1 12)], r157.2.2)) fun x154 =>
cd (Ex.bf 4 x154) ((aT Tryd.prog true .add 3 (ae r152.2.1 12) (PV.v (.int .i64 1))).bind fun p183 =>
some (Ex.normal, [(ae r152.2.1 0), (ae r152.2.1 1), (ae r152.2.1 2), (ae r152.2.1 3), (ae r152.2.1 4), (ae r152.2.1 5), (ae r152.2.1 6), (ae r152.2.1 7), (ae r152.2.1 8), (ae r152.2.1 10), (ae r152.2.1 11), p183], r152.2.2)) fun x182 =>
some (x182, [(ae r152.2.1 0), (ae r152.2.1 1), (ae r152.2.1 2), (ae r152.2.1 3), (ae r152.2.1 4), (ae r152.2.1 5), (ae r152.2.1 6), (ae r152.2.1 7), (ae r152.2.1 8), (ae r152.2.1 10), (ae r152.2.1 11), (ae r152.2.1 12)], r152.2.2)) fun x148 =>
cd (Ex.bf 4 x148) ((aT Tryd.prog true .add 3 (ae r120.2.1 12) (PV.v (.int .i64 1))).bind fun p185 =>
some (Ex.normal, [(ae r120.2.1 0), (ae r120.2.1 1), (ae r120.2.1 2), (ae r120.2.1 3), (ae r120.2.1 4), (ae r120.2.1 5), (ae r120.2.1 6), (ae r120.2.1 7), (ae r120.2.1 8), (ae r120.2.1 10), (ae r120.2.1 11), p185], r120.2.2)) fun x184 =>
some (x184, [(ae r120.2.1 0), (ae r120.2.1 1), (ae r120.2.1 2), (ae r120.2.1 3), (ae r120.2.1 4), (ae r120.2.1 5), (ae r120.2.1 6), (ae r120.2.1 7), (ae r120.2.1 8), (ae r120.2.1 10), (ae r120.2.1 11), (ae r120.2.1 12)], r120.2.2)) fun x112 =>
some (x112, [(ae r111.2.1 0), (ae r111.2.1 1), (ae r111.2.1 2), (ae r111.2.1 3), (ae r111.2.1 4), (ae r111.2.1 5), (ae r111.2.1 6), (ae r111.2.1 7), (ae r111.2.1 8), (ae r111.2.1 9), (ae r111.2.1 10), (ae r111.2.1 11)], r111.2.2)
noncomputable def ig (call : bG) (it : bO) (a0 a1 a2 : PV) (st : St) : Option (PV × St) :=
(aT Tryd.prog true .eql 9 a0 (PV.v (.string ⟨#[]⟩))).bind fun p1 =>
aD p1 fun b2 => (bif b2 then
(ij Tryd.prog 192 (PV.v (.int .i64 2))).bind fun p4 =>
some (Ex.ret, [a0, a1, a2, (PV.v (.int .u64 0)), p4], st)
else
some (Ex.normal, [a0, a1, a2, (PV.v (.int .u64 0)), (PV.v (.nilIface))], st)).bind fun r3 =>
cd r3.1 ((aT Tryd.prog true .eql 3 (ae r3.2.1 1) (PV.v (.int .i64 0))).bind fun p6 =>
(aT Tryd.prog true .leq 3 (PV.v (.int .i64 2)) (ae r3.2.1 1)).bind fun p7 =>
(onG p7 true (
some ((ae r3.2.1 1), r3.2.2)) r3.2.2).bind fun r9 =>
(onG p7 true (
(aT Tryd.prog true .leq 3 r9.1 (PV.v (.int .i64 36))).bind fun p12 =>
some (p12, r9.2)) r9.2).bind fun r11 =>
(bP p7 r11.1 (PV.v (.bool false))).bind fun p13 =>
aD p13 fun b14 => (bif b14 then
some (Ex.normal, [(ae r3.2.1 0), (ae r3.2.1 1), (ae r3.2.1 2), (ae r3.2.1 3), (ae r3.2.1 4), p6, (ae r3.2.1 0)], r11.2)
else
(aT Tryd.prog true .eql 3 (ae r3.2.1 1) (PV.v (.int .i64 0))).bind fun p16 =>
aD p16 fun b17 => (bif b17 then
(du Tryd.prog 9 (ae r3.2.1 0) (PV.v (.int .i64 0))).bind fun p19 =>
(aT Tryd.prog true .eql 5 p19 (PV.v (.int .u8 48))).bind fun p20 =>
aD p20 fun b21 => (bif b21 then
(jP Tryd.prog 9 (ae r3.2.1 0)).bind fun p23 =>
(aT Tryd.prog true .geq 3 p23 (PV.v (.int .i64 3))).bind fun p24 =>
(onG p24 true (
some ((ae r3.2.1 0), r11.2)) r11.2).bind fun r26 =>
(onG p24 true (
(du Tryd.prog 9 r26.1 (PV.v (.int .i64 1))).bind fun p29 =>
some (p29, r26.2)) r26.2).bind fun r28 =>
(onG p24 true (
(call (.func 145) [ah r28.1] r28.2).bind fun r32 =>
some (r32.1, r32.2)) r28.2).bind fun r31 =>
(onG p24 true (
(aT Tryd.prog true .eql 5 r31.1 (PV.v (.int .u8 98))).bind fun p35 =>
some (p35, r31.2)) r31.2).bind fun r34 =>
(bP p24 r34.1 (PV.v (.bool false))).bind fun p36 =>
aD p36 fun b37 => (bif b37 then
(gz Tryd.prog 9 (ae r3.2.1 0) (some (PV.v (.int .i64 2))) none none).bind fun p39 =>
some (Ex.normal, [p39, (PV.v (.int .i64 2)), (ae r3.2.1 2), (ae r3.2.1 3), (ae r3.2.1 4), p6, (ae r3.2.1 0)], r34.2)
else
(jP Tryd.prog 9 (ae r3.2.1 0)).bind fun p40 =>
(aT Tryd.prog true .geq 3 p40 (PV.v (.int .i64 3))).bind fun p41 =>
(onG p41 true (
some ((ae r3.2.1 0), r34.2)) r34.2).bind fun r43 =>
(onG p41 true (
(du Tryd.prog 9 r43.1 (PV.v (.int .i64 1))).bind fun p46 =>
some (p46, r43.2)) r43.2).bind fun r45 =>
(onG p41 true (
(call (.func 145) [ah r45.1] r45.2).bind fun r49 =>
some (r49.1, r49.2)) r45.2).bind fun r48 =>
(onG p41 true (
(aT Tryd.prog true .eql 5 r48.1 (PV.v (.int .u8 111))).bind fun p52 =>
some (p52, r48.2)) r48.2).bind fun r51 =>
(bP p41 r51.1 (PV.v (.bool false))).bind fun p53 =>
aD p53 fun b54 => (bif b54 then
(gz Tryd.prog 9 (ae r3.2.1 0) (some (PV.v (.int .i64 2))) none none).bind fun p56 =>
some (Ex.normal, [p56, (PV.v (.int .i64 8)), (ae r3.2.1 2), (ae r3.2.1 3), (ae r3.2.1 4), p6, (ae r3.2.1 0)], r51.2)
else
(jP Tryd.prog 9 (ae r3.2.1 0)).bind fun p57 =>
(aT Tryd.prog true .geq 3 p57 (PV.v (.int .i64 3))).bind fun p58 =>
(onG p58 true (
some ((ae r3.2.1 0), r51.2)) r51.2).bind fun r60 =>
(onG p58 true (
(du Tryd.prog 9 r60.1 (PV.v (.int .i64 1))).bind fun p63 =>
some (p63, r60.2)) r60.2).bind fun r62 =>
(onG p58 true (
(call (.func 145) [ah r62.1] r62.2).bind fun r66 =>
some (r66.1, r66.2)) r62.2).bind fun r65 =>
(onG p58 true (
(aT Tryd.prog true .eql 5 r65.1 (PV.v (.int .u8 120))).bind fun p69 =>
some (p69, r65.2)) r65.2).bind fun r68 =>
(bP p58 r68.1 (PV.v (.bool false))).bind fun p70 =>
aD p70 fun b71 => (bif b71 then
(gz Tryd.prog 9 (ae r3.2.1 0) (some (PV.v (.int .i64 2))) none none).bind fun p73 =>
some (Ex.normal, [p73, (PV.v (.int .i64 16)), (ae r3.2.1 2), (ae r3.2.1 3), (ae r3.2.1 4), p6, (ae r3.2.1 0)], r68.2)
else
(gz Tryd.prog 9 (ae r3.2.1 0) (some (PV.v (.int .i64 1))) none none).bind fun p74 =>
some (Ex.normal, [p74, (PV.v (.int .i64 8)), (ae r3.2.1 2), (ae r3.2.1 3), (ae r3.2.1 4), p6, (ae r3.2.1 0)], r68.2)).bind fun r72 =>
some (r72.1, [(ae r72.2.1 0), (ae r72.2.1 1), (ae r72.2.1 2), (ae r72.2.1 3), (ae r72.2.1 4), (ae r72.2.1 5), (ae r72.2.1 6)], r72.2.2)).bind fun r55 =>
some (r55.1, [(ae r55.2.1 0), (ae r55.2.1 1), (ae r55.2.1 2), (ae r55.2.1 3), (ae r55.2.1 4), (ae r55.2.1 5), (ae r55.2.1 6)], r55.2.2)).bind fun r38 =>
some ((Ex.bf 1 r38.1), [(ae r38.2.1 0), (ae r38.2.1 1), (ae r38.2.1 2), (ae r38.2.1 3), (ae r38.2.1 4), (ae r38.2.1 5), (ae r38.2.1 6)], r38.2.2)
else
some (Ex.normal, [(ae r3.2.1 0), (PV.v (.int .i64 10)), (ae r3.2.1 2), (ae r3.2.1 3), (ae r3.2.1 4), p6, (ae r3.2.1 0)], r11.2)).bind fun r22 =>
some (r22.1, [(ae r22.2.1 0), (ae r22.2.1 1), (ae r22.2.1 2), (ae r22.2.1 3), (ae r22.2.1 4), (ae r22.2.1 5), (ae r22.2.1 6)], r22.2.2)
else
(ij Tryd.prog 192 (PV.v (.int .i64 3))).bind fun p75 =>
some (Ex.ret, [(ae r3.2.1 0), (ae r3.2.1 1), (ae r3.2.1 2), (PV.v (.int .u64 0)), p75, p6, (ae r3.2.1 0)], r11.2)).bind fun r18 =>
some (r18.1, [(ae r18.2.1 0), (ae r18.2.1 1), (ae r18.2.1 2), (ae r18.2.1 3), (ae r18.2.1 4), (ae r18.2.1 5), (ae r18.2.1 6)], r18.2.2)).bind fun r15 =>
cd (Ex.bf 0 r15.1) ((aT Tryd.prog true .eql 3 (ae r15.2.1 2) (PV.v (.int .i64 0))).bind fun p77 =>
aD p77 fun b78 => (bif b78 then
some (Ex.normal, [(ae r15.2.1 0), (ae r15.2.1 1), (PV.v (.int .i64 64)), (ae r15.2.1 3), (ae r15.2.1 4), (ae r15.2.1 5), (ae r15.2.1 6)], r15.2.2)
else
(aT Tryd.prog true .lss 3 (ae r15.2.1 2) (PV.v (.int .i64 0))).bind fun p80 =>
(onG p80 false (
some ((ae r15.2.1 2), r15.2.2)) r15.2.2).bind fun r82 =>
(onG p80 false (
(aT Tryd.prog true .gtr 3 r82.1 (PV.v (.int .i64 64))).bind fun p85 =>
some (p85, r82.2)) r82.2).bind fun r84 =>
(bP p80 (PV.v (.bool true)) r84.1).bind fun p86 =>
aD p86 fun b87 => (bif b87 then
(ij Tryd.prog 192 (PV.v (.int .i64 4))).bind fun p89 =>
some (Ex.ret, [(ae r15.2.1 0), (ae r15.2.1 1), (ae r15.2.1 2), (PV.v (.int .u64 0)), p89, (ae r15.2.1 5), (ae r15.2.1 6)], r84.2)
else
some (Ex.normal, [(ae r15.2.1 0), (ae r15.2.1 1), (ae r15.2.1 2), (ae r15.2.1 3), (ae r15.2.1 4), (ae r15.2.1 5), (ae r15.2.1 6)], r84.2)).bind fun r88 =>
some (r88.1, [(ae r88.2.1 0), (ae r88.2.1 1), (ae r88.2.1 2), (ae r88.2.1 3), (ae r88.2.1 4), (ae r88.2.1 5), (ae r88.2.1 6)], r88.2.2)).bind fun r79 =>
cd r79.1 ((aT Tryd.prog true .eql 3 (ae r79.2.1 1) (PV.v (.int .i64 10))).bind fun p91 =>
aD p91 fun b92 => (bif b92 then
some (Ex.normal, [(ae r79.2.1 0), (ae r79.2.1 1), (ae r79.2.1 2), (ae r79.2.1 3), (ae r79.2.1 4), (ae r79.2.1 5), (ae r79.2.1 6), (PV.v (.int .u64 1844674407370955162))], r79.2.2)
else
(aT Tryd.prog true .eql 3 (ae r79.2.1 1) (PV.v (.int .i64 16))).bind fun p94 =>
aD p94 fun b95 => (bif b95 then
some (Ex.normal, [(ae r79.2.1 0), (ae r79.2.1 1), (ae r79.2.1 2), (ae r79.2.1 3), (ae r79.2.1 4), (ae r79.2.1 5), (ae r79.2.1 6), (PV.v (.int .u64 1152921504606846976))], r79.2.2)
else
(gU Tryd.prog 3 45 (ae r79.2.1 1)).bind fun p97 =>
(aT Tryd.prog true .quo 45 (PV.v (.int .u64 18446744073709551615)) p97).bind fun p98 =>
(aT Tryd.prog true .add 45 p98 (PV.v (.int .u64 1))).bind fun p99 =>
some (Ex.normal, [(ae r79.2.1 0), (ae r79.2.1 1), (ae r79.2.1 2), (ae r79.2.1 3), (ae r79.2.1 4), (ae r79.2.1 5), (ae r79.2.1 6), p99], r79.2.2)).bind fun r96 =>
some (r96.1, [(ae r96.2.1 0), (ae r96.2.1 1), (ae r96.2.1 2), (ae r96.2.1 3), (ae r96.2.1 4), (ae r96.2.1 5), (ae r96.2.1 6), (ae r96.2.1 7)], r96.2.2)).bind fun r93 =>
cd (Ex.bf 2 r93.1) ((gU Tryd.prog 3 106 (ae r93.2.1 2)).bind fun p101 =>
(aT Tryd.prog true .shl 45 (PV.v (.int .u64 1)) p101).bind fun p102 =>
(aT Tryd.prog true .sub 45 p102 (PV.v (.int .u64 1))).bind fun p103 =>
(gU Tryd.prog 9 74 (ae r93.2.1 0)).bind fun p104 =>
(jP Tryd.prog 74 p104).bind fun p105 =>
(it (ig.b0 call it st.stk.length st.lp.length) [(ae r93.2.1 1), (ae r93.2.1 3), (ae r93.2.1 4), (ae r93.2.1 5), (ae r93.2.1 6), (ae r93.2.1 7), p103, (PV.v (.bool false)), (PV.v (.int .u64 0)), p104, p105, (PV.v (.int .i64 0))] r93.2.2).bind fun r106 =>
cd (Ex.bf 3 r106.1) ((onG (ae r106.2.1 7) true (
some ((ae r106.2.1 4), r106.2.2)) r106.2.2).bind fun r188 =>
(onG (ae r106.2.1 7) true (
(call (.func 146) [ah r188.1] r188.2).bind fun r191 =>
some (r191.1, r191.2)) r188.2).bind fun r190 =>
(onG (ae r106.2.1 7) true (
(aUn Tryd.prog .not r190.1).bind fun p194 =>
some (p194, r190.2)) r190.2).bind fun r193 =>
(bP (ae r106.2.1 7) r193.1 (PV.v (.bool false))).bind fun p195 =>
aD p195 fun b196 => (bif b196 then
(ij Tryd.prog 192 (PV.v (.int .i64 2))).bind fun p198 =>
some (Ex.ret, [(PV.v (.int .u64 0)), p198, (ae r106.2.1 8)], r193.2)
else
some (Ex.normal, [(ae r106.2.1 1), (ae r106.2.1 2), (ae r106.2.1 8)], r193.2)).bind fun r197 =>
cd r197.1 (fin st.stk.length st.tk.length st.lp.length [(ae r197.2.1 2), (PV.v (.nilIface))] r197.2.2) fun x199 =>
ep x199 (fin st.stk.length st.tk.length st.lp.length [(ae r197.2.1 0), (ae r197.2.1 1)] r197.2.2)) fun x186 =>
ep x186 (fin st.stk.length st.tk.length st.lp.length [(ae r106.2.1 1), (ae r106.2.1 2)] r106.2.2)) fun x100 =>
ep x100 (fin st.stk.length st.tk.length st.lp.length [(ae r93.2.1 3), (ae r93.2.1 4)] r93.2.2)) fun x90 =>
ep x90 (fin st.stk.length st.tk.length st.lp.length [(ae r79.2.1 3), (ae r79.2.1 4)] r79.2.2)) fun x76 =>
ep x76 (fin st.stk.length st.tk.length st.lp.length [(ae r15.2.1 3), (ae r15.2.1 4)] r15.2.2)) fun x5 =>
ep x5 (fin st.stk.length st.tk.length st.lp.length [(ae r3.2.1 3), (ae r3.2.1 4)] r3.2.2)
theorem wG (a0 a1 a2 : PV) (st : St) : E L (.func 134) [a0, a1, a2] st = ig (E L) itE a0 a1 a2 st := (bJ (by kernel_rfl) Tryd.func134 _ _).trans (by kernel_rfl)
noncomputable def yY (call : bG) (it : bO) (a0 a1 a2 : PV) (st : St) : Option (PV × St) :=
(call (.func 134) [ah a0, ah a1, ah a2] st).bind fun r1 =>
(aV r1.1 0).bind fun p2 =>
(aV r1.1 1).bind fun p3 =>
(aT Tryd.prog true .neq 110 p3 (PV.v (.nilIface))).bind fun p4 =>
aD p4 fun b5 => (bif b5 then
(call (.func 135) [ah (PV.v (.string ⟨#[80, 97, 114, 115, 101, 85, 105, 110, 116]⟩)), ah a0, ah a1, ah a2, ah p3] r1.2).bind fun r7 =>
some (Ex.ret, [p2, r7.1, p2], r7.2)
else
some (Ex.normal, [(PV.v (.int .u64 0)), (PV.v (.nilIface)), p2], r1.2)).bind fun r6 =>
cd r6.1 (fin st.stk.length st.tk.length st.lp.length [(ae r6.2.1 2), (PV.v (.nilIface))] r6.2.2) fun x8 =>
ep x8 (fin st.stk.length st.tk.length st.lp.length [(ae r6.2.1 0), (ae r6.2.1 1)] r6.2.2)
theorem wD (a0 a1 a2 : PV) (st : St) : E L (.func 110) [a0, a1, a2] st = yY (E L) itE a0 a1 a2 st := (bJ (by kernel_rfl) Tryd.func110 _ _).trans (by kernel_rfl)
noncomputable def S75 (call : bG) (it : bO) (a0 : PV) (st : St) : Option (PV × St) :=
let q2 : PV := .ptr false st.stk.length 0
let st1 := st.push [.v (.int .i64 0), .v (.string ⟨#[]⟩), .v (.int .u64 0), .v (.int .i64 0), .v (.int .i64 0)]
(aE a0).bind fun p3 =>
(av p3 1).bind fun p4 =>
(al false 1 p4 st1).bind fun p5 =>
bM (st1 = st1) <|
(aE a0).bind fun p6 =>
(av p6 2).bind fun p7 =>
(al false 1 p7 st1).bind fun p8 =>
bM (st1 = st1) <|
(aX [(0, 1), (1, 1), (2, 1), (3, 1), (4, 1)] [.v (.int .i64 0), .v (.string ⟨#[]⟩), .v (.int .u64 0), .v (.int .i64 0), .v (.int .i64 0)] [(3, p5), (4, p8)]).bind fun p9 =>
let q11 : PV := .ptr false st1.stk.length 0
let st10 := st1.push [.v (.int .i64 0), .v (.string ⟨#[]⟩), .v (.int .u64 0), .v (.int .i64 0), .v (.int .i64 0)]
bM (((al false 1 p7 st10).bind fun p12 =>
some (Rs.ret p12, st10)) = some (Rs.ret p8, st10)) <|
bM (((al false 1 p4 st10).bind fun p13 =>
some (Rs.ret p13, st10)) = some (Rs.ret p5, st10)) <|
(au st.stk.length 5 q11 p9 st10).bind fun st14 =>
(call (.func 70) [ah a0, ah (PV.clo (.func 107) [])] st14).bind fun r15 =>
(call (.func 69) [ah a0, ah r15.1] r15.2).bind fun r16 =>
(av q11 1).bind fun p17 =>
(au st.stk.length 1 p17 r16.1 r16.2).bind fun st18 =>
(av q11 1).bind fun p19 =>
(al false 1 p19 st18).bind fun p20 =>
(call (.func 108) [ah p20] st18).bind fun r21 =>
aD r21.1 fun b22 => (bif b22 then
(av q11 0).bind fun p24 =>
(au st.stk.length 1 p24 (PV.v (.int .i64 2)) r21.2).bind fun st25 =>
some (Ex.normal, [q2, (PV.v (.bool false)), q11], st25)
else
(av q11 1).bind fun p26 =>
(al false 1 p26 r21.2).bind fun p27 =>
(call (.func 109) [ah p27] r21.2).bind fun r28 =>
aD r28.1 fun b29 => (bif b29 then
(av q11 0).bind fun p31 =>
(au st.stk.length 1 p31 (PV.v (.int .i64 1)) r28.2).bind fun st32 =>
some (Ex.normal, [q2, (PV.v (.bool false)), q11], st32)
else
(av q11 1).bind fun p33 =>
(al false 1 p33 r28.2).bind fun p34 =>
(call (.func 110) [ah p34, ah (PV.v (.int .i64 10)), ah (PV.v (.int .i64 63))] r28.2).bind fun r35 =>
(aV r35.1 0).bind fun p36 =>
(aV r35.1 1).bind fun p37 =>
(av q11 0).bind fun p38 =>
(au st.stk.length 1 p38 (PV.v (.int .i64 3)) r35.2).bind fun st39 =>
(av q11 2).bind fun p40 =>
(au st.stk.length 1 p40 p36 st39).bind fun st41 =>
(al true 5 q11 st41).bind fun p42 =>
bM (st41 = st41) <|
(aT Tryd.prog true .eql 110 p37 (PV.v (.nilIface))).bind fun p43 =>
(onG p43 true (
some (p36, st41)) st41).bind fun r45 =>
(onG p43 true (
(call (.func 99) [ah r45.1, ah (PV.v (.int .i64 10))] st41).bind fun r48 =>
some (r48.1, r48.2)) st41).bind fun r47 =>
bM (r47.2 = st41) <|
(onG p43 true (
(av q11 1).bind fun p51 =>
some (p51, st41)) st41).bind fun r50 =>
(onG p43 true (
(al false 1 r50.1 st41).bind fun p54 =>
some (p54, st41)) st41).bind fun r53 =>
bM (r53.2 = st41) <|
(onG p43 true (
(aT Tryd.prog false .eql 9 r47.1 r53.1).bind fun p57 =>
some (p57, st41)) st41).bind fun r56 =>
(bP p43 r56.1 (PV.v (.bool false))).bind fun p58 =>
(au st.stk.length 5 q2 p42 st41).bind fun st59 =>
bM (((onG p43 true (
(al false 1 r50.1 st59).bind fun p62 =>
some (p62, st59)) st59).bind fun r61 =>
some (Rs.ret r61.1, r61.2)) = some (Rs.ret r53.1, st59)) <|
some (Ex.ret, [q2, p58, q11], st59)).bind fun r30 =>
some (r30.1, [(ae r30.2.1 0), (ae r30.2.1 1), (ae r30.2.1 2)], r30.2.2)).bind fun r23 =>
cd (Ex.bf 0 r23.1) ((al true 5 (ae r23.2.1 2) r23.2.2).bind fun p64 =>
(au st.stk.length 5 (ae r23.2.1 0) p64 r23.2.2).bind fun st65 =>
(al true 5 (ae r23.2.1 0) st65).bind fun p66 =>
fin st.stk.length st.tk.length st.lp.length [p66, (PV.v (.bool true))] st65) fun x63 =>
ep x63 ((al true 5 (ae r23.2.1 0) r23.2.2).bind fun p67 =>
fin st.stk.length st.tk.length st.lp.length [p67, (ae r23.2.1 1)] r23.2.2)
theorem C7 (a0 : PV) (st : St) : E L (.func 75) [a0] st = S75 (E L) itE a0 st := (bJ (by kernel_rfl) Tryd.func75 _ _).trans (by kernel_rfl)
noncomputable def S76 (call : bG) (it : bO) (a0 : PV) (st : St) : Option (PV × St) :=
let q2 : PV := .ptr false st.stk.length 0
let st1 := st.push [.v (.int .i64 0), .v (.string ⟨#[]⟩), .v (.int .u64 0), .v (.int .i64 0), .v (.int .i64 0)]
(aE a0).bind fun p3 =>
(av p3 1).bind fun p4 =>
(al false 1 p4 st1).bind fun p5 =>
bM (st1 = st1) <|
(aE a0).bind fun p6 =>
(av p6 2).bind fun p7 =>
(al false 1 p7 st1).bind fun p8 =>
bM (st1 = st1) <|
(aX [(0, 1), (1, 1), (2, 1), (3, 1), (4, 1)] [.v (.int .i64 0), .v (.string ⟨#[]⟩), .v (.int .u64 0), .v (.int .i64 0), .v (.int .i64 0)] [(0, (PV.v (.int .i64 4))), (3, p5), (4, p8)]).bind fun p9 =>
let q11 : PV := .ptr false st1.stk.length 0
let st10 := st1.push [.v (.int .i64 0), .v (.string ⟨#[]⟩), .v (.int .u64 0), .v (.int .i64 0), .v (.int .i64 0)]
bM (((al false 1 p7 st10).bind fun p12 =>
some (Rs.ret p12, st10)) = some (Rs.ret p8, st10)) <|
bM (((al false 1 p4 st10).bind fun p13 =>
some (Rs.ret p13, st10)) = some (Rs.ret p5, st10)) <|
(au st.stk.length 5 q11 p9 st10).bind fun st14 =>
(call (.func 69) [ah a0, ah (PV.v (.int .i64 1))] st14).bind fun r15 =>
(call (.func 70) [ah a0, ah (PV.clo (.func 111) [])] r15.2).bind fun r16 =>
(call (.func 69) [ah a0, ah r16.1] r16.2).bind fun r17 =>
(aT Tryd.prog true .add 9 (PV.v (.string ⟨#[35]⟩)) r17.1).bind fun p18 =>
(av q11 1).bind fun p19 =>
(au st.stk.length 1 p19 p18 r17.2).bind fun st20 =>
(av q11 1).bind fun p21 =>
(al false 1 p21 st20).bind fun p22 =>
(gz Tryd.prog 9 p22 (some (PV.v (.int .i64 1))) none none).bind fun p23 =>
(call (.func 110) [ah p23, ah (PV.v (.int .i64 16)), ah (PV.v (.int .i64 64))] st20).bind fun r24 =>
(aV r24.1 0).bind fun p25 =>
(aV r24.1 1).bind fun p26 =>
(av q11 2).bind fun p27 =>
(au st.stk.length 1 p27 p25 r24.2).bind fun st28 =>
(al true 5 q11 st28).bind fun p29 =>
bM (st28 = st28) <|
(aT Tryd.prog true .eql 110 p26 (PV.v (.nilIface))).bind fun p30 =>
(onG p30 true (
(av q11 1).bind fun p33 =>
some (p33, st28)) st28).bind fun r32 =>
(onG p30 true (
(al false 1 r32.1 st28).bind fun p36 =>
some (p36, st28)) st28).bind fun r35 =>
bM (r35.2 = st28) <|
(onG p30 true (
(jP Tryd.prog 9 r35.1).bind fun p39 =>
some (p39, st28)) st28).bind fun r38 =>
(onG p30 true (
(aT Tryd.prog true .eql 3 r38.1 (PV.v (.int .i64 17))).bind fun p42 =>
some (p42, st28)) st28).bind fun r41 =>
(bP p30 r41.1 (PV.v (.bool false))).bind fun p43 =>
(onG p43 true (
(av q11 1).bind fun p46 =>
some (p46, st28)) st28).bind fun r45 =>
(onG p43 true (
(al false 1 r45.1 st28).bind fun p49 =>
some (p49, st28)) st28).bind fun r48 =>
bM (r48.2 = st28) <|
(onG p43 true (
(call (.func 112) [ah r48.1, ah (PV.v (.string ⟨#[65, 66, 67, 68, 69, 70]⟩))] st28).bind fun r52 =>
some (r52.1, r52.2)) st28).bind fun r51 =>
bM (r51.2 = st28) <|
(onG p43 true (
(aUn Tryd.prog .not r51.1).bind fun p55 =>
some (p55, st28)) st28).bind fun r54 =>
(bP p43 r54.1 (PV.v (.bool false))).bind fun p56 =>
(au st.stk.length 5 q2 p29 st28).bind fun st57 =>
(al true 5 q2 st57).bind fun p58 =>
fin st.stk.length st.tk.length st.lp.length [p58, p56] st57
theorem C8 (a0 : PV) (st : St) : E L (.func 76) [a0] st = S76 (E L) itE a0 st := (bJ (by kernel_rfl) Tryd.func76 _ _).trans (by kernel_rfl)
noncomputable def S77.b0 (call : bG) (it : bO) (base lb : Nat) (vs17 : List PV) (st18 : St) : Option (Ex × List PV × St) :=
(aT Tryd.prog true .lss 3 (ae vs17 5) (PV.v (.int .i64 3))).bind fun p19 =>
aD p19 fun b20 => (bif b20 then
some (Ex.normal, [(ae vs17 0), (ae vs17 1), (ae vs17 2), (ae vs17 3), (ae vs17 4), (ae vs17 5)], st18)
else
some ((Ex.exit 0), [(ae vs17 0), (ae vs17 1), (ae vs17 2), (ae vs17 3), (ae vs17 4), (ae vs17 5)], st18)).bind fun r21 =>
cd r21.1 ((du Tryd.prog 173 (ae r21.2.1 4) (ae r21.2.1 5)).bind fun p23 =>
(aE (ae r21.2.1 0)).bind fun p24 =>
(av p24 0).bind fun p25 =>
(al false 1 p25 r21.2.2).bind fun p26 =>
(call (.func 59) [ah p26, ah p23] r21.2.2).bind fun r27 =>
aD r27.1 fun b28 => (bif b28 then
(call (.func 69) [ah (ae r21.2.1 0), ah (PV.v (.int .i64 2))] r27.2).bind fun r30 =>
(av (ae r21.2.1 3) 1).bind fun p31 =>
(au base 1 p31 r30.1 r30.2).bind fun st32 =>
(al true 5 (ae r21.2.1 3) st32).bind fun p33 =>
(au base 5 (ae r21.2.1 1) p33 st32).bind fun st34 =>
some (Ex.ret, [(ae r21.2.1 0), (ae r21.2.1 1), (PV.v (.bool true)), (ae r21.2.1 3), (ae r21.2.1 4), (ae r21.2.1 5)], st34)
else
some (Ex.normal, [(ae r21.2.1 0), (ae r21.2.1 1), (ae r21.2.1 2), (ae r21.2.1 3), (ae r21.2.1 4), (ae r21.2.1 5)], r27.2)).bind fun r29 =>
cd (Ex.bf 1 r29.1) ((aT Tryd.prog true .add 3 (ae r29.2.1 5) (PV.v (.int .i64 1))).bind fun p36 =>
some (Ex.normal, [(ae r29.2.1 0), (ae r29.2.1 1), (ae r29.2.1 2), (ae r29.2.1 3), (ae r29.2.1 4), p36], r29.2.2)) fun x35 =>
some (x35, [(ae r29.2.1 0), (ae r29.2.1 1), (ae r29.2.1 2), (ae r29.2.1 3), (ae r29.2.1 4), (ae r29.2.1 5)], r29.2.2)) fun x22 =>
some (x22, [(ae r21.2.1 0), (ae r21.2.1 1), (ae r21.2.1 2), (ae r21.2.1 3), (ae r21.2.1 4), (ae r21.2.1 5)], r21.2.2)
noncomputable def S77 (call : bG) (it : bO) (a0 : PV) (st : St) : Option (PV × St) :=
let q2 : PV := .ptr false st.stk.length 0
let st1 := st.push [.v (.int .i64 0), .v (.string ⟨#[]⟩), .v (.int .u64 0), .v (.int .i64 0), .v (.int .i64 0)]
(aE a0).bind fun p3 =>
(av p3 1).bind fun p4 =>
(al false 1 p4 st1).bind fun p5 =>
bM (st1 = st1) <|
(aE a0).bind fun p6 =>
(av p6 2).bind fun p7 =>
(al false 1 p7 st1).bind fun p8 =>
bM (st1 = st1) <|
(aX [(0, 1), (1, 1), (2, 1), (3, 1), (4, 1)] [.v (.int .i64 0), .v (.string ⟨#[]⟩), .v (.int .u64 0), .v (.int .i64 0), .v (.int .i64 0)] [(0, (PV.v (.int .i64 5))), (3, p5), (4, p8)]).bind fun p9 =>
let q11 : PV := .ptr false st1.stk.length 0
let st10 := st1.push [.v (.int .i64 0), .v (.string ⟨#[]⟩), .v (.int .u64 0), .v (.int .i64 0), .v (.int .i64 0)]
bM (((al false 1 p7 st10).bind fun p12 =>
some (Rs.ret p12, st10)) = some (Rs.ret p8, st10)) <|
bM (((al false 1 p4 st10).bind fun p13 =>
some (Rs.ret p13, st10)) = some (Rs.ret p5, st10)) <|
(au st.stk.length 5 q11 p9 st10).bind fun st14 =>
(jo Tryd.prog 173 [(0, (PV.v (.string ⟨#[61, 61]⟩))), (1, (PV.v (.string ⟨#[33, 61]⟩))), (2, (PV.v (.string ⟨#[60, 61]⟩)))]).bind fun p15 =>
(it (S77.b0 call it st.stk.length st.lp.length) [a0, q2, (PV.v (.bool false)), q11, p15, (PV.v (.int .i64 0))] st14).bind fun r16 =>
cd (Ex.bf 0 r16.1) ((aE (ae r16.2.1 0)).bind fun p38 =>
(av p38 0).bind fun p39 =>
(al false 1 p39 r16.2.2).bind fun p40 =>
(du Tryd.prog 9 p40 (PV.v (.int .i64 0))).bind fun p41 =>
(call (.func 72) [ah (PV.v (.string ⟨#[123, 125, 40, 41, 91, 93, 59, 58, 44, 46, 61, 60, 43, 45, 42, 47, 37]⟩)), ah p41] r16.2.2).bind fun r42 =>
(aT Tryd.prog true .lss 3 r42.1 (PV.v (.int .i64 0))).bind fun p43 =>
aD p43 fun b44 => (bif b44 then
(al true 5 (ae r16.2.1 3) r42.2).bind fun p46 =>
(au st.stk.length 5 (ae r16.2.1 1) p46 r42.2).bind fun st47 =>
some (Ex.ret, [(ae r16.2.1 0), (ae r16.2.1 1), (PV.v (.bool false)), (ae r16.2.1 3)], st47)
else
some (Ex.normal, [(ae r16.2.1 0), (ae r16.2.1 1), (ae r16.2.1 2), (ae r16.2.1 3)], r42.2)).bind fun r45 =>
cd r45.1 ((call (.func 69) [ah (ae r45.2.1 0), ah (PV.v (.int .i64 1))] r45.2.2).bind fun r49 =>
(av (ae r45.2.1 3) 1).bind fun p50 =>
(au st.stk.length 1 p50 r49.1 r49.2).bind fun st51 =>
(al true 5 (ae r45.2.1 3) st51).bind fun p52 =>
(au st.stk.length 5 (ae r45.2.1 1) p52 st51).bind fun st53 =>
(al true 5 (ae r45.2.1 1) st53).bind fun p54 =>
fin st.stk.length st.tk.length st.lp.length [p54, (PV.v (.bool true))] st53) fun x48 =>
ep x48 ((al true 5 (ae r45.2.1 1) r45.2.2).bind fun p55 =>
fin st.stk.length st.tk.length st.lp.length [p55, (ae r45.2.1 2)] r45.2.2)) fun x37 =>
ep x37 ((al true 5 (ae r16.2.1 1) r16.2.2).bind fun p56 =>
fin st.stk.length st.tk.length st.lp.length [p56, (ae r16.2.1 2)] r16.2.2)
theorem C9 (a0 : PV) (st : St) : E L (.func 77) [a0] st = S77 (E L) itE a0 st := (bJ (by kernel_rfl) Tryd.func77 _ _).trans (by kernel_rfl)
noncomputable def S38 (call : bG) (it : bO) (a0 : PV) (st : St) : Option (PV × St) :=
let q2 : PV := .ptr false st.stk.length 0
let st1 := st.push [.v (.int .i64 0), .v (.string ⟨#[]⟩), .v (.int .u64 0), .v (.int .i64 0), .v (.int .i64 0)]
(aE a0).bind fun p3 =>
(av p3 0).bind fun p4 =>
(al false 1 p4 st1).bind fun p5 =>
(du Tryd.prog 9 p5 (PV.v (.int .i64 0))).bind fun p6 =>
(gU Tryd.prog 5 21 p6).bind fun p7 =>
(call (.func 73) [ah p7] st1).bind fun r8 =>
(onG r8.1 false (
some (p7, r8.2)) r8.2).bind fun r10 =>
(onG r8.1 false (
(call (.func 74) [ah r10.1] r10.2).bind fun r13 =>
some (r13.1, r13.2)) r10.2).bind fun r12 =>
(bP r8.1 (PV.v (.bool true)) r12.1).bind fun p14 =>
aD p14 fun b15 => (bif b15 then
(call (.func 75) [ah a0] r12.2).bind fun r17 =>
(aV r17.1 0).bind fun p18 =>
(aV r17.1 1).bind fun p19 =>
(au st.stk.length 5 q2 p18 r17.2).bind fun st20 =>
some (Ex.ret, [a0, q2, p19], st20)
else
(aT Tryd.prog true .eql 21 p7 (PV.v (.int .i32 35))).bind fun p21 =>
aD p21 fun b22 => (bif b22 then
(call (.func 76) [ah a0] r12.2).bind fun r24 =>
(aV r24.1 0).bind fun p25 =>
(aV r24.1 1).bind fun p26 =>
(au st.stk.length 5 q2 p25 r24.2).bind fun st27 =>
some (Ex.ret, [a0, q2, p26], st27)
else
some (Ex.normal, [a0, q2, (PV.v (.bool false))], r12.2)).bind fun r23 =>
some (r23.1, [(ae r23.2.1 0), (ae r23.2.1 1), (ae r23.2.1 2)], r23.2.2)).bind fun r16 =>
cd (Ex.bf 0 r16.1) ((call (.func 77) [ah (ae r16.2.1 0)] r16.2.2).bind fun r29 =>
(aV r29.1 0).bind fun p30 =>
(aV r29.1 1).bind fun p31 =>
(au st.stk.length 5 (ae r16.2.1 1) p30 r29.2).bind fun st32 =>
(al true 5 (ae r16.2.1 1) st32).bind fun p33 =>
fin st.stk.length st.tk.length st.lp.length [p33, p31] st32) fun x28 =>
ep x28 ((al true 5 (ae r16.2.1 1) r16.2.2).bind fun p34 =>
fin st.stk.length st.tk.length st.lp.length [p34, (ae r16.2.1 2)] r16.2.2)
theorem CT (a0 : PV) (st : St) : E L (.func 38) [a0] st = S38 (E L) itE a0 st := (bJ (by kernel_rfl) Tryd.func38 _ _).trans (by kernel_rfl)
noncomputable def S24.b0 (call : bG) (it : bO) (base lb : Nat) (vs15 : List PV) (st16 : St) : Option (Ex × List PV × St) :=
(call (.func 37) [ah (ae vs15 3)] st16).bind fun r17 =>
(aE (ae vs15 3)).bind fun p18 =>
(av p18 0).bind fun p19 =>
(al false 1 p19 r17.2).bind fun p20 =>
(aT Tryd.prog true .eql 9 p20 (PV.v (.string ⟨#[]⟩))).bind fun p21 =>
aD p21 fun b22 => (bif b22 then
(aE (ae vs15 3)).bind fun p24 =>
(av p24 1).bind fun p25 =>
(al false 1 p25 r17.2).bind fun p26 =>
bM (r17.2 = r17.2) <|
(aE (ae vs15 3)).bind fun p27 =>
(av p27 2).bind fun p28 =>
(al false 1 p28 r17.2).bind fun p29 =>
bM (r17.2 = r17.2) <|
(aX [(0, 1), (1, 1), (2, 1), (3, 1), (4, 1)] [.v (.int .i64 0), .v (.string ⟨#[]⟩), .v (.int .u64 0), .v (.int .i64 0), .v (.int .i64 0)] [(3, p26), (4, p29)]).bind fun p30 =>
(bj 5 [.v (.int .i64 0), .v (.string ⟨#[]⟩), .v (.int .u64 0), .v (.int .i64 0), .v (.int .i64 0)] 1 [(0, p30)]).bind fun p31 =>
(cw r17.2 p31).bind fun ys32 =>
(ej base [.v (.int .i64 0), .v (.string ⟨#[]⟩), .v (.int .u64 0), .v (.int .i64 0), .v (.int .i64 0)] 5 48 (ae vs15 2) ys32 r17.2).bind fun r33 =>
(aX [(0, 1), (1, 1), (2, 1)] [.v (.int .i64 0), .v (.int .i64 0), .v (.int .i64 0)] []).bind fun p34 =>
(au base 3 (ae vs15 1) p34 r33.2).bind fun st35 =>
some (Ex.ret, [r33.1, (ae vs15 1), (ae vs15 2), (ae vs15 3)], st35)
else
some (Ex.normal, [(ae vs15 0), (ae vs15 1), (ae vs15 2), (ae vs15 3)], r17.2)).bind fun r23 =>
cd r23.1 ((call (.func 38) [ah (ae r23.2.1 3)] r23.2.2).bind fun r37 =>
(aV r37.1 0).bind fun p38 =>
(aV r37.1 1).bind fun p39 =>
let q41 : PV := .ptr false r37.2.stk.length 0
let st40 := r37.2.push [.v (.int .i64 0), .v (.string ⟨#[]⟩), .v (.int .u64 0), .v (.int .i64 0), .v (.int .i64 0)]
(au base 5 q41 p38 st40).bind fun st42 =>
(aUn Tryd.prog .not p39).bind fun p43 =>
aD p43 fun b44 => (bif b44 then
(av q41 3).bind fun p46 =>
(al false 1 p46 st42).bind fun p47 =>
bM (st42 = st42) <|
(av q41 4).bind fun p48 =>
(al false 1 p48 st42).bind fun p49 =>
bM (st42 = st42) <|
(aX [(0, 1), (1, 1), (2, 1)] [.v (.int .i64 0), .v (.int .i64 0), .v (.int .i64 0)] [(0, (PV.v (.int .i64 3))), (1, p47), (2, p49)]).bind fun p50 =>
(au base 3 (ae r23.2.1 1) p50 st42).bind fun st51 =>
some (Ex.ret, [(PV.sl [] .nil), (ae r23.2.1 1), (ae r23.2.1 2), (ae r23.2.1 3), q41], st51)
else
some (Ex.normal, [(ae r23.2.1 0), (ae r23.2.1 1), (ae r23.2.1 2), (ae r23.2.1 3), q41], st42)).bind fun r45 =>
cd r45.1 ((al true 5 (ae r45.2.1 4) r45.2.2).bind fun p53 =>
(bj 5 [.v (.int .i64 0), .v (.string ⟨#[]⟩), .v (.int .u64 0), .v (.int .i64 0), .v (.int .i64 0)] 1 [(0, p53)]).bind fun p54 =>
(cw r45.2.2 p54).bind fun ys55 =>
(ej base [.v (.int .i64 0), .v (.string ⟨#[]⟩), .v (.int .u64 0), .v (.int .i64 0), .v (.int .i64 0)] 5 48 (ae r45.2.1 2) ys55 r45.2.2).bind fun r56 =>
iy base lb st16.stk.length Ex.normal [(ae r45.2.1 0), (ae r45.2.1 1), r56.1, (ae r45.2.1 3)] r56.2) fun x52 =>
iy base lb st16.stk.length (Ex.bf 1 x52) [(ae r45.2.1 0), (ae r45.2.1 1), (ae r45.2.1 2), (ae r45.2.1 3)] r45.2.2) fun x36 =>
iy base lb st16.stk.length (Ex.bf 1 x36) [(ae r23.2.1 0), (ae r23.2.1 1), (ae r23.2.1 2), (ae r23.2.1 3)] r23.2.2
noncomputable def S24 (call : bG) (it : bO) (a0 : PV) (st : St) : Option (PV × St) :=
let q2 : PV := .ptr false st.stk.length 0
let st1 := st.push [.v (.int .i64 0), .v (.int .i64 0), .v (.int .i64 0)]
(jP Tryd.prog 9 a0).bind fun p3 =>
(aT Tryd.prog true .gtr 3 p3 (PV.v (.int .i64 8192))).bind fun p4 =>
aD p4 fun b5 => (bif b5 then
(aX [(0, 1), (1, 1), (2, 1)] [.v (.int .i64 0), .v (.int .i64 0), .v (.int .i64 0)] [(0, (PV.v (.int .i64 10))), (1, (PV.v (.int .i64 1))), (2, (PV.v (.int .i64 1)))]).bind fun p7 =>
(au st.stk.length 3 q2 p7 st1).bind fun st8 =>
some (Ex.ret, [a0, (PV.sl [] .nil), q2], st8)
else
some (Ex.normal, [a0, (PV.sl [] .nil), q2], st1)).bind fun r6 =>
cd r6.1 ((aX [(0, 1), (1, 1), (2, 1)] [.v (.string ⟨#[]⟩), .v (.int .i64 0), .v (.int .i64 0)] [(0, (ae r6.2.1 0)), (1, (PV.v (.int .i64 1))), (2, (PV.v (.int .i64 1)))]).bind fun p10 =>
(cellsOf p10).bind fun b11 =>
let q13 : PV := .ptr false r6.2.2.stk.length 0
let st12 := r6.2.2.push b11
(it (S24.b0 call it st.stk.length st.lp.length) [(ae r6.2.1 1), (ae r6.2.1 2), (PV.sl [] .nil), q13] st12).bind fun r14 =>
ep (Ex.bf 0 r14.1) ((al true 3 (ae r14.2.1 1) r14.2.2).bind fun p57 =>
fin st.stk.length st.tk.length st.lp.length [(ae r14.2.1 0), p57] r14.2.2)) fun x9 =>
ep x9 ((al true 3 (ae r6.2.1 2) r6.2.2).bind fun p58 =>
fin st.stk.length st.tk.length st.lp.length [(ae r6.2.1 1), p58] r6.2.2)
theorem CR (a0 : PV) (st : St) : E L (.func 24) [a0] st = S24 (E L) itE a0 st := (bJ (by kernel_rfl) Tryd.func24 _ _).trans (by kernel_rfl)
noncomputable def S39 (call : bG) (it : bO) (a0 : PV) (st : St) : Option (PV × St) :=
let q2 : PV := .ptr false st.stk.length 0
let st1 := st.push [.v (.int .i64 0), .v (.string ⟨#[]⟩), .v (.int .u64 0), .v (.int .i64 0), .v (.int .i64 0)]
(aE a0).bind fun p3 =>
(av p3 0).bind fun p4 =>
(al false 1 p4 st1).bind fun p5 =>
bM (st1 = st1) <|
(aE a0).bind fun p6 =>
(av p6 1).bind fun p7 =>
(al false 1 p7 st1).bind fun p8 =>
bM (st1 = st1) <|
(cJ Tryd.prog 85 p5 p8).bind fun p9 =>
(al true 5 p9 st1).bind fun p10 =>
bM (st1 = st1) <|
(au st.stk.length 5 q2 p10 st1).bind fun st11 =>
(al true 5 q2 st11).bind fun p12 =>
fin st.stk.length st.tk.length st.lp.length [p12] st11
theorem CU (a0 : PV) (st : St) : E L (.func 39) [a0] st = S39 (E L) itE a0 st := (bJ (by kernel_rfl) Tryd.func39 _ _).trans (by kernel_rfl)
noncomputable def S78 (call : bG) (it : bO) (a0 a1 : PV) (st : St) : Option (PV × St) :=
(call (.func 39) [ah a0] st).bind fun r1 =>
let q3 : PV := .ptr false r1.2.stk.length 0
let st2 := r1.2.push [.v (.int .i64 0), .v (.string ⟨#[]⟩), .v (.int .u64 0), .v (.int .i64 0), .v (.int .i64 0)]
(au st.stk.length 5 q3 r1.1 st2).bind fun st4 =>
(av q3 0).bind fun p5 =>
(al false 1 p5 st4).bind fun p6 =>
(aT Tryd.prog true .eql 120 p6 (PV.v (.int .i64 2))).bind fun p7 =>
(onG p7 false (
(av q3 0).bind fun p10 =>
some (p10, st4)) st4).bind fun r9 =>
(onG p7 false (
(al false 1 r9.1 r9.2).bind fun p13 =>
some (p13, r9.2)) r9.2).bind fun r12 =>
(onG p7 false (
(aT Tryd.prog true .eql 120 r12.1 (PV.v (.int .i64 5))).bind fun p16 =>
some (p16, r12.2)) r12.2).bind fun r15 =>
(bP p7 (PV.v (.bool true)) r15.1).bind fun p17 =>
(onG p17 true (
(av q3 1).bind fun p20 =>
some (p20, r15.2)) r15.2).bind fun r19 =>
(onG p17 true (
(al false 1 r19.1 r19.2).bind fun p23 =>
some (p23, r19.2)) r19.2).bind fun r22 =>
(onG p17 true (
some (a1, r22.2)) r22.2).bind fun r25 =>
(onG p17 true (
(aT Tryd.prog false .eql 9 r22.1 r25.1).bind fun p28 =>
some (p28, r25.2)) r25.2).bind fun r27 =>
(bP p17 r27.1 (PV.v (.bool false))).bind fun p29 =>
fin st.stk.length st.tk.length st.lp.length [p29] r27.2
theorem Da (a0 a1 : PV) (st : St) : E L (.func 78) [a0, a1] st = S78 (E L) itE a0 a1 st := (bJ (by kernel_rfl) Tryd.func78 _ _).trans (by kernel_rfl)
noncomputable def S40 (call : bG) (it : bO) (a0 a1 : PV) (st : St) : Option (PV × St) :=
(call (.func 78) [ah a0, ah a1] st).bind fun r1 =>
aD r1.1 fun b2 => (bif b2 then
(aE a0).bind fun p4 =>
(av p4 1).bind fun p5 =>
(al false 1 p5 r1.2).bind fun p6 =>
(aT Tryd.prog true .add 3 p6 (PV.v (.int .i64 1))).bind fun p7 =>
(aE a0).bind fun p8 =>
(av p8 1).bind fun p9 =>
(au st.stk.length 1 p9 p7 r1.2).bind fun st10 =>
some (Ex.ret, [(PV.v (.bool true))], st10)
else
some (Ex.normal, [(PV.v (.bool false))], r1.2)).bind fun r3 =>
cd r3.1 (fin st.stk.length st.tk.length st.lp.length [(PV.v (.bool false))] r3.2.2) fun x11 =>
ep x11 (fin st.stk.length st.tk.length st.lp.length [(ae r3.2.1 0)] r3.2.2)
theorem CV (a0 a1 : PV) (st : St) : E L (.func 40) [a0, a1] st = S40 (E L) itE a0 a1 st := (bJ (by kernel_rfl) Tryd.func40 _ _).trans (by kernel_rfl)
end Go.Proofs.YtlhlijaondmccaaDoor.S
