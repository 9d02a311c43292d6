/- Trees: a statement that is being filled in. No condition. -/
import Derived.Test.YtkbhejcfejembaaGS6
set_option linter.all false
namespace Go.Proofs.Ytkbhejcfejembaa.S
open Go Go.AM Go.Proofs
set_option linter.unusedVariables false
set_option linter.unusedSimpArgs false

def S0 (op : Int) : S := ⟨op, ⟨#[]⟩, Rt0, Pl0, X0, 0, [], [], [], 0, 0⟩
def S.wName (x : S) (v : ByteArray) : S := ⟨x.op, v, x.right, x.place, x.e, x.n, x.args, x.body, x.els, x.line, x.col⟩
def S.wRight (x : S) (v : Rt) : S := ⟨x.op, x.name, v, x.place, x.e, x.n, x.args, x.body, x.els, x.line, x.col⟩
def S.wPlace (x : S) (v : Pl) : S := ⟨x.op, x.name, x.right, v, x.e, x.n, x.args, x.body, x.els, x.line, x.col⟩
def S.wE (x : S) (v : X) : S := ⟨x.op, x.name, x.right, x.place, v, x.n, x.args, x.body, x.els, x.line, x.col⟩
def S.wN (x : S) (v : Int) : S := ⟨x.op, x.name, x.right, x.place, x.e, v, x.args, x.body, x.els, x.line, x.col⟩
def S.wArgs (x : S) (v : List X) : S := ⟨x.op, x.name, x.right, x.place, x.e, x.n, v, x.body, x.els, x.line, x.col⟩
def S.wBody (x : S) (v : List S) : S := ⟨x.op, x.name, x.right, x.place, x.e, x.n, x.args, v, x.els, x.line, x.col⟩
def S.wEls (x : S) (v : List S) : S := ⟨x.op, x.name, x.right, x.place, x.e, x.n, x.args, x.body, v, x.line, x.col⟩
section
variable (x : S)
theorem S.encP : x.enc = [int x.op, str x.name] ++ x.right.enc ++ x.place.enc ++ x.e.enc ++ [int x.n, .sl (encs x.args) .dead, .sl (sencs x.body) .dead, .sl (sencs x.els) .dead, int x.line, int x.col] := S.enc_eq x
theorem S.l0 (v : Int) : laid x.enc 0 [int v] = S.enc ⟨v, x.name, x.right, x.place, x.e, x.n, x.args, x.body, x.els, x.line, x.col⟩ := by rw [S.encP, S.encP]; rfl
theorem S.l1 (v : ByteArray) : laid x.enc 1 [str v] = (x.wName v).enc := by rw [S.encP, S.encP]; rfl
theorem S.l2 (v : Rt) : laid x.enc 2 v.enc = (x.wRight v).enc := by
  have := laidB [int x.op, str x.name] x.right.enc (x.place.enc ++ x.e.enc ++ [int x.n, .sl (encs x.args) .dead, .sl (sencs x.body) .dead, .sl (sencs x.els) .dead, int x.line, int x.col]) v.enc (by rw [Rt.len, Rt.len])
  simp only [S.encP, S.wRight, List.append_assoc] at this ⊢
  exact this
theorem S.l29 (v : Pl) : laid x.enc 29 v.enc = (x.wPlace v).enc := by
  have := laidB ([int x.op, str x.name] ++ x.right.enc) x.place.enc (x.e.enc ++ [int x.n, .sl (encs x.args) .dead, .sl (sencs x.body) .dead, .sl (sencs x.els) .dead, int x.line, int x.col]) v.enc (by rw [Pl.len, Pl.len])
  rw [show ([int x.op, str x.name] ++ x.right.enc).length = 29 by rw [List.length_append, Rt.len]; rfl] at this
  simp only [S.encP, S.wPlace, List.append_assoc] at this ⊢
  exact this
theorem S.l43 (v : X) : laid x.enc 43 v.enc = (x.wE v).enc := by
  have := laidB ([int x.op, str x.name] ++ x.right.enc ++ x.place.enc) x.e.enc [int x.n, .sl (encs x.args) .dead, .sl (sencs x.body) .dead, .sl (sencs x.els) .dead, int x.line, int x.col] v.enc (by rw [X.len, X.len])
  rw [show ([int x.op, str x.name] ++ x.right.enc ++ x.place.enc).length = 43 by rw [List.length_append, List.length_append, Rt.len, Pl.len]; rfl] at this
  simp only [S.encP, S.wE, List.append_assoc] at this ⊢
  exact this
theorem hd_len : ([int x.op, str x.name] ++ x.right.enc ++ x.place.enc ++ x.e.enc).length = 52 := by simp only [List.length_append, Rt.len, Pl.len, X.len]; rfl
theorem S.l52 (v : Int) : laid x.enc 52 [int v] = (x.wN v).enc := by
  have := laidB ([int x.op, str x.name] ++ x.right.enc ++ x.place.enc ++ x.e.enc) [int x.n] [.sl (encs x.args) .dead, .sl (sencs x.body) .dead, .sl (sencs x.els) .dead, int x.line, int x.col] [int v] rfl
  rw [hd_len] at this
  simp only [S.encP, S.wN, List.append_assoc, List.cons_append, List.nil_append] at this ⊢
  exact this
theorem S.l53 (v : List X) : laid x.enc 53 [.sl (encs v) .dead] = (x.wArgs v).enc := by
  have := laidB ([int x.op, str x.name] ++ x.right.enc ++ x.place.enc ++ x.e.enc ++ [int x.n]) [.sl (encs x.args) .dead] [.sl (sencs x.body) .dead, .sl (sencs x.els) .dead, int x.line, int x.col] [.sl (encs v) .dead] rfl
  rw [List.length_append, hd_len] at this
  simp only [S.encP, S.wArgs, List.append_assoc, List.cons_append, List.nil_append] at this ⊢
  exact this
theorem S.l54 (v : List S) : laid x.enc 54 [.sl (sencs v) .dead] = (x.wBody v).enc := by
  have := laidB ([int x.op, str x.name] ++ x.right.enc ++ x.place.enc ++ x.e.enc ++ [int x.n, .sl (encs x.args) .dead]) [.sl (sencs x.body) .dead] [.sl (sencs x.els) .dead, int x.line, int x.col] [.sl (sencs v) .dead] rfl
  rw [List.length_append, hd_len] at this
  simp only [S.encP, S.wBody, List.append_assoc, List.cons_append, List.nil_append] at this ⊢
  exact this
theorem S.l55 (v : List S) : laid x.enc 55 [.sl (sencs v) .dead] = (x.wEls v).enc := by
  have := laidB ([int x.op, str x.name] ++ x.right.enc ++ x.place.enc ++ x.e.enc ++ [int x.n, .sl (encs x.args) .dead, .sl (sencs x.body) .dead]) [.sl (sencs x.els) .dead] [int x.line, int x.col] [.sl (sencs v) .dead] rfl
  rw [List.length_append, hd_len] at this
  simp only [S.encP, S.wEls, List.append_assoc, List.cons_append, List.nil_append] at this ⊢
  exact this
end
theorem laid_map (f : PV → PV) : ∀ (vs cs : List PV) (off : Nat), (laid cs off vs).map f = laid (cs.map f) off (vs.map f)
  | [], cs, off => rfl
  | v :: vs, cs, off => by simp only [laid, List.map_cons]; rw [laid_map f vs, List.map_set]
theorem laid_length : ∀ (vs cs : List PV) (off : Nat), (laid cs off vs).length = cs.length
  | [], cs, off => rfl
  | v :: vs, cs, off => by simp only [laid]; rw [laid_length vs, List.length_set]
theorem laid_fl : ∀ (vs cs : List PV) (off : Nat), cs.all flatC = true → vs.all flatC = true → (laid cs off vs).all flatC = true
  | [], cs, off, h, _ => h
  | v :: vs, cs, off, h, h2 => by
    simp only [List.all_cons, Bool.and_eq_true] at h2
    refine laid_fl vs _ _ ?_ h2.2
    rw [List.all_eq_true] at h ⊢
    intro p hp
    rcases List.mem_or_eq_of_mem_set hp with hp | rfl
    · exact h p hp
    · exact h2.1
/-- Cells that hold a statement, whatever is known of its rows' room. -/
structure In (cs : List PV) (x : S) : Prop where
  len : cs.length = 58
  fl : cs.all flatC = true
  can : cs.map canonC = x.enc
theorem In.put {cs : List PV} {x y : S} (h : In cs x) (off : Nat) (vs : List PV) (hf : vs.all flatC = true) (hl : laid x.enc off (vs.map canonC) = y.enc) : In (laid cs off vs) y :=
  ⟨by rw [laid_length, h.len], laid_fl vs cs off h.fl hf, by rw [laid_map, h.can, hl]⟩
theorem okc_of_fl : ∀ {cs : List PV}, cs.all flatC = true → okCells cs = true
  | [], _ => rfl
  | c :: cs, h => by
    simp only [List.all_cons, Bool.and_eq_true] at h
    have := okc_of_fl h.2
    cases c <;> simp_all [okCells, flatC]
section
variable {cs : List PV} {x : S} (h : In cs x)
include h
theorem In.ok : okCells cs = true := okc_of_fl h.fl
theorem In.name (v : ByteArray) : In (laid cs 1 [str v]) (x.wName v) := h.put 1 _ rfl (S.l1 x v)
theorem In.right (v : Rt) : In (laid cs 2 v.enc) (x.wRight v) := h.put 2 _ v.fl (by rw [v.canC]; exact S.l2 x v)
theorem In.place (v : Pl) : In (laid cs 29 v.enc) (x.wPlace v) := h.put 29 _ v.fl (by rw [v.canC]; exact S.l29 x v)
theorem In.e (v : X) : In (laid cs 43 v.enc) (x.wE v) := h.put 43 _ v.fl (by rw [v.canC]; exact S.l43 x v)
theorem In.n (v : Int) : In (laid cs 52 [int v]) (x.wN v) := h.put 52 _ rfl (S.l52 x v)
theorem In.args (v : List X) (c : Cap) : In (laid cs 53 [.sl (encs v) c]) (x.wArgs v) := h.put 53 _ rfl (S.l53 x v)
theorem In.body (v : List S) (c : Cap) : In (laid cs 54 [.sl (sencs v) c]) (x.wBody v) := h.put 54 _ rfl (S.l54 x v)
theorem In.els (v : List S) (c : Cap) : In (laid cs 55 [.sl (sencs v) c]) (x.wEls v) := h.put 55 _ rfl (S.l55 x v)
end
def Zs : List PV := .v (.int .i64 0) :: .v (.string ⟨#[]⟩) :: .v (.int .i64 0) :: .v (.int .i64 0) :: .v (.int .i64 0) :: .v (.int .u64 0) :: .v (.int .i64 0) :: .v (.string ⟨#[]⟩) :: .v (.string ⟨#[]⟩) :: .sl [] .nil :: .v (.int .i64 0) :: .v (.int .i64 0) :: .v (.int .i64 0) :: .v (.string ⟨#[]⟩) :: .v (.string ⟨#[]⟩) :: .v (.int .i64 0) :: .v (.int .i64 0) :: .v (.int .u64 0) :: .v (.int .i64 0) :: .v (.string ⟨#[]⟩) :: .v (.string ⟨#[]⟩) :: .sl [] .nil :: .v (.int .i64 0) :: .v (.int .i64 0) :: .v (.int .i64 0) :: .v (.int .i64 0) :: .v (.string ⟨#[]⟩) :: .v (.int .i64 0) :: .v (.int .i64 0) :: .v (.int .i64 0) :: .v (.string ⟨#[]⟩) :: .v (.string ⟨#[]⟩) :: .v (.int .i64 0) :: .v (.int .i64 0) :: .v (.int .u64 0) :: .v (.int .i64 0) :: .v (.string ⟨#[]⟩) :: .v (.string ⟨#[]⟩) :: .sl [] .nil :: .v (.int .i64 0) :: .v (.int .i64 0) :: .v (.int .i64 0) :: .v (.int .i64 0) :: .v (.int .i64 0) :: .v (.int .i64 0) :: .v (.int .u64 0) :: .v (.int .i64 0) :: .v (.string ⟨#[]⟩) :: .v (.string ⟨#[]⟩) :: .sl [] .nil :: .v (.int .i64 0) :: .v (.int .i64 0) :: .v (.int .i64 0) :: .sl [] .nil :: .sl [] .nil :: .sl [] .nil :: .v (.int .i64 0) :: .v (.int .i64 0) :: []
def Cz (op : Int) : List PV := laid Zs 0 [int op]
theorem Zc : (.v (.int .i64 0) :: .v (.string ⟨#[]⟩) :: .v (.int .i64 0) :: .v (.int .i64 0) :: .v (.int .i64 0) :: .v (.int .u64 0) :: .v (.int .i64 0) :: .v (.string ⟨#[]⟩) :: .v (.string ⟨#[]⟩) :: .sl [] .nil :: .v (.int .i64 0) :: .v (.int .i64 0) :: .v (.int .i64 0) :: .v (.string ⟨#[]⟩) :: .v (.string ⟨#[]⟩) :: .v (.int .i64 0) :: .v (.int .i64 0) :: .v (.int .u64 0) :: .v (.int .i64 0) :: .v (.string ⟨#[]⟩) :: .v (.string ⟨#[]⟩) :: .sl [] .nil :: .v (.int .i64 0) :: .v (.int .i64 0) :: .v (.int .i64 0) :: .v (.int .i64 0) :: .v (.string ⟨#[]⟩) :: .v (.int .i64 0) :: .v (.int .i64 0) :: .v (.int .i64 0) :: .v (.string ⟨#[]⟩) :: .v (.string ⟨#[]⟩) :: .v (.int .i64 0) :: .v (.int .i64 0) :: .v (.int .u64 0) :: .v (.int .i64 0) :: .v (.string ⟨#[]⟩) :: .v (.string ⟨#[]⟩) :: .sl [] .nil :: .v (.int .i64 0) :: .v (.int .i64 0) :: .v (.int .i64 0) :: .v (.int .i64 0) :: .v (.int .i64 0) :: .v (.int .i64 0) :: .v (.int .u64 0) :: .v (.int .i64 0) :: .v (.string ⟨#[]⟩) :: .v (.string ⟨#[]⟩) :: .sl [] .nil :: .v (.int .i64 0) :: .v (.int .i64 0) :: .v (.int .i64 0) :: .sl [] .nil :: .sl [] .nil :: .sl [] .nil :: .v (.int .i64 0) :: .v (.int .i64 0) :: [] : List PV) = Zs := rfl
theorem Zs_len : Zs.length = 58 := rfl
theorem Zs_can : Zs.map canonC = (S0 0).enc := by
  rw [S.encP]
  simp [Zs, canonC, S0, S.op, S.name, S.right, S.place, S.e, S.n, S.args, S.body, S.els, S.line, S.col, Rt0, Rt.enc, Pl0, Pl.enc, X0, X.enc, encs, sencs]
theorem In.zero (op : Int) : In (Cz op) (S0 op) := In.put (x := S0 0) ⟨rfl, rfl, Zs_can⟩ 0 [int op] rfl (S.l0 (S0 0) op)
theorem S0_build (op : Int) : rBuild [(0, 1), (1, 1), (2, 27), (29, 14), (43, 9), (52, 1), (53, 1), (54, 1), (55, 1), (56, 1), (57, 1)] Zs [(0, int op)] = some (.agg (Cz op)) := rfl
theorem Cz_args (op : Int) : AM.part false 1 53 (Cz op) = some (.sl [] .nil) := rfl
end Go.Proofs.Ytkbhejcfejembaa.S

/- Trees: the maker's arguments of a call. No condition. -/
namespace Go.Proofs.Ytkbhejcfejembaa.S
open Go Go.AM Go.Proofs
set_option linter.unusedVariables false
set_option linter.unusedSimpArgs false

mutual
def S.cnt : S → Nat
  | ⟨_, _, _, _, _, _, _, b, c, _, _⟩ => cnts b + cnts c + 1
def cnts : List S → Nat
  | [] => 0
  | x :: xs => x.cnt + cnts xs
end
theorem S.cnt_eq (x : S) : x.cnt = cnts x.body + cnts x.els + 1 := by cases x; rfl
mutual
theorem S.flat_cnt : ∀ (x : S) (d : Int), (x.flat d).length = x.cnt
  | ⟨op, name, right, place, e, n, args, body, els, l, c⟩, d => by
    have := flats_cnt body (d + 1)
    have := flats_cnt els (d + 1)
    simp [S.flat, S.cnt]; omega
theorem flats_cnt : ∀ (xs : List S) (d : Int), (flats xs d).length = cnts xs
  | [], d => by simp [flats, cnts]
  | x :: xs, d => by
    have := S.flat_cnt x d
    have := flats_cnt xs d
    simp [flats, cnts]; omega
end
theorem own_congr {s s' : St} (h : s.tk.length = s'.tk.length) {tk : List (Nat × Nat)} {c : Cap} {n sz : Nat} (o : Own s tk c n sz) : Own s' tk c n sz := by
  rcases o with o | ⟨j, rfl, hj⟩
  · exact .inl o
  · exact .inr ⟨j, by rw [h], hj⟩
theorem encs_ok (l : List X) : okSz 9 (encs l) = true := by rw [encs_map]; exact okSz_map _ X.len l
theorem encs_app (l m : List X) : encs l ++ encs m = encs (l ++ m) := by simp only [encs_map]; exact (List.map_append ..).symm
theorem part_laid {cs : List PV} {off : Nat} (h : off < cs.length) (v : PV) : AM.part false 1 off (laid cs off [v]) = some v := by
  simp only [AM.part, laid]
  simp [h]
theorem In.z {cs : List PV} {x : S} (h : In cs x) : laid Zs 0 cs = cs := laid0 _ _ (by rw [Zs_len, h.len])
theorem S0_rng {op : Int} (h : I64 op) : (S0 op).rng := by
  rw [S.rng_eq]
  exact ⟨h, (show I64 0 by unfold I64; decide), Rt0_rng.1, Rt0_rng.2.1, Rt0_rng.2.2, Pl0_rng, X0_rng, Nat.zero_le _, trivial, Nat.zero_le _, trivial, Nat.zero_le _, trivial⟩
theorem S.rName {x : S} (h : x.rng) (v : ByteArray) : (x.wName v).rng := by rw [S.rng_eq] at h ⊢; exact h
theorem S.rRight {x : S} (h : x.rng) {v : Rt} (hv : v.rng) : (x.wRight v).rng := by rw [S.rng_eq] at h ⊢; exact ⟨h.1, h.2.1, hv.1, hv.2.1, hv.2.2, h.2.2.2.2.2⟩
theorem S.rPlace {x : S} (h : x.rng) {v : Pl} (hv : v.rng) : (x.wPlace v).rng := by rw [S.rng_eq] at h ⊢; exact ⟨h.1, h.2.1, h.2.2.1, h.2.2.2.1, h.2.2.2.2.1, hv, h.2.2.2.2.2.2⟩
theorem S.rE {x : S} (h : x.rng) {v : X} (hv : v.rng) : (x.wE v).rng := by rw [S.rng_eq] at h ⊢; exact ⟨h.1, h.2.1, h.2.2.1, h.2.2.2.1, h.2.2.2.2.1, h.2.2.2.2.2.1, hv, h.2.2.2.2.2.2.2⟩
theorem S.rN {x : S} (h : x.rng) {v : Int} (hv : I64 v) : (x.wN v).rng := by rw [S.rng_eq] at h ⊢; exact ⟨h.1, hv, h.2.2⟩
theorem S.rArgs {x : S} (h : x.rng) {v : List X} (hl : v.length ≤ 1000000) (hv : rngs v) : (x.wArgs v).rng := by rw [S.rng_eq] at h ⊢; exact ⟨h.1, h.2.1, h.2.2.1, h.2.2.2.1, h.2.2.2.2.1, h.2.2.2.2.2.1, h.2.2.2.2.2.2.1, hl, hv, h.2.2.2.2.2.2.2.2.2⟩
theorem S.rBody {x : S} (h : x.rng) {v : List S} (hv : v.length ≤ 1000000 ∧ srngs v) : (x.wBody v).rng := by rw [S.rng_eq] at h ⊢; exact ⟨h.1, h.2.1, h.2.2.1, h.2.2.2.1, h.2.2.2.2.1, h.2.2.2.2.2.1, h.2.2.2.2.2.2.1, h.2.2.2.2.2.2.2.1, h.2.2.2.2.2.2.2.2.1, hv.1, hv.2, h.2.2.2.2.2.2.2.2.2.2.2⟩
theorem S.rEls {x : S} (h : x.rng) {v : List S} (hv : v.length ≤ 1000000 ∧ srngs v) : (x.wEls v).rng := by rw [S.rng_eq] at h ⊢; exact ⟨h.1, h.2.1, h.2.2.1, h.2.2.2.1, h.2.2.2.2.1, h.2.2.2.2.2.1, h.2.2.2.2.2.2.1, h.2.2.2.2.2.2.2.1, h.2.2.2.2.2.2.2.2.1, h.2.2.2.2.2.2.2.2.2.1, h.2.2.2.2.2.2.2.2.2.2.1, hv.1, hv.2⟩
theorem i64s {n : Int} (h : -1000 ≤ n ∧ n ≤ 1000) : I64 n := by unfold I64; omega
section
variable (nums : List Int) (hn : nums.length ≤ 400)
include hn
theorem args_mk : ∀ (k : Nat), k ≤ 10 → ∀ a l : Nat, ∃ (es : List X) (a' : Nat), (szs es ≤ 3 * k ∧ rngs es ∧ es.length = k) ∧ ∀ (Q : Nat → Nat → St) (N T Lb b : Nat), Mk nums Q N T Lb b → ∀ (t4 : Blk) (cs : List PV) (x : S) (c : Cap) (tk : List (Nat × Nat)), In cs x → AM.part false 1 53 cs = some (.sl (encs x.args) c) →
    Own (Q a l) tk c (encs x.args).length 9 → x.args.length + k ≤ 1000 → ∃ cs' tk', In cs' (x.wArgs (x.args ++ es)) ∧ itE (S44.b0 (E L) itE N Lb) [.ptr false b 0, .ptr false N 0, .ptr false (N + 1) 0, int k] ((Q a l).app [t4, ⟨cs, []⟩] tk []) =
      some (.exit 1, [.ptr false b 0, .ptr false N 0, .ptr false (N + 1) 0, int 0], (Q a' l).app [t4, ⟨cs', []⟩] tk' []) := by
  intro k
  induction k with
  | zero =>
    intro _ a l
    refine ⟨[], a, ⟨by simp [szs], trivial, rfl⟩, fun Q N T Lb b M t4 cs x c tk hi hp ho hlen => ⟨cs, tk, ?_, ?_⟩⟩
    · rw [List.append_nil]; cases x; exact hi
    · refine it_exit ?_
      simp [S44.b0, canon_v, canon_sl, canon_clo, canon_ptr, need_refl, elems_sl, sf_v, sf_sl, sf_ptr, sf_ptrh, sf_clo, sf_dead, sf_nil, sf_full, sf_fr, need_true, ibeq, beq_ba, nbeq, nble, nblt, AM.nth, List.getD_cons_succ, List.getD_cons_zero, Option.bind_some, Option.bind_none, Option.map_some, onBool, AM.onG, onFn, seqK, retK, Ex.outOf, cond_true, cond_false, bin_lss, bin_leq, bin_gtr, bin_geq, bin_eql, bin_neq, bin_add, bin_sub, bin_mul, un_not, str_eql, str_neq, app_push, app_stk, app_tk, app_lp, load_app, load_app0, load_fp, store_app, store_app0, leave_app, leave_app0, AM.ownPut, AM.cellsOf, AM.shift, aPick, fin_v, fin_sl, beq_true, okSz, List.length_cons, List.length_nil, Nat.zero_add, Nat.add_zero, Nat.reduceAdd, decide_true, decide_false, Bool.and_true, Bool.true_and, Bool.and_self, Bool.not_true, Bool.not_false, List.getElem?_cons_zero, List.getElem?_cons_succ, List.nil_append, List.cons_append, hpp_app, hpp_stk, hpp_tk, hpp_lp, hpp_hp, app_lpadd, hload, hload0, hloadh, hstore, hstore0, hleave, hleave0, hfin_v, hfin_sl, hback, hloop, hsetlp, max_int, min_int, hstore_v, hstore_v0, hstore_s, hstore_d, modify_concat, part1, hbackt, hbackl, hback0, List.take_succ_cons, List.take_left, List.take_zero, List.take_nil]
  | succ k ih =>
    intro hk a l
    obtain ⟨y, a1, hz, hg, hy⟩ := expr_mk nums hn 1 (by decide) a l
    obtain ⟨es, a2, ⟨hzs, hgs, hls⟩, hes⟩ := ih (by omega) a1 l
    refine ⟨y :: es, a2, ⟨by simp [szs] at hz ⊢; omega, ⟨hg, hgs⟩, by simp [hls]⟩, fun Q N T Lb b M t4 cs x c tk hi hp ho hlen => ?_⟩
    have hy := hy Q N T Lb b M
    rw [show ((1 : Nat) : Int) = 1 from rfl] at hy
    have ho' : Own (Q a1 l) tk c (encs x.args).length 9 := own_congr (by rw [M.hT, M.hT]) ho
    obtain ⟨c1, tk1, e1, o1⟩ := app_own (ys := encs [y]) (bytes := 104) ho' (by simp only [encs_length, maxLenB, List.length_cons, List.length_nil]; omega) (encs_ok _) (encs_ok _) (by decide) (by decide)
    rw [encs_app] at e1 o1
    have hi1 := hi.args (x.args ++ [y]) c1
    have hlen1 : (x.wArgs (x.args ++ [y])).args = x.args ++ [y] := rfl
    obtain ⟨cs2, tk2, hi2, h2⟩ := hes Q N T Lb b M t4 (laid cs 53 [.sl (encs (x.args ++ [y])) c1]) (x.wArgs (x.args ++ [y])) c1 tk1 hi1 (part_laid (by rw [hi.len]; decide) _) o1 (by rw [hlen1, List.length_append, List.length_singleton]; omega)
    refine ⟨cs2, tk2, by rw [hlen1, List.append_assoc] at hi2; exact hi2, ?_⟩
    rw [← h2]
    refine it_step ?_
    have hk1 : ((k + 1 : Nat) : Int) > 0 := by omega
    have hk2 : IntKind.i64.wrap (((k + 1 : Nat) : Int) - 1) = (k : Int) := by rw [IntWalk.i64_in _ (by omega)]; omega
    generalize ((k + 1 : Nat) : Int) = K at hk1 hk2
    generalize x.args ++ [y] = A at *
    have hl := hi.len
    have hpok : okCells cs = true := hi.ok
    simp [S44.b0, canon_v, canon_sl, canon_clo, canon_ptr, need_refl, elems_sl, sf_v, sf_sl, sf_ptr, sf_ptrh, sf_clo, sf_dead, sf_nil, sf_full, sf_fr, need_true, ibeq, beq_ba, nbeq, nble, nblt, AM.nth, List.getD_cons_succ, List.getD_cons_zero, Option.bind_some, Option.bind_none, Option.map_some, onBool, AM.onG, onFn, seqK, retK, Ex.outOf, cond_true, cond_false, bin_lss, bin_leq, bin_gtr, bin_geq, bin_eql, bin_neq, bin_add, bin_sub, bin_mul, un_not, str_eql, str_neq, app_push, app_stk, app_tk, app_lp, load_app, load_app0, load_fp, store_app, store_app0, leave_app, leave_app0, AM.ownPut, AM.cellsOf, AM.shift, aPick, fin_v, fin_sl, beq_true, okSz, List.length_cons, List.length_nil, Nat.zero_add, Nat.add_zero, Nat.reduceAdd, decide_true, decide_false, Bool.and_true, Bool.true_and, Bool.and_self, Bool.not_true, Bool.not_false, List.getElem?_cons_zero, List.getElem?_cons_succ, List.nil_append, List.cons_append, hpp_app, hpp_stk, hpp_tk, hpp_lp, hpp_hp, app_lpadd, hload, hload0, hloadh, hstore, hstore0, hleave, hleave0, hfin_v, hfin_sl, hback, hloop, hsetlp, max_int, min_int, hstore_v, hstore_v0, hstore_s, hstore_d, modify_concat, part1, hbackt, hbackl, hback0, List.take_succ_cons, List.take_left, List.take_zero, List.take_nil, hk1, M.own, hp, hy, X.lit1, e1, M.sto, okCells, hl, hk2, need_true]
end
end Go.Proofs.Ytkbhejcfejembaa.S

/- Trees: the maker of programs: statements. Printed by mkSt.py. No condition. -/
namespace Go.Proofs.Ytkbhejcfejembaa.S
open Go Go.AM Go.Proofs
set_option linter.unusedVariables false
set_option linter.unusedSimpArgs false
set_option maxHeartbeats 8000000

section
variable (nums : List Int) (hn : nums.length ≤ 400)
include hn

theorem stmt_leaf_z (d a l : Nat) (r : Int) (a1 : Nat) (h0 : 0 ≤ r) (h1 : r < 11) (hp : Does nums 22 [int 11] a l (int r) a1 l) (o : Int) (hw : IntKind.i64.wrap (1 + r) = o) (hd : d = 0)
    (ho : o = 1 ∨ o = 2 ∨ o = 3 ∨ o = 4 ∨ o = 5 ∨ o = 8 ∨ o = 9 ∨ o = 11) : ∃ (x : S) (a' l' : Nat), l' ≤ l ∧ (x.sz ≤ 100 * x.cnt ∧ x.cnt + l' ≤ l + 1) ∧ x.rng ∧ Does nums 44 [int d] a l (.agg x.enc) a' l' := by
  subst hd
  rcases ho with ho | ho | ho | ho | ho | ho | ho | ho
  · -- 1
    obtain ⟨n1v, a2, n1⟩ := name_ev nums hn a1 l
    obtain ⟨r1v, a3, r1z, r1y, r1g, r1⟩ := right_mk nums hn a2 l
    refine ⟨((S0 1).wName n1v).wRight r1v, a3, l, by omega, by simp [S.sz_eq, S.cnt_eq, cnts, S.wName, S.wRight, S.wPlace, S.wE, S.wN, S.wArgs, S.wBody, S.wEls, S0, S.right, S.place, S.e, S.args, S.body, S.els, Rt0, Pl0, X0_sz, szs, sszs] at *; omega, (S.rRight (S.rName (S0_rng (by unfold I64; decide)) _) r1g), Does.of fun Q N T Lb b M => ?_⟩
    have n1 := n1 Q N T Lb b M
    have r1 := r1 Q N T Lb b M
    have hp := hp Q N T Lb b M
    have i0 := In.zero 1
    have i1 := i0.name n1v
    have i2 := i1.right r1v
    rw [S44_eq]
    simp [S44, canon_v, canon_sl, canon_clo, canon_ptr, need_refl, elems_sl, sf_v, sf_sl, sf_ptr, sf_ptrh, sf_clo, sf_dead, sf_nil, sf_full, sf_fr, need_true, ibeq, beq_ba, nbeq, nble, nblt, AM.nth, List.getD_cons_succ, List.getD_cons_zero, Option.bind_some, Option.bind_none, Option.map_some, onBool, AM.onG, onFn, seqK, retK, Ex.outOf, cond_true, cond_false, bin_lss, bin_leq, bin_gtr, bin_geq, bin_eql, bin_neq, bin_add, bin_sub, bin_mul, un_not, str_eql, str_neq, app_push, app_stk, app_tk, app_lp, load_app, load_app0, load_fp, store_app, store_app0, leave_app, leave_app0, AM.ownPut, AM.cellsOf, AM.shift, aPick, fin_v, fin_sl, beq_true, okSz, List.length_cons, List.length_nil, Nat.zero_add, Nat.add_zero, Nat.reduceAdd, decide_true, decide_false, Bool.and_true, Bool.true_and, Bool.and_self, Bool.not_true, Bool.not_false, List.getElem?_cons_zero, List.getElem?_cons_succ, List.nil_append, List.cons_append, hpp_app, hpp_stk, hpp_tk, hpp_lp, hpp_hp, app_lpadd, hload, hload0, hloadh, hstore, hstore0, hleave, hleave0, hfin_v, hfin_sl, hback, hloop, hsetlp, max_int, min_int, hstore_v, hstore_v0, hstore_s, hstore_d, modify_concat, part1, hbackt, hbackl, hback0, List.take_succ_cons, List.take_left, List.take_zero, List.take_nil, hp, n1, r1, hw, ho, i0.z, i0.len, i0.ok, i0.fl, i0.can, i1.z, i1.len, i1.ok, i1.fl, i1.can, i2.z, i2.len, i2.ok, i2.fl, i2.can, X.len, X.okc, Pl.len, Pl.okc, Rt.len, Rt.okc, M.own, M.own0, M.sto, M.sto0, M.fa, M.hN, M.hT, M.hL, okCells, Zc, S0_build, Zs_len, part_all]
  · -- 2
    obtain ⟨n1v, a2, n1⟩ := name_ev nums hn a1 l
    obtain ⟨r1v, a3, r1z, r1y, r1g, r1⟩ := right_mk nums hn a2 l
    refine ⟨((S0 2).wName n1v).wRight r1v, a3, l, by omega, by simp [S.sz_eq, S.cnt_eq, cnts, S.wName, S.wRight, S.wPlace, S.wE, S.wN, S.wArgs, S.wBody, S.wEls, S0, S.right, S.place, S.e, S.args, S.body, S.els, Rt0, Pl0, X0_sz, szs, sszs] at *; omega, (S.rRight (S.rName (S0_rng (by unfold I64; decide)) _) r1g), Does.of fun Q N T Lb b M => ?_⟩
    have n1 := n1 Q N T Lb b M
    have r1 := r1 Q N T Lb b M
    have hp := hp Q N T Lb b M
    have i0 := In.zero 2
    have i1 := i0.name n1v
    have i2 := i1.right r1v
    rw [S44_eq]
    simp [S44, canon_v, canon_sl, canon_clo, canon_ptr, need_refl, elems_sl, sf_v, sf_sl, sf_ptr, sf_ptrh, sf_clo, sf_dead, sf_nil, sf_full, sf_fr, need_true, ibeq, beq_ba, nbeq, nble, nblt, AM.nth, List.getD_cons_succ, List.getD_cons_zero, Option.bind_some, Option.bind_none, Option.map_some, onBool, AM.onG, onFn, seqK, retK, Ex.outOf, cond_true, cond_false, bin_lss, bin_leq, bin_gtr, bin_geq, bin_eql, bin_neq, bin_add, bin_sub, bin_mul, un_not, str_eql, str_neq, app_push, app_stk, app_tk, app_lp, load_app, load_app0, load_fp, store_app, store_app0, leave_app, leave_app0, AM.ownPut, AM.cellsOf, AM.shift, aPick, fin_v, fin_sl, beq_true, okSz, List.length_cons, List.length_nil, Nat.zero_add, Nat.add_zero, Nat.reduceAdd, decide_true, decide_false, Bool.and_true, Bool.true_and, Bool.and_self, Bool.not_true, Bool.not_false, List.getElem?_cons_zero, List.getElem?_cons_succ, List.nil_append, List.cons_append, hpp_app, hpp_stk, hpp_tk, hpp_lp, hpp_hp, app_lpadd, hload, hload0, hloadh, hstore, hstore0, hleave, hleave0, hfin_v, hfin_sl, hback, hloop, hsetlp, max_int, min_int, hstore_v, hstore_v0, hstore_s, hstore_d, modify_concat, part1, hbackt, hbackl, hback0, List.take_succ_cons, List.take_left, List.take_zero, List.take_nil, hp, n1, r1, hw, ho, i0.z, i0.len, i0.ok, i0.fl, i0.can, i1.z, i1.len, i1.ok, i1.fl, i1.can, i2.z, i2.len, i2.ok, i2.fl, i2.can, X.len, X.okc, Pl.len, Pl.okc, Rt.len, Rt.okc, M.own, M.own0, M.sto, M.sto0, M.fa, M.hN, M.hT, M.hL, okCells, Zc, S0_build, Zs_len, part_all]
  · -- 3
    obtain ⟨n1v, a2, n1⟩ := name_ev nums hn a1 l
    obtain ⟨r1v, a3, r1z, r1y, r1g, r1⟩ := right_mk nums hn a2 l
    refine ⟨((S0 3).wName n1v).wRight r1v, a3, l, by omega, by simp [S.sz_eq, S.cnt_eq, cnts, S.wName, S.wRight, S.wPlace, S.wE, S.wN, S.wArgs, S.wBody, S.wEls, S0, S.right, S.place, S.e, S.args, S.body, S.els, Rt0, Pl0, X0_sz, szs, sszs] at *; omega, (S.rRight (S.rName (S0_rng (by unfold I64; decide)) _) r1g), Does.of fun Q N T Lb b M => ?_⟩
    have n1 := n1 Q N T Lb b M
    have r1 := r1 Q N T Lb b M
    have hp := hp Q N T Lb b M
    have i0 := In.zero 3
    have i1 := i0.name n1v
    have i2 := i1.right r1v
    rw [S44_eq]
    simp [S44, canon_v, canon_sl, canon_clo, canon_ptr, need_refl, elems_sl, sf_v, sf_sl, sf_ptr, sf_ptrh, sf_clo, sf_dead, sf_nil, sf_full, sf_fr, need_true, ibeq, beq_ba, nbeq, nble, nblt, AM.nth, List.getD_cons_succ, List.getD_cons_zero, Option.bind_some, Option.bind_none, Option.map_some, onBool, AM.onG, onFn, seqK, retK, Ex.outOf, cond_true, cond_false, bin_lss, bin_leq, bin_gtr, bin_geq, bin_eql, bin_neq, bin_add, bin_sub, bin_mul, un_not, str_eql, str_neq, app_push, app_stk, app_tk, app_lp, load_app, load_app0, load_fp, store_app, store_app0, leave_app, leave_app0, AM.ownPut, AM.cellsOf, AM.shift, aPick, fin_v, fin_sl, beq_true, okSz, List.length_cons, List.length_nil, Nat.zero_add, Nat.add_zero, Nat.reduceAdd, decide_true, decide_false, Bool.and_true, Bool.true_and, Bool.and_self, Bool.not_true, Bool.not_false, List.getElem?_cons_zero, List.getElem?_cons_succ, List.nil_append, List.cons_append, hpp_app, hpp_stk, hpp_tk, hpp_lp, hpp_hp, app_lpadd, hload, hload0, hloadh, hstore, hstore0, hleave, hleave0, hfin_v, hfin_sl, hback, hloop, hsetlp, max_int, min_int, hstore_v, hstore_v0, hstore_s, hstore_d, modify_concat, part1, hbackt, hbackl, hback0, List.take_succ_cons, List.take_left, List.take_zero, List.take_nil, hp, n1, r1, hw, ho, i0.z, i0.len, i0.ok, i0.fl, i0.can, i1.z, i1.len, i1.ok, i1.fl, i1.can, i2.z, i2.len, i2.ok, i2.fl, i2.can, X.len, X.okc, Pl.len, Pl.okc, Rt.len, Rt.okc, M.own, M.own0, M.sto, M.sto0, M.fa, M.hN, M.hT, M.hL, okCells, Zc, S0_build, Zs_len, part_all]
  · -- 4
    obtain ⟨p1v, a2, p1z, p1g, p1⟩ := place_mk nums hn a1 l
    obtain ⟨e1v, a3, e1z, e1g, e1⟩ := expr_mk nums hn 2 (by decide) a2 l
    refine ⟨((S0 4).wPlace p1v).wE e1v, a3, l, by omega, by simp [S.sz_eq, S.cnt_eq, cnts, S.wName, S.wRight, S.wPlace, S.wE, S.wN, S.wArgs, S.wBody, S.wEls, S0, S.right, S.place, S.e, S.args, S.body, S.els, Rt0, Pl0, X0_sz, szs, sszs] at *; omega, (S.rE (S.rPlace (S0_rng (by unfold I64; decide)) p1g) e1g), Does.of fun Q N T Lb b M => ?_⟩
    have p1 := p1 Q N T Lb b M
    have e1 := e1 Q N T Lb b M
    rw [show ((2 : Nat) : Int) = 2 from rfl] at e1
    have hp := hp Q N T Lb b M
    have i0 := In.zero 4
    have i1 := i0.place p1v
    have i2 := i1.e e1v
    rw [S44_eq]
    simp [S44, canon_v, canon_sl, canon_clo, canon_ptr, need_refl, elems_sl, sf_v, sf_sl, sf_ptr, sf_ptrh, sf_clo, sf_dead, sf_nil, sf_full, sf_fr, need_true, ibeq, beq_ba, nbeq, nble, nblt, AM.nth, List.getD_cons_succ, List.getD_cons_zero, Option.bind_some, Option.bind_none, Option.map_some, onBool, AM.onG, onFn, seqK, retK, Ex.outOf, cond_true, cond_false, bin_lss, bin_leq, bin_gtr, bin_geq, bin_eql, bin_neq, bin_add, bin_sub, bin_mul, un_not, str_eql, str_neq, app_push, app_stk, app_tk, app_lp, load_app, load_app0, load_fp, store_app, store_app0, leave_app, leave_app0, AM.ownPut, AM.cellsOf, AM.shift, aPick, fin_v, fin_sl, beq_true, okSz, List.length_cons, List.length_nil, Nat.zero_add, Nat.add_zero, Nat.reduceAdd, decide_true, decide_false, Bool.and_true, Bool.true_and, Bool.and_self, Bool.not_true, Bool.not_false, List.getElem?_cons_zero, List.getElem?_cons_succ, List.nil_append, List.cons_append, hpp_app, hpp_stk, hpp_tk, hpp_lp, hpp_hp, app_lpadd, hload, hload0, hloadh, hstore, hstore0, hleave, hleave0, hfin_v, hfin_sl, hback, hloop, hsetlp, max_int, min_int, hstore_v, hstore_v0, hstore_s, hstore_d, modify_concat, part1, hbackt, hbackl, hback0, List.take_succ_cons, List.take_left, List.take_zero, List.take_nil, hp, p1, e1, hw, ho, i0.z, i0.len, i0.ok, i0.fl, i0.can, i1.z, i1.len, i1.ok, i1.fl, i1.can, i2.z, i2.len, i2.ok, i2.fl, i2.can, X.len, X.okc, Pl.len, Pl.okc, Rt.len, Rt.okc, M.own, M.own0, M.sto, M.sto0, M.fa, M.hN, M.hT, M.hL, okCells, Zc, S0_build, Zs_len, part_all]
  · -- 5
    obtain ⟨e1v, a2, e1z, e1g, e1⟩ := expr_mk nums hn 3 (by decide) a1 l
    refine ⟨(S0 5).wE e1v, a2, l, by omega, by simp [S.sz_eq, S.cnt_eq, cnts, S.wName, S.wRight, S.wPlace, S.wE, S.wN, S.wArgs, S.wBody, S.wEls, S0, S.right, S.place, S.e, S.args, S.body, S.els, Rt0, Pl0, X0_sz, szs, sszs] at *; omega, (S.rE (S0_rng (by unfold I64; decide)) e1g), Does.of fun Q N T Lb b M => ?_⟩
    have e1 := e1 Q N T Lb b M
    rw [show ((3 : Nat) : Int) = 3 from rfl] at e1
    have hp := hp Q N T Lb b M
    have i0 := In.zero 5
    have i1 := i0.e e1v
    rw [S44_eq]
    simp [S44, canon_v, canon_sl, canon_clo, canon_ptr, need_refl, elems_sl, sf_v, sf_sl, sf_ptr, sf_ptrh, sf_clo, sf_dead, sf_nil, sf_full, sf_fr, need_true, ibeq, beq_ba, nbeq, nble, nblt, AM.nth, List.getD_cons_succ, List.getD_cons_zero, Option.bind_some, Option.bind_none, Option.map_some, onBool, AM.onG, onFn, seqK, retK, Ex.outOf, cond_true, cond_false, bin_lss, bin_leq, bin_gtr, bin_geq, bin_eql, bin_neq, bin_add, bin_sub, bin_mul, un_not, str_eql, str_neq, app_push, app_stk, app_tk, app_lp, load_app, load_app0, load_fp, store_app, store_app0, leave_app, leave_app0, AM.ownPut, AM.cellsOf, AM.shift, aPick, fin_v, fin_sl, beq_true, okSz, List.length_cons, List.length_nil, Nat.zero_add, Nat.add_zero, Nat.reduceAdd, decide_true, decide_false, Bool.and_true, Bool.true_and, Bool.and_self, Bool.not_true, Bool.not_false, List.getElem?_cons_zero, List.getElem?_cons_succ, List.nil_append, List.cons_append, hpp_app, hpp_stk, hpp_tk, hpp_lp, hpp_hp, app_lpadd, hload, hload0, hloadh, hstore, hstore0, hleave, hleave0, hfin_v, hfin_sl, hback, hloop, hsetlp, max_int, min_int, hstore_v, hstore_v0, hstore_s, hstore_d, modify_concat, part1, hbackt, hbackl, hback0, List.take_succ_cons, List.take_left, List.take_zero, List.take_nil, hp, e1, hw, ho, i0.z, i0.len, i0.ok, i0.fl, i0.can, i1.z, i1.len, i1.ok, i1.fl, i1.can, X.len, X.okc, Pl.len, Pl.okc, Rt.len, Rt.okc, M.own, M.own0, M.sto, M.sto0, M.fa, M.hN, M.hT, M.hL, okCells, Zc, S0_build, Zs_len, part_all]
  · -- 8
    obtain ⟨k1v, a2, k10, k11, k1⟩ := pick_ev nums hn a1 l 2 (by decide) (by decide)
    by_cases hk : k1v = 0
    · skip
      skip
      obtain ⟨n1v, a3, n1⟩ := name_ev nums hn a2 l
      refine ⟨(S0 8).wName n1v, a3, l, by omega, by simp [S.sz_eq, S.cnt_eq, cnts, S.wName, S.wRight, S.wPlace, S.wE, S.wN, S.wArgs, S.wBody, S.wEls, S0, S.right, S.place, S.e, S.args, S.body, S.els, Rt0, Pl0, X0_sz, szs, sszs] at *; omega, (S.rName (S0_rng (by unfold I64; decide)) _), Does.of fun Q N T Lb b M => ?_⟩
      have k1 := k1 Q N T Lb b M
      have n1 := n1 Q N T Lb b M
      have hp := hp Q N T Lb b M
      have i0 := In.zero 8
      have i1 := i0.name n1v
      rw [S44_eq]
      simp [S44, canon_v, canon_sl, canon_clo, canon_ptr, need_refl, elems_sl, sf_v, sf_sl, sf_ptr, sf_ptrh, sf_clo, sf_dead, sf_nil, sf_full, sf_fr, need_true, ibeq, beq_ba, nbeq, nble, nblt, AM.nth, List.getD_cons_succ, List.getD_cons_zero, Option.bind_some, Option.bind_none, Option.map_some, onBool, AM.onG, onFn, seqK, retK, Ex.outOf, cond_true, cond_false, bin_lss, bin_leq, bin_gtr, bin_geq, bin_eql, bin_neq, bin_add, bin_sub, bin_mul, un_not, str_eql, str_neq, app_push, app_stk, app_tk, app_lp, load_app, load_app0, load_fp, store_app, store_app0, leave_app, leave_app0, AM.ownPut, AM.cellsOf, AM.shift, aPick, fin_v, fin_sl, beq_true, okSz, List.length_cons, List.length_nil, Nat.zero_add, Nat.add_zero, Nat.reduceAdd, decide_true, decide_false, Bool.and_true, Bool.true_and, Bool.and_self, Bool.not_true, Bool.not_false, List.getElem?_cons_zero, List.getElem?_cons_succ, List.nil_append, List.cons_append, hpp_app, hpp_stk, hpp_tk, hpp_lp, hpp_hp, app_lpadd, hload, hload0, hloadh, hstore, hstore0, hleave, hleave0, hfin_v, hfin_sl, hback, hloop, hsetlp, max_int, min_int, hstore_v, hstore_v0, hstore_s, hstore_d, modify_concat, part1, hbackt, hbackl, hback0, List.take_succ_cons, List.take_left, List.take_zero, List.take_nil, hp, k1, n1, hw, ho, hk, i0.z, i0.len, i0.ok, i0.fl, i0.can, i1.z, i1.len, i1.ok, i1.fl, i1.can, X.len, X.okc, Pl.len, Pl.okc, Rt.len, Rt.okc, M.own, M.own0, M.sto, M.sto0, M.fa, M.hN, M.hT, M.hL, okCells, Zc, S0_build, Zs_len, part_all]
    · skip
      skip
      refine ⟨S0 8, a2, l, by omega, by simp [S.sz_eq, S.cnt_eq, cnts, S.wName, S.wRight, S.wPlace, S.wE, S.wN, S.wArgs, S.wBody, S.wEls, S0, S.right, S.place, S.e, S.args, S.body, S.els, Rt0, Pl0, X0_sz, szs, sszs] at *; omega, (S0_rng (by unfold I64; decide)), Does.of fun Q N T Lb b M => ?_⟩
      have k1 := k1 Q N T Lb b M
      have hp := hp Q N T Lb b M
      have i0 := In.zero 8
      rw [S44_eq]
      simp [S44, canon_v, canon_sl, canon_clo, canon_ptr, need_refl, elems_sl, sf_v, sf_sl, sf_ptr, sf_ptrh, sf_clo, sf_dead, sf_nil, sf_full, sf_fr, need_true, ibeq, beq_ba, nbeq, nble, nblt, AM.nth, List.getD_cons_succ, List.getD_cons_zero, Option.bind_some, Option.bind_none, Option.map_some, onBool, AM.onG, onFn, seqK, retK, Ex.outOf, cond_true, cond_false, bin_lss, bin_leq, bin_gtr, bin_geq, bin_eql, bin_neq, bin_add, bin_sub, bin_mul, un_not, str_eql, str_neq, app_push, app_stk, app_tk, app_lp, load_app, load_app0, load_fp, store_app, store_app0, leave_app, leave_app0, AM.ownPut, AM.cellsOf, AM.shift, aPick, fin_v, fin_sl, beq_true, okSz, List.length_cons, List.length_nil, Nat.zero_add, Nat.add_zero, Nat.reduceAdd, decide_true, decide_false, Bool.and_true, Bool.true_and, Bool.and_self, Bool.not_true, Bool.not_false, List.getElem?_cons_zero, List.getElem?_cons_succ, List.nil_append, List.cons_append, hpp_app, hpp_stk, hpp_tk, hpp_lp, hpp_hp, app_lpadd, hload, hload0, hloadh, hstore, hstore0, hleave, hleave0, hfin_v, hfin_sl, hback, hloop, hsetlp, max_int, min_int, hstore_v, hstore_v0, hstore_s, hstore_d, modify_concat, part1, hbackt, hbackl, hback0, List.take_succ_cons, List.take_left, List.take_zero, List.take_nil, hp, k1, hw, ho, hk, i0.z, i0.len, i0.ok, i0.fl, i0.can, X.len, X.okc, Pl.len, Pl.okc, Rt.len, Rt.okc, M.own, M.own0, M.sto, M.sto0, M.fa, M.hN, M.hT, M.hL, okCells, Zc, S0_build, Zs_len, part_all]
  · -- 9
    obtain ⟨k1v, a2, k10, k11, k1⟩ := pick_ev nums hn a1 l 2 (by decide) (by decide)
    by_cases hk : k1v = 0
    · skip
      skip
      obtain ⟨n1v, a3, n1⟩ := name_ev nums hn a2 l
      refine ⟨(S0 9).wName n1v, a3, l, by omega, by simp [S.sz_eq, S.cnt_eq, cnts, S.wName, S.wRight, S.wPlace, S.wE, S.wN, S.wArgs, S.wBody, S.wEls, S0, S.right, S.place, S.e, S.args, S.body, S.els, Rt0, Pl0, X0_sz, szs, sszs] at *; omega, (S.rName (S0_rng (by unfold I64; decide)) _), Does.of fun Q N T Lb b M => ?_⟩
      have k1 := k1 Q N T Lb b M
      have n1 := n1 Q N T Lb b M
      have hp := hp Q N T Lb b M
      have i0 := In.zero 9
      have i1 := i0.name n1v
      rw [S44_eq]
      simp [S44, canon_v, canon_sl, canon_clo, canon_ptr, need_refl, elems_sl, sf_v, sf_sl, sf_ptr, sf_ptrh, sf_clo, sf_dead, sf_nil, sf_full, sf_fr, need_true, ibeq, beq_ba, nbeq, nble, nblt, AM.nth, List.getD_cons_succ, List.getD_cons_zero, Option.bind_some, Option.bind_none, Option.map_some, onBool, AM.onG, onFn, seqK, retK, Ex.outOf, cond_true, cond_false, bin_lss, bin_leq, bin_gtr, bin_geq, bin_eql, bin_neq, bin_add, bin_sub, bin_mul, un_not, str_eql, str_neq, app_push, app_stk, app_tk, app_lp, load_app, load_app0, load_fp, store_app, store_app0, leave_app, leave_app0, AM.ownPut, AM.cellsOf, AM.shift, aPick, fin_v, fin_sl, beq_true, okSz, List.length_cons, List.length_nil, Nat.zero_add, Nat.add_zero, Nat.reduceAdd, decide_true, decide_false, Bool.and_true, Bool.true_and, Bool.and_self, Bool.not_true, Bool.not_false, List.getElem?_cons_zero, List.getElem?_cons_succ, List.nil_append, List.cons_append, hpp_app, hpp_stk, hpp_tk, hpp_lp, hpp_hp, app_lpadd, hload, hload0, hloadh, hstore, hstore0, hleave, hleave0, hfin_v, hfin_sl, hback, hloop, hsetlp, max_int, min_int, hstore_v, hstore_v0, hstore_s, hstore_d, modify_concat, part1, hbackt, hbackl, hback0, List.take_succ_cons, List.take_left, List.take_zero, List.take_nil, hp, k1, n1, hw, ho, hk, i0.z, i0.len, i0.ok, i0.fl, i0.can, i1.z, i1.len, i1.ok, i1.fl, i1.can, X.len, X.okc, Pl.len, Pl.okc, Rt.len, Rt.okc, M.own, M.own0, M.sto, M.sto0, M.fa, M.hN, M.hT, M.hL, okCells, Zc, S0_build, Zs_len, part_all]
    · skip
      skip
      refine ⟨S0 9, a2, l, by omega, by simp [S.sz_eq, S.cnt_eq, cnts, S.wName, S.wRight, S.wPlace, S.wE, S.wN, S.wArgs, S.wBody, S.wEls, S0, S.right, S.place, S.e, S.args, S.body, S.els, Rt0, Pl0, X0_sz, szs, sszs] at *; omega, (S0_rng (by unfold I64; decide)), Does.of fun Q N T Lb b M => ?_⟩
      have k1 := k1 Q N T Lb b M
      have hp := hp Q N T Lb b M
      have i0 := In.zero 9
      rw [S44_eq]
      simp [S44, canon_v, canon_sl, canon_clo, canon_ptr, need_refl, elems_sl, sf_v, sf_sl, sf_ptr, sf_ptrh, sf_clo, sf_dead, sf_nil, sf_full, sf_fr, need_true, ibeq, beq_ba, nbeq, nble, nblt, AM.nth, List.getD_cons_succ, List.getD_cons_zero, Option.bind_some, Option.bind_none, Option.map_some, onBool, AM.onG, onFn, seqK, retK, Ex.outOf, cond_true, cond_false, bin_lss, bin_leq, bin_gtr, bin_geq, bin_eql, bin_neq, bin_add, bin_sub, bin_mul, un_not, str_eql, str_neq, app_push, app_stk, app_tk, app_lp, load_app, load_app0, load_fp, store_app, store_app0, leave_app, leave_app0, AM.ownPut, AM.cellsOf, AM.shift, aPick, fin_v, fin_sl, beq_true, okSz, List.length_cons, List.length_nil, Nat.zero_add, Nat.add_zero, Nat.reduceAdd, decide_true, decide_false, Bool.and_true, Bool.true_and, Bool.and_self, Bool.not_true, Bool.not_false, List.getElem?_cons_zero, List.getElem?_cons_succ, List.nil_append, List.cons_append, hpp_app, hpp_stk, hpp_tk, hpp_lp, hpp_hp, app_lpadd, hload, hload0, hloadh, hstore, hstore0, hleave, hleave0, hfin_v, hfin_sl, hback, hloop, hsetlp, max_int, min_int, hstore_v, hstore_v0, hstore_s, hstore_d, modify_concat, part1, hbackt, hbackl, hback0, List.take_succ_cons, List.take_left, List.take_zero, List.take_nil, hp, k1, hw, ho, hk, i0.z, i0.len, i0.ok, i0.fl, i0.can, X.len, X.okc, Pl.len, Pl.okc, Rt.len, Rt.okc, M.own, M.own0, M.sto, M.sto0, M.fa, M.hN, M.hT, M.hL, okCells, Zc, S0_build, Zs_len, part_all]
  · -- 11
    obtain ⟨n1v, a2, n1⟩ := name_ev nums hn a1 l
    obtain ⟨k1v, a3, k10, k11, k1⟩ := pick_ev nums hn a2 l 3 (by decide) (by decide)
    obtain ⟨es, a4, ⟨hes, hgs, hls⟩, hloop⟩ := args_mk nums hn k1v.toNat (by omega) a3 l
    have hk : (k1v.toNat : Int) = k1v := by omega
    refine ⟨((S0 11).wName n1v).wArgs es, a4, l, by omega, by simp [S.sz_eq, S.cnt_eq, cnts, S.wName, S.wRight, S.wPlace, S.wE, S.wN, S.wArgs, S.wBody, S.wEls, S0, S.right, S.place, S.e, S.args, S.body, S.els, Rt0, Pl0, X0_sz, szs, sszs] at *; omega, S.rArgs (S.rName (S0_rng (by unfold I64; decide)) _) (by omega) hgs, Does.of fun Q N T Lb b M => ?_⟩
    have hp := hp Q N T Lb b M
    have n1 := n1 Q N T Lb b M
    have k1 := k1 Q N T Lb b M
    have i0 := In.zero 11
    have i1 := i0.name n1v
    have hpt : AM.part false 1 53 (laid (Cz 11) 1 [str n1v]) = some (.sl [] .nil) := rfl
    obtain ⟨cs, tk, i2, hl⟩ := hloop Q N T Lb b M ⟨Zs, []⟩ _ _ .nil [] i1 hpt (Own.nil ..) (by show 0 + _ ≤ _; omega)
    rw [hk] at hl
    have i2 : In cs (((S0 11).wName n1v).wArgs es) := i2
    rw [S44_eq]
    simp [S44, canon_v, canon_sl, canon_clo, canon_ptr, need_refl, elems_sl, sf_v, sf_sl, sf_ptr, sf_ptrh, sf_clo, sf_dead, sf_nil, sf_full, sf_fr, need_true, ibeq, beq_ba, nbeq, nble, nblt, AM.nth, List.getD_cons_succ, List.getD_cons_zero, Option.bind_some, Option.bind_none, Option.map_some, onBool, AM.onG, onFn, seqK, retK, Ex.outOf, cond_true, cond_false, bin_lss, bin_leq, bin_gtr, bin_geq, bin_eql, bin_neq, bin_add, bin_sub, bin_mul, un_not, str_eql, str_neq, app_push, app_stk, app_tk, app_lp, load_app, load_app0, load_fp, store_app, store_app0, leave_app, leave_app0, AM.ownPut, AM.cellsOf, AM.shift, aPick, fin_v, fin_sl, beq_true, okSz, List.length_cons, List.length_nil, Nat.zero_add, Nat.add_zero, Nat.reduceAdd, decide_true, decide_false, Bool.and_true, Bool.true_and, Bool.and_self, Bool.not_true, Bool.not_false, List.getElem?_cons_zero, List.getElem?_cons_succ, List.nil_append, List.cons_append, hpp_app, hpp_stk, hpp_tk, hpp_lp, hpp_hp, app_lpadd, hload, hload0, hloadh, hstore, hstore0, hleave, hleave0, hfin_v, hfin_sl, hback, hloop, hsetlp, max_int, min_int, hstore_v, hstore_v0, hstore_s, hstore_d, modify_concat, part1, hbackt, hbackl, hback0, List.take_succ_cons, List.take_left, List.take_zero, List.take_nil, hp, n1, k1, hw, ho, hl, i0.z, i0.len, i0.ok, i0.fl, i0.can, i1.z, i1.len, i1.ok, i1.fl, i1.can, i2.z, i2.len, i2.ok, i2.fl, i2.can, M.own, M.own0, M.sto, M.sto0, M.fa, M.hN, M.hT, M.hL, okCells, Zc, S0_build, Zs_len, part_all]
end
end Go.Proofs.Ytkbhejcfejembaa.S

/- Trees: the maker of programs: statements. Printed by mkSt.py. No condition. -/
namespace Go.Proofs.Ytkbhejcfejembaa.S
open Go Go.AM Go.Proofs
set_option linter.unusedVariables false
set_option linter.unusedSimpArgs false
set_option maxHeartbeats 8000000

section
variable (nums : List Int) (hn : nums.length ≤ 400)
include hn

theorem stmt_leaf_p (d a l : Nat) (r : Int) (a1 : Nat) (h0 : 0 ≤ r) (h1 : r < 11) (hp : Does nums 22 [int 11] a l (int r) a1 l) (o : Int) (hw : IntKind.i64.wrap (1 + r) = o) (hd : ¬ d = 0)
    (ho : o = 1 ∨ o = 2 ∨ o = 3 ∨ o = 4 ∨ o = 5 ∨ o = 8 ∨ o = 9 ∨ o = 11) : ∃ (x : S) (a' l' : Nat), l' ≤ l ∧ (x.sz ≤ 100 * x.cnt ∧ x.cnt + l' ≤ l + 1) ∧ x.rng ∧ Does nums 44 [int d] a l (.agg x.enc) a' l' := by
  rcases ho with ho | ho | ho | ho | ho | ho | ho | ho
  · -- 1
    obtain ⟨n1v, a2, n1⟩ := name_ev nums hn a1 l
    obtain ⟨r1v, a3, r1z, r1y, r1g, r1⟩ := right_mk nums hn a2 l
    refine ⟨((S0 1).wName n1v).wRight r1v, a3, l, by omega, by simp [S.sz_eq, S.cnt_eq, cnts, S.wName, S.wRight, S.wPlace, S.wE, S.wN, S.wArgs, S.wBody, S.wEls, S0, S.right, S.place, S.e, S.args, S.body, S.els, Rt0, Pl0, X0_sz, szs, sszs] at *; omega, (S.rRight (S.rName (S0_rng (by unfold I64; decide)) _) r1g), Does.of fun Q N T Lb b M => ?_⟩
    have n1 := n1 Q N T Lb b M
    have r1 := r1 Q N T Lb b M
    have hp := hp Q N T Lb b M
    have i0 := In.zero 1
    have i1 := i0.name n1v
    have i2 := i1.right r1v
    rw [S44_eq]
    simp [S44, canon_v, canon_sl, canon_clo, canon_ptr, need_refl, elems_sl, sf_v, sf_sl, sf_ptr, sf_ptrh, sf_clo, sf_dead, sf_nil, sf_full, sf_fr, need_true, ibeq, beq_ba, nbeq, nble, nblt, AM.nth, List.getD_cons_succ, List.getD_cons_zero, Option.bind_some, Option.bind_none, Option.map_some, onBool, AM.onG, onFn, seqK, retK, Ex.outOf, cond_true, cond_false, bin_lss, bin_leq, bin_gtr, bin_geq, bin_eql, bin_neq, bin_add, bin_sub, bin_mul, un_not, str_eql, str_neq, app_push, app_stk, app_tk, app_lp, load_app, load_app0, load_fp, store_app, store_app0, leave_app, leave_app0, AM.ownPut, AM.cellsOf, AM.shift, aPick, fin_v, fin_sl, beq_true, okSz, List.length_cons, List.length_nil, Nat.zero_add, Nat.add_zero, Nat.reduceAdd, decide_true, decide_false, Bool.and_true, Bool.true_and, Bool.and_self, Bool.not_true, Bool.not_false, List.getElem?_cons_zero, List.getElem?_cons_succ, List.nil_append, List.cons_append, hpp_app, hpp_stk, hpp_tk, hpp_lp, hpp_hp, app_lpadd, hload, hload0, hloadh, hstore, hstore0, hleave, hleave0, hfin_v, hfin_sl, hback, hloop, hsetlp, max_int, min_int, hstore_v, hstore_v0, hstore_s, hstore_d, modify_concat, part1, hbackt, hbackl, hback0, List.take_succ_cons, List.take_left, List.take_zero, List.take_nil, hp, n1, r1, hw, ho, i0.z, i0.len, i0.ok, i0.fl, i0.can, i1.z, i1.len, i1.ok, i1.fl, i1.can, i2.z, i2.len, i2.ok, i2.fl, i2.can, X.len, X.okc, Pl.len, Pl.okc, Rt.len, Rt.okc, hd, M.own, M.own0, M.sto, M.sto0, M.fa, M.hN, M.hT, M.hL, okCells, Zc, S0_build, Zs_len, part_all]
  · -- 2
    obtain ⟨n1v, a2, n1⟩ := name_ev nums hn a1 l
    obtain ⟨r1v, a3, r1z, r1y, r1g, r1⟩ := right_mk nums hn a2 l
    refine ⟨((S0 2).wName n1v).wRight r1v, a3, l, by omega, by simp [S.sz_eq, S.cnt_eq, cnts, S.wName, S.wRight, S.wPlace, S.wE, S.wN, S.wArgs, S.wBody, S.wEls, S0, S.right, S.place, S.e, S.args, S.body, S.els, Rt0, Pl0, X0_sz, szs, sszs] at *; omega, (S.rRight (S.rName (S0_rng (by unfold I64; decide)) _) r1g), Does.of fun Q N T Lb b M => ?_⟩
    have n1 := n1 Q N T Lb b M
    have r1 := r1 Q N T Lb b M
    have hp := hp Q N T Lb b M
    have i0 := In.zero 2
    have i1 := i0.name n1v
    have i2 := i1.right r1v
    rw [S44_eq]
    simp [S44, canon_v, canon_sl, canon_clo, canon_ptr, need_refl, elems_sl, sf_v, sf_sl, sf_ptr, sf_ptrh, sf_clo, sf_dead, sf_nil, sf_full, sf_fr, need_true, ibeq, beq_ba, nbeq, nble, nblt, AM.nth, List.getD_cons_succ, List.getD_cons_zero, Option.bind_some, Option.bind_none, Option.map_some, onBool, AM.onG, onFn, seqK, retK, Ex.outOf, cond_true, cond_false, bin_lss, bin_leq, bin_gtr, bin_geq, bin_eql, bin_neq, bin_add, bin_sub, bin_mul, un_not, str_eql, str_neq, app_push, app_stk, app_tk, app_lp, load_app, load_app0, load_fp, store_app, store_app0, leave_app, leave_app0, AM.ownPut, AM.cellsOf, AM.shift, aPick, fin_v, fin_sl, beq_true, okSz, List.length_cons, List.length_nil, Nat.zero_add, Nat.add_zero, Nat.reduceAdd, decide_true, decide_false, Bool.and_true, Bool.true_and, Bool.and_self, Bool.not_true, Bool.not_false, List.getElem?_cons_zero, List.getElem?_cons_succ, List.nil_append, List.cons_append, hpp_app, hpp_stk, hpp_tk, hpp_lp, hpp_hp, app_lpadd, hload, hload0, hloadh, hstore, hstore0, hleave, hleave0, hfin_v, hfin_sl, hback, hloop, hsetlp, max_int, min_int, hstore_v, hstore_v0, hstore_s, hstore_d, modify_concat, part1, hbackt, hbackl, hback0, List.take_succ_cons, List.take_left, List.take_zero, List.take_nil, hp, n1, r1, hw, ho, i0.z, i0.len, i0.ok, i0.fl, i0.can, i1.z, i1.len, i1.ok, i1.fl, i1.can, i2.z, i2.len, i2.ok, i2.fl, i2.can, X.len, X.okc, Pl.len, Pl.okc, Rt.len, Rt.okc, hd, M.own, M.own0, M.sto, M.sto0, M.fa, M.hN, M.hT, M.hL, okCells, Zc, S0_build, Zs_len, part_all]
  · -- 3
    obtain ⟨n1v, a2, n1⟩ := name_ev nums hn a1 l
    obtain ⟨r1v, a3, r1z, r1y, r1g, r1⟩ := right_mk nums hn a2 l
    refine ⟨((S0 3).wName n1v).wRight r1v, a3, l, by omega, by simp [S.sz_eq, S.cnt_eq, cnts, S.wName, S.wRight, S.wPlace, S.wE, S.wN, S.wArgs, S.wBody, S.wEls, S0, S.right, S.place, S.e, S.args, S.body, S.els, Rt0, Pl0, X0_sz, szs, sszs] at *; omega, (S.rRight (S.rName (S0_rng (by unfold I64; decide)) _) r1g), Does.of fun Q N T Lb b M => ?_⟩
    have n1 := n1 Q N T Lb b M
    have r1 := r1 Q N T Lb b M
    have hp := hp Q N T Lb b M
    have i0 := In.zero 3
    have i1 := i0.name n1v
    have i2 := i1.right r1v
    rw [S44_eq]
    simp [S44, canon_v, canon_sl, canon_clo, canon_ptr, need_refl, elems_sl, sf_v, sf_sl, sf_ptr, sf_ptrh, sf_clo, sf_dead, sf_nil, sf_full, sf_fr, need_true, ibeq, beq_ba, nbeq, nble, nblt, AM.nth, List.getD_cons_succ, List.getD_cons_zero, Option.bind_some, Option.bind_none, Option.map_some, onBool, AM.onG, onFn, seqK, retK, Ex.outOf, cond_true, cond_false, bin_lss, bin_leq, bin_gtr, bin_geq, bin_eql, bin_neq, bin_add, bin_sub, bin_mul, un_not, str_eql, str_neq, app_push, app_stk, app_tk, app_lp, load_app, load_app0, load_fp, store_app, store_app0, leave_app, leave_app0, AM.ownPut, AM.cellsOf, AM.shift, aPick, fin_v, fin_sl, beq_true, okSz, List.length_cons, List.length_nil, Nat.zero_add, Nat.add_zero, Nat.reduceAdd, decide_true, decide_false, Bool.and_true, Bool.true_and, Bool.and_self, Bool.not_true, Bool.not_false, List.getElem?_cons_zero, List.getElem?_cons_succ, List.nil_append, List.cons_append, hpp_app, hpp_stk, hpp_tk, hpp_lp, hpp_hp, app_lpadd, hload, hload0, hloadh, hstore, hstore0, hleave, hleave0, hfin_v, hfin_sl, hback, hloop, hsetlp, max_int, min_int, hstore_v, hstore_v0, hstore_s, hstore_d, modify_concat, part1, hbackt, hbackl, hback0, List.take_succ_cons, List.take_left, List.take_zero, List.take_nil, hp, n1, r1, hw, ho, i0.z, i0.len, i0.ok, i0.fl, i0.can, i1.z, i1.len, i1.ok, i1.fl, i1.can, i2.z, i2.len, i2.ok, i2.fl, i2.can, X.len, X.okc, Pl.len, Pl.okc, Rt.len, Rt.okc, hd, M.own, M.own0, M.sto, M.sto0, M.fa, M.hN, M.hT, M.hL, okCells, Zc, S0_build, Zs_len, part_all]
  · -- 4
    obtain ⟨p1v, a2, p1z, p1g, p1⟩ := place_mk nums hn a1 l
    obtain ⟨e1v, a3, e1z, e1g, e1⟩ := expr_mk nums hn 2 (by decide) a2 l
    refine ⟨((S0 4).wPlace p1v).wE e1v, a3, l, by omega, by simp [S.sz_eq, S.cnt_eq, cnts, S.wName, S.wRight, S.wPlace, S.wE, S.wN, S.wArgs, S.wBody, S.wEls, S0, S.right, S.place, S.e, S.args, S.body, S.els, Rt0, Pl0, X0_sz, szs, sszs] at *; omega, (S.rE (S.rPlace (S0_rng (by unfold I64; decide)) p1g) e1g), Does.of fun Q N T Lb b M => ?_⟩
    have p1 := p1 Q N T Lb b M
    have e1 := e1 Q N T Lb b M
    rw [show ((2 : Nat) : Int) = 2 from rfl] at e1
    have hp := hp Q N T Lb b M
    have i0 := In.zero 4
    have i1 := i0.place p1v
    have i2 := i1.e e1v
    rw [S44_eq]
    simp [S44, canon_v, canon_sl, canon_clo, canon_ptr, need_refl, elems_sl, sf_v, sf_sl, sf_ptr, sf_ptrh, sf_clo, sf_dead, sf_nil, sf_full, sf_fr, need_true, ibeq, beq_ba, nbeq, nble, nblt, AM.nth, List.getD_cons_succ, List.getD_cons_zero, Option.bind_some, Option.bind_none, Option.map_some, onBool, AM.onG, onFn, seqK, retK, Ex.outOf, cond_true, cond_false, bin_lss, bin_leq, bin_gtr, bin_geq, bin_eql, bin_neq, bin_add, bin_sub, bin_mul, un_not, str_eql, str_neq, app_push, app_stk, app_tk, app_lp, load_app, load_app0, load_fp, store_app, store_app0, leave_app, leave_app0, AM.ownPut, AM.cellsOf, AM.shift, aPick, fin_v, fin_sl, beq_true, okSz, List.length_cons, List.length_nil, Nat.zero_add, Nat.add_zero, Nat.reduceAdd, decide_true, decide_false, Bool.and_true, Bool.true_and, Bool.and_self, Bool.not_true, Bool.not_false, List.getElem?_cons_zero, List.getElem?_cons_succ, List.nil_append, List.cons_append, hpp_app, hpp_stk, hpp_tk, hpp_lp, hpp_hp, app_lpadd, hload, hload0, hloadh, hstore, hstore0, hleave, hleave0, hfin_v, hfin_sl, hback, hloop, hsetlp, max_int, min_int, hstore_v, hstore_v0, hstore_s, hstore_d, modify_concat, part1, hbackt, hbackl, hback0, List.take_succ_cons, List.take_left, List.take_zero, List.take_nil, hp, p1, e1, hw, ho, i0.z, i0.len, i0.ok, i0.fl, i0.can, i1.z, i1.len, i1.ok, i1.fl, i1.can, i2.z, i2.len, i2.ok, i2.fl, i2.can, X.len, X.okc, Pl.len, Pl.okc, Rt.len, Rt.okc, hd, M.own, M.own0, M.sto, M.sto0, M.fa, M.hN, M.hT, M.hL, okCells, Zc, S0_build, Zs_len, part_all]
  · -- 5
    obtain ⟨e1v, a2, e1z, e1g, e1⟩ := expr_mk nums hn 3 (by decide) a1 l
    refine ⟨(S0 5).wE e1v, a2, l, by omega, by simp [S.sz_eq, S.cnt_eq, cnts, S.wName, S.wRight, S.wPlace, S.wE, S.wN, S.wArgs, S.wBody, S.wEls, S0, S.right, S.place, S.e, S.args, S.body, S.els, Rt0, Pl0, X0_sz, szs, sszs] at *; omega, (S.rE (S0_rng (by unfold I64; decide)) e1g), Does.of fun Q N T Lb b M => ?_⟩
    have e1 := e1 Q N T Lb b M
    rw [show ((3 : Nat) : Int) = 3 from rfl] at e1
    have hp := hp Q N T Lb b M
    have i0 := In.zero 5
    have i1 := i0.e e1v
    rw [S44_eq]
    simp [S44, canon_v, canon_sl, canon_clo, canon_ptr, need_refl, elems_sl, sf_v, sf_sl, sf_ptr, sf_ptrh, sf_clo, sf_dead, sf_nil, sf_full, sf_fr, need_true, ibeq, beq_ba, nbeq, nble, nblt, AM.nth, List.getD_cons_succ, List.getD_cons_zero, Option.bind_some, Option.bind_none, Option.map_some, onBool, AM.onG, onFn, seqK, retK, Ex.outOf, cond_true, cond_false, bin_lss, bin_leq, bin_gtr, bin_geq, bin_eql, bin_neq, bin_add, bin_sub, bin_mul, un_not, str_eql, str_neq, app_push, app_stk, app_tk, app_lp, load_app, load_app0, load_fp, store_app, store_app0, leave_app, leave_app0, AM.ownPut, AM.cellsOf, AM.shift, aPick, fin_v, fin_sl, beq_true, okSz, List.length_cons, List.length_nil, Nat.zero_add, Nat.add_zero, Nat.reduceAdd, decide_true, decide_false, Bool.and_true, Bool.true_and, Bool.and_self, Bool.not_true, Bool.not_false, List.getElem?_cons_zero, List.getElem?_cons_succ, List.nil_append, List.cons_append, hpp_app, hpp_stk, hpp_tk, hpp_lp, hpp_hp, app_lpadd, hload, hload0, hloadh, hstore, hstore0, hleave, hleave0, hfin_v, hfin_sl, hback, hloop, hsetlp, max_int, min_int, hstore_v, hstore_v0, hstore_s, hstore_d, modify_concat, part1, hbackt, hbackl, hback0, List.take_succ_cons, List.take_left, List.take_zero, List.take_nil, hp, e1, hw, ho, i0.z, i0.len, i0.ok, i0.fl, i0.can, i1.z, i1.len, i1.ok, i1.fl, i1.can, X.len, X.okc, Pl.len, Pl.okc, Rt.len, Rt.okc, hd, M.own, M.own0, M.sto, M.sto0, M.fa, M.hN, M.hT, M.hL, okCells, Zc, S0_build, Zs_len, part_all]
  · -- 8
    obtain ⟨k1v, a2, k10, k11, k1⟩ := pick_ev nums hn a1 l 2 (by decide) (by decide)
    by_cases hk : k1v = 0
    · skip
      skip
      obtain ⟨n1v, a3, n1⟩ := name_ev nums hn a2 l
      refine ⟨(S0 8).wName n1v, a3, l, by omega, by simp [S.sz_eq, S.cnt_eq, cnts, S.wName, S.wRight, S.wPlace, S.wE, S.wN, S.wArgs, S.wBody, S.wEls, S0, S.right, S.place, S.e, S.args, S.body, S.els, Rt0, Pl0, X0_sz, szs, sszs] at *; omega, (S.rName (S0_rng (by unfold I64; decide)) _), Does.of fun Q N T Lb b M => ?_⟩
      have k1 := k1 Q N T Lb b M
      have n1 := n1 Q N T Lb b M
      have hp := hp Q N T Lb b M
      have i0 := In.zero 8
      have i1 := i0.name n1v
      rw [S44_eq]
      simp [S44, canon_v, canon_sl, canon_clo, canon_ptr, need_refl, elems_sl, sf_v, sf_sl, sf_ptr, sf_ptrh, sf_clo, sf_dead, sf_nil, sf_full, sf_fr, need_true, ibeq, beq_ba, nbeq, nble, nblt, AM.nth, List.getD_cons_succ, List.getD_cons_zero, Option.bind_some, Option.bind_none, Option.map_some, onBool, AM.onG, onFn, seqK, retK, Ex.outOf, cond_true, cond_false, bin_lss, bin_leq, bin_gtr, bin_geq, bin_eql, bin_neq, bin_add, bin_sub, bin_mul, un_not, str_eql, str_neq, app_push, app_stk, app_tk, app_lp, load_app, load_app0, load_fp, store_app, store_app0, leave_app, leave_app0, AM.ownPut, AM.cellsOf, AM.shift, aPick, fin_v, fin_sl, beq_true, okSz, List.length_cons, List.length_nil, Nat.zero_add, Nat.add_zero, Nat.reduceAdd, decide_true, decide_false, Bool.and_true, Bool.true_and, Bool.and_self, Bool.not_true, Bool.not_false, List.getElem?_cons_zero, List.getElem?_cons_succ, List.nil_append, List.cons_append, hpp_app, hpp_stk, hpp_tk, hpp_lp, hpp_hp, app_lpadd, hload, hload0, hloadh, hstore, hstore0, hleave, hleave0, hfin_v, hfin_sl, hback, hloop, hsetlp, max_int, min_int, hstore_v, hstore_v0, hstore_s, hstore_d, modify_concat, part1, hbackt, hbackl, hback0, List.take_succ_cons, List.take_left, List.take_zero, List.take_nil, hp, k1, n1, hw, ho, hk, i0.z, i0.len, i0.ok, i0.fl, i0.can, i1.z, i1.len, i1.ok, i1.fl, i1.can, X.len, X.okc, Pl.len, Pl.okc, Rt.len, Rt.okc, hd, M.own, M.own0, M.sto, M.sto0, M.fa, M.hN, M.hT, M.hL, okCells, Zc, S0_build, Zs_len, part_all]
    · skip
      skip
      refine ⟨S0 8, a2, l, by omega, by simp [S.sz_eq, S.cnt_eq, cnts, S.wName, S.wRight, S.wPlace, S.wE, S.wN, S.wArgs, S.wBody, S.wEls, S0, S.right, S.place, S.e, S.args, S.body, S.els, Rt0, Pl0, X0_sz, szs, sszs] at *; omega, (S0_rng (by unfold I64; decide)), Does.of fun Q N T Lb b M => ?_⟩
      have k1 := k1 Q N T Lb b M
      have hp := hp Q N T Lb b M
      have i0 := In.zero 8
      rw [S44_eq]
      simp [S44, canon_v, canon_sl, canon_clo, canon_ptr, need_refl, elems_sl, sf_v, sf_sl, sf_ptr, sf_ptrh, sf_clo, sf_dead, sf_nil, sf_full, sf_fr, need_true, ibeq, beq_ba, nbeq, nble, nblt, AM.nth, List.getD_cons_succ, List.getD_cons_zero, Option.bind_some, Option.bind_none, Option.map_some, onBool, AM.onG, onFn, seqK, retK, Ex.outOf, cond_true, cond_false, bin_lss, bin_leq, bin_gtr, bin_geq, bin_eql, bin_neq, bin_add, bin_sub, bin_mul, un_not, str_eql, str_neq, app_push, app_stk, app_tk, app_lp, load_app, load_app0, load_fp, store_app, store_app0, leave_app, leave_app0, AM.ownPut, AM.cellsOf, AM.shift, aPick, fin_v, fin_sl, beq_true, okSz, List.length_cons, List.length_nil, Nat.zero_add, Nat.add_zero, Nat.reduceAdd, decide_true, decide_false, Bool.and_true, Bool.true_and, Bool.and_self, Bool.not_true, Bool.not_false, List.getElem?_cons_zero, List.getElem?_cons_succ, List.nil_append, List.cons_append, hpp_app, hpp_stk, hpp_tk, hpp_lp, hpp_hp, app_lpadd, hload, hload0, hloadh, hstore, hstore0, hleave, hleave0, hfin_v, hfin_sl, hback, hloop, hsetlp, max_int, min_int, hstore_v, hstore_v0, hstore_s, hstore_d, modify_concat, part1, hbackt, hbackl, hback0, List.take_succ_cons, List.take_left, List.take_zero, List.take_nil, hp, k1, hw, ho, hk, i0.z, i0.len, i0.ok, i0.fl, i0.can, X.len, X.okc, Pl.len, Pl.okc, Rt.len, Rt.okc, hd, M.own, M.own0, M.sto, M.sto0, M.fa, M.hN, M.hT, M.hL, okCells, Zc, S0_build, Zs_len, part_all]
  · -- 9
    obtain ⟨k1v, a2, k10, k11, k1⟩ := pick_ev nums hn a1 l 2 (by decide) (by decide)
    by_cases hk : k1v = 0
    · skip
      skip
      obtain ⟨n1v, a3, n1⟩ := name_ev nums hn a2 l
      refine ⟨(S0 9).wName n1v, a3, l, by omega, by simp [S.sz_eq, S.cnt_eq, cnts, S.wName, S.wRight, S.wPlace, S.wE, S.wN, S.wArgs, S.wBody, S.wEls, S0, S.right, S.place, S.e, S.args, S.body, S.els, Rt0, Pl0, X0_sz, szs, sszs] at *; omega, (S.rName (S0_rng (by unfold I64; decide)) _), Does.of fun Q N T Lb b M => ?_⟩
      have k1 := k1 Q N T Lb b M
      have n1 := n1 Q N T Lb b M
      have hp := hp Q N T Lb b M
      have i0 := In.zero 9
      have i1 := i0.name n1v
      rw [S44_eq]
      simp [S44, canon_v, canon_sl, canon_clo, canon_ptr, need_refl, elems_sl, sf_v, sf_sl, sf_ptr, sf_ptrh, sf_clo, sf_dead, sf_nil, sf_full, sf_fr, need_true, ibeq, beq_ba, nbeq, nble, nblt, AM.nth, List.getD_cons_succ, List.getD_cons_zero, Option.bind_some, Option.bind_none, Option.map_some, onBool, AM.onG, onFn, seqK, retK, Ex.outOf, cond_true, cond_false, bin_lss, bin_leq, bin_gtr, bin_geq, bin_eql, bin_neq, bin_add, bin_sub, bin_mul, un_not, str_eql, str_neq, app_push, app_stk, app_tk, app_lp, load_app, load_app0, load_fp, store_app, store_app0, leave_app, leave_app0, AM.ownPut, AM.cellsOf, AM.shift, aPick, fin_v, fin_sl, beq_true, okSz, List.length_cons, List.length_nil, Nat.zero_add, Nat.add_zero, Nat.reduceAdd, decide_true, decide_false, Bool.and_true, Bool.true_and, Bool.and_self, Bool.not_true, Bool.not_false, List.getElem?_cons_zero, List.getElem?_cons_succ, List.nil_append, List.cons_append, hpp_app, hpp_stk, hpp_tk, hpp_lp, hpp_hp, app_lpadd, hload, hload0, hloadh, hstore, hstore0, hleave, hleave0, hfin_v, hfin_sl, hback, hloop, hsetlp, max_int, min_int, hstore_v, hstore_v0, hstore_s, hstore_d, modify_concat, part1, hbackt, hbackl, hback0, List.take_succ_cons, List.take_left, List.take_zero, List.take_nil, hp, k1, n1, hw, ho, hk, i0.z, i0.len, i0.ok, i0.fl, i0.can, i1.z, i1.len, i1.ok, i1.fl, i1.can, X.len, X.okc, Pl.len, Pl.okc, Rt.len, Rt.okc, hd, M.own, M.own0, M.sto, M.sto0, M.fa, M.hN, M.hT, M.hL, okCells, Zc, S0_build, Zs_len, part_all]
    · skip
      skip
      refine ⟨S0 9, a2, l, by omega, by simp [S.sz_eq, S.cnt_eq, cnts, S.wName, S.wRight, S.wPlace, S.wE, S.wN, S.wArgs, S.wBody, S.wEls, S0, S.right, S.place, S.e, S.args, S.body, S.els, Rt0, Pl0, X0_sz, szs, sszs] at *; omega, (S0_rng (by unfold I64; decide)), Does.of fun Q N T Lb b M => ?_⟩
      have k1 := k1 Q N T Lb b M
      have hp := hp Q N T Lb b M
      have i0 := In.zero 9
      rw [S44_eq]
      simp [S44, canon_v, canon_sl, canon_clo, canon_ptr, need_refl, elems_sl, sf_v, sf_sl, sf_ptr, sf_ptrh, sf_clo, sf_dead, sf_nil, sf_full, sf_fr, need_true, ibeq, beq_ba, nbeq, nble, nblt, AM.nth, List.getD_cons_succ, List.getD_cons_zero, Option.bind_some, Option.bind_none, Option.map_some, onBool, AM.onG, onFn, seqK, retK, Ex.outOf, cond_true, cond_false, bin_lss, bin_leq, bin_gtr, bin_geq, bin_eql, bin_neq, bin_add, bin_sub, bin_mul, un_not, str_eql, str_neq, app_push, app_stk, app_tk, app_lp, load_app, load_app0, load_fp, store_app, store_app0, leave_app, leave_app0, AM.ownPut, AM.cellsOf, AM.shift, aPick, fin_v, fin_sl, beq_true, okSz, List.length_cons, List.length_nil, Nat.zero_add, Nat.add_zero, Nat.reduceAdd, decide_true, decide_false, Bool.and_true, Bool.true_and, Bool.and_self, Bool.not_true, Bool.not_false, List.getElem?_cons_zero, List.getElem?_cons_succ, List.nil_append, List.cons_append, hpp_app, hpp_stk, hpp_tk, hpp_lp, hpp_hp, app_lpadd, hload, hload0, hloadh, hstore, hstore0, hleave, hleave0, hfin_v, hfin_sl, hback, hloop, hsetlp, max_int, min_int, hstore_v, hstore_v0, hstore_s, hstore_d, modify_concat, part1, hbackt, hbackl, hback0, List.take_succ_cons, List.take_left, List.take_zero, List.take_nil, hp, k1, hw, ho, hk, i0.z, i0.len, i0.ok, i0.fl, i0.can, X.len, X.okc, Pl.len, Pl.okc, Rt.len, Rt.okc, hd, M.own, M.own0, M.sto, M.sto0, M.fa, M.hN, M.hT, M.hL, okCells, Zc, S0_build, Zs_len, part_all]
  · -- 11
    obtain ⟨n1v, a2, n1⟩ := name_ev nums hn a1 l
    obtain ⟨k1v, a3, k10, k11, k1⟩ := pick_ev nums hn a2 l 3 (by decide) (by decide)
    obtain ⟨es, a4, ⟨hes, hgs, hls⟩, hloop⟩ := args_mk nums hn k1v.toNat (by omega) a3 l
    have hk : (k1v.toNat : Int) = k1v := by omega
    refine ⟨((S0 11).wName n1v).wArgs es, a4, l, by omega, by simp [S.sz_eq, S.cnt_eq, cnts, S.wName, S.wRight, S.wPlace, S.wE, S.wN, S.wArgs, S.wBody, S.wEls, S0, S.right, S.place, S.e, S.args, S.body, S.els, Rt0, Pl0, X0_sz, szs, sszs] at *; omega, S.rArgs (S.rName (S0_rng (by unfold I64; decide)) _) (by omega) hgs, Does.of fun Q N T Lb b M => ?_⟩
    have hp := hp Q N T Lb b M
    have n1 := n1 Q N T Lb b M
    have k1 := k1 Q N T Lb b M
    have i0 := In.zero 11
    have i1 := i0.name n1v
    have hpt : AM.part false 1 53 (laid (Cz 11) 1 [str n1v]) = some (.sl [] .nil) := rfl
    obtain ⟨cs, tk, i2, hl⟩ := hloop Q N T Lb b M ⟨Zs, []⟩ _ _ .nil [] i1 hpt (Own.nil ..) (by show 0 + _ ≤ _; omega)
    rw [hk] at hl
    have i2 : In cs (((S0 11).wName n1v).wArgs es) := i2
    rw [S44_eq]
    simp [S44, canon_v, canon_sl, canon_clo, canon_ptr, need_refl, elems_sl, sf_v, sf_sl, sf_ptr, sf_ptrh, sf_clo, sf_dead, sf_nil, sf_full, sf_fr, need_true, ibeq, beq_ba, nbeq, nble, nblt, AM.nth, List.getD_cons_succ, List.getD_cons_zero, Option.bind_some, Option.bind_none, Option.map_some, onBool, AM.onG, onFn, seqK, retK, Ex.outOf, cond_true, cond_false, bin_lss, bin_leq, bin_gtr, bin_geq, bin_eql, bin_neq, bin_add, bin_sub, bin_mul, un_not, str_eql, str_neq, app_push, app_stk, app_tk, app_lp, load_app, load_app0, load_fp, store_app, store_app0, leave_app, leave_app0, AM.ownPut, AM.cellsOf, AM.shift, aPick, fin_v, fin_sl, beq_true, okSz, List.length_cons, List.length_nil, Nat.zero_add, Nat.add_zero, Nat.reduceAdd, decide_true, decide_false, Bool.and_true, Bool.true_and, Bool.and_self, Bool.not_true, Bool.not_false, List.getElem?_cons_zero, List.getElem?_cons_succ, List.nil_append, List.cons_append, hpp_app, hpp_stk, hpp_tk, hpp_lp, hpp_hp, app_lpadd, hload, hload0, hloadh, hstore, hstore0, hleave, hleave0, hfin_v, hfin_sl, hback, hloop, hsetlp, max_int, min_int, hstore_v, hstore_v0, hstore_s, hstore_d, modify_concat, part1, hbackt, hbackl, hback0, List.take_succ_cons, List.take_left, List.take_zero, List.take_nil, hp, n1, k1, hw, ho, hl, i0.z, i0.len, i0.ok, i0.fl, i0.can, i1.z, i1.len, i1.ok, i1.fl, i1.can, i2.z, i2.len, i2.ok, i2.fl, i2.can, hd, M.own, M.own0, M.sto, M.sto0, M.fa, M.hN, M.hT, M.hL, okCells, Zc, S0_build, Zs_len, part_all]
end
end Go.Proofs.Ytkbhejcfejembaa.S

/- Trees: the maker of programs: statements. Printed by mkSt.py. No condition. -/
namespace Go.Proofs.Ytkbhejcfejembaa.S
open Go Go.AM Go.Proofs
set_option linter.unusedVariables false
set_option linter.unusedSimpArgs false
set_option maxHeartbeats 8000000

section
variable (nums : List Int) (hn : nums.length ≤ 400)
include hn

theorem stmt_zero (a l : Nat) : ∃ (x : S) (a' l' : Nat), l' ≤ l ∧ (x.sz ≤ 100 * x.cnt ∧ x.cnt + l' ≤ l + 1) ∧ x.rng ∧ Does nums 44 [int 0] a l (.agg x.enc) a' l' := by
  obtain ⟨r, a1, h0, h1, hp⟩ := pick_ev nums hn a l 11 (by decide) (by decide)
  obtain ⟨o, ho⟩ : ∃ o, o = 1 + r := ⟨_, rfl⟩
  have hw : IntKind.i64.wrap (1 + r) = o := by rw [ho]; exact IntWalk.i64_in _ (by omega)
  by_cases h5 : o = 6 ∨ o = 7 ∨ o = 10
  · obtain ⟨e1v, a2, e1z, e1g, e1⟩ := expr_mk nums hn 3 (by decide) a1 l
    refine ⟨(S0 5).wE e1v, a2, l, by omega, by simp [S.sz_eq, S.cnt_eq, cnts, S.wName, S.wRight, S.wPlace, S.wE, S.wN, S.wArgs, S.wBody, S.wEls, S0, S.right, S.place, S.e, S.args, S.body, S.els, Rt0, Pl0, X0_sz, szs, sszs] at *; omega, S.rE (S0_rng (by unfold I64; decide)) e1g, Does.of fun Q N T Lb b M => ?_⟩
    have e1 := e1 Q N T Lb b M
    rw [show ((3 : Nat) : Int) = 3 from rfl] at e1
    have hp := hp Q N T Lb b M
    have i0 := In.zero 5
    have i1 := i0.e e1v
    clear ho
    rw [S44_eq]
    rcases h5 with h5 | h5 | h5 <;> simp [S44, canon_v, canon_sl, canon_clo, canon_ptr, need_refl, elems_sl, sf_v, sf_sl, sf_ptr, sf_ptrh, sf_clo, sf_dead, sf_nil, sf_full, sf_fr, need_true, ibeq, beq_ba, nbeq, nble, nblt, AM.nth, List.getD_cons_succ, List.getD_cons_zero, Option.bind_some, Option.bind_none, Option.map_some, onBool, AM.onG, onFn, seqK, retK, Ex.outOf, cond_true, cond_false, bin_lss, bin_leq, bin_gtr, bin_geq, bin_eql, bin_neq, bin_add, bin_sub, bin_mul, un_not, str_eql, str_neq, app_push, app_stk, app_tk, app_lp, load_app, load_app0, load_fp, store_app, store_app0, leave_app, leave_app0, AM.ownPut, AM.cellsOf, AM.shift, aPick, fin_v, fin_sl, beq_true, okSz, List.length_cons, List.length_nil, Nat.zero_add, Nat.add_zero, Nat.reduceAdd, decide_true, decide_false, Bool.and_true, Bool.true_and, Bool.and_self, Bool.not_true, Bool.not_false, List.getElem?_cons_zero, List.getElem?_cons_succ, List.nil_append, List.cons_append, hpp_app, hpp_stk, hpp_tk, hpp_lp, hpp_hp, app_lpadd, hload, hload0, hloadh, hstore, hstore0, hleave, hleave0, hfin_v, hfin_sl, hback, hloop, hsetlp, max_int, min_int, hstore_v, hstore_v0, hstore_s, hstore_d, modify_concat, part1, hbackt, hbackl, hback0, List.take_succ_cons, List.take_left, List.take_zero, List.take_nil, hp, e1, hw, h5, i0.z, i0.len, i0.ok, i0.fl, i0.can, i1.z, i1.len, i1.ok, i1.fl, i1.can, X.len, X.okc, M.own, M.own0, M.sto, M.sto0, M.fa, M.hN, M.hT, M.hL, okCells, Zc, S0_build, Zs_len, part_all]
  · exact stmt_leaf_z nums hn 0 a l r a1 h0 h1 hp o hw rfl (by omega)
def RowOk (nums : List Int) (d : Nat) : Prop := ∀ a l : Nat, l ≤ 1000 → ∃ (xs : List S) (a' l' : Nat), l' ≤ l ∧ (sszs xs ≤ 100 * cnts xs ∧ cnts xs + l' ≤ l) ∧ (xs.length ≤ 1000000 ∧ srngs xs) ∧ Does nums 25 [int d] a l (.sl (sencs xs) .dead) a' l'
theorem stmt_succ (d0 : Nat) (hd10 : d0 ≤ 10) (hrow : RowOk nums d0) (a l : Nat) (hll : l ≤ 1000) : ∃ (x : S) (a' l' : Nat), l' ≤ l ∧ (x.sz ≤ 100 * x.cnt ∧ x.cnt + l' ≤ l + 1) ∧ x.rng ∧ Does nums 44 [int (d0 + 1 : Nat)] a l (.agg x.enc) a' l' := by
  obtain ⟨r, a1, h0, h1, hp⟩ := pick_ev nums hn a l 11 (by decide) (by decide)
  obtain ⟨o, ho⟩ : ∃ o, o = 1 + r := ⟨_, rfl⟩
  have hw : IntKind.i64.wrap (1 + r) = o := by rw [ho]; exact IntWalk.i64_in _ (by omega)
  by_cases hl : o = 1 ∨ o = 2 ∨ o = 3 ∨ o = 4 ∨ o = 5 ∨ o = 8 ∨ o = 9 ∨ o = 11
  · exact stmt_leaf_p nums hn (d0 + 1) a l r a1 h0 h1 hp o hw (by omega) hl
  have hd : ¬ ((d0 + 1 : Nat) : Int) = 0 := by omega
  have hm : IntKind.i64.wrap (((d0 + 1 : Nat) : Int) - 1) = (d0 : Int) := by rw [IntWalk.i64_in _ (by omega)]; omega
  generalize ((d0 + 1 : Nat) : Int) = d at hd hm ⊢
  have ho3 : o = 6 ∨ o = 7 ∨ o = 10 := by omega
  clear ho hl
  rcases ho3 with ho | ho | ho
  · -- 6
    obtain ⟨e1v, a2, e1z, e1g, e1⟩ := expr_mk nums hn 2 (by decide) a1 l
    obtain ⟨w1v, a3, l1, w1l, w1z, w1g, w1⟩ := hrow a2 l (by omega)
    obtain ⟨k1v, a4, k10, k11, k1⟩ := pick_ev nums hn a3 l1 2 (by decide) (by decide)
    by_cases hk : k1v = 0
    · skip
      skip
      skip
      skip
      obtain ⟨w2v, a5, l2, w2l, w2z, w2g, w2⟩ := hrow a4 l1 (by omega)
      refine ⟨(((S0 6).wE e1v).wBody w1v).wEls w2v, a5, l2, by omega, by simp [S.sz_eq, S.cnt_eq, cnts, S.wName, S.wRight, S.wPlace, S.wE, S.wN, S.wArgs, S.wBody, S.wEls, S0, S.right, S.place, S.e, S.args, S.body, S.els, Rt0, Pl0, X0_sz, szs, sszs] at *; omega, (S.rEls (S.rBody (S.rE (S0_rng (by unfold I64; decide)) e1g) w1g) w2g), Does.of fun Q N T Lb b M => ?_⟩
      have e1 := e1 Q N T Lb b M
      rw [show ((2 : Nat) : Int) = 2 from rfl] at e1
      have w1 := w1 Q N T Lb b M
      have k1 := k1 Q N T Lb b M
      have w2 := w2 Q N T Lb b M
      have hp := hp Q N T Lb b M
      have i0 := In.zero 6
      have i1 := i0.e e1v
      have i2 := i1.body w1v .dead
      have i3 := i2.els w2v .dead
      rw [S44_eq]
      simp [S44, canon_v, canon_sl, canon_clo, canon_ptr, need_refl, elems_sl, sf_v, sf_sl, sf_ptr, sf_ptrh, sf_clo, sf_dead, sf_nil, sf_full, sf_fr, need_true, ibeq, beq_ba, nbeq, nble, nblt, AM.nth, List.getD_cons_succ, List.getD_cons_zero, Option.bind_some, Option.bind_none, Option.map_some, onBool, AM.onG, onFn, seqK, retK, Ex.outOf, cond_true, cond_false, bin_lss, bin_leq, bin_gtr, bin_geq, bin_eql, bin_neq, bin_add, bin_sub, bin_mul, un_not, str_eql, str_neq, app_push, app_stk, app_tk, app_lp, load_app, load_app0, load_fp, store_app, store_app0, leave_app, leave_app0, AM.ownPut, AM.cellsOf, AM.shift, aPick, fin_v, fin_sl, beq_true, okSz, List.length_cons, List.length_nil, Nat.zero_add, Nat.add_zero, Nat.reduceAdd, decide_true, decide_false, Bool.and_true, Bool.true_and, Bool.and_self, Bool.not_true, Bool.not_false, List.getElem?_cons_zero, List.getElem?_cons_succ, List.nil_append, List.cons_append, hpp_app, hpp_stk, hpp_tk, hpp_lp, hpp_hp, app_lpadd, hload, hload0, hloadh, hstore, hstore0, hleave, hleave0, hfin_v, hfin_sl, hback, hloop, hsetlp, max_int, min_int, hstore_v, hstore_v0, hstore_s, hstore_d, modify_concat, part1, hbackt, hbackl, hback0, List.take_succ_cons, List.take_left, List.take_zero, List.take_nil, hp, e1, w1, k1, w2, hw, ho, hk, i0.z, i0.len, i0.ok, i0.fl, i0.can, i1.z, i1.len, i1.ok, i1.fl, i1.can, i2.z, i2.len, i2.ok, i2.fl, i2.can, i3.z, i3.len, i3.ok, i3.fl, i3.can, X.len, X.okc, Pl.len, Pl.okc, Rt.len, Rt.okc, hd, hm, M.own, M.own0, M.sto, M.sto0, M.fa, M.hN, M.hT, M.hL, okCells, Zc, S0_build, Zs_len, part_all]
    · skip
      skip
      skip
      skip
      refine ⟨((S0 6).wE e1v).wBody w1v, a4, l1, by omega, by simp [S.sz_eq, S.cnt_eq, cnts, S.wName, S.wRight, S.wPlace, S.wE, S.wN, S.wArgs, S.wBody, S.wEls, S0, S.right, S.place, S.e, S.args, S.body, S.els, Rt0, Pl0, X0_sz, szs, sszs] at *; omega, (S.rBody (S.rE (S0_rng (by unfold I64; decide)) e1g) w1g), Does.of fun Q N T Lb b M => ?_⟩
      have e1 := e1 Q N T Lb b M
      rw [show ((2 : Nat) : Int) = 2 from rfl] at e1
      have w1 := w1 Q N T Lb b M
      have k1 := k1 Q N T Lb b M
      have hp := hp Q N T Lb b M
      have i0 := In.zero 6
      have i1 := i0.e e1v
      have i2 := i1.body w1v .dead
      rw [S44_eq]
      simp [S44, canon_v, canon_sl, canon_clo, canon_ptr, need_refl, elems_sl, sf_v, sf_sl, sf_ptr, sf_ptrh, sf_clo, sf_dead, sf_nil, sf_full, sf_fr, need_true, ibeq, beq_ba, nbeq, nble, nblt, AM.nth, List.getD_cons_succ, List.getD_cons_zero, Option.bind_some, Option.bind_none, Option.map_some, onBool, AM.onG, onFn, seqK, retK, Ex.outOf, cond_true, cond_false, bin_lss, bin_leq, bin_gtr, bin_geq, bin_eql, bin_neq, bin_add, bin_sub, bin_mul, un_not, str_eql, str_neq, app_push, app_stk, app_tk, app_lp, load_app, load_app0, load_fp, store_app, store_app0, leave_app, leave_app0, AM.ownPut, AM.cellsOf, AM.shift, aPick, fin_v, fin_sl, beq_true, okSz, List.length_cons, List.length_nil, Nat.zero_add, Nat.add_zero, Nat.reduceAdd, decide_true, decide_false, Bool.and_true, Bool.true_and, Bool.and_self, Bool.not_true, Bool.not_false, List.getElem?_cons_zero, List.getElem?_cons_succ, List.nil_append, List.cons_append, hpp_app, hpp_stk, hpp_tk, hpp_lp, hpp_hp, app_lpadd, hload, hload0, hloadh, hstore, hstore0, hleave, hleave0, hfin_v, hfin_sl, hback, hloop, hsetlp, max_int, min_int, hstore_v, hstore_v0, hstore_s, hstore_d, modify_concat, part1, hbackt, hbackl, hback0, List.take_succ_cons, List.take_left, List.take_zero, List.take_nil, hp, e1, w1, k1, hw, ho, hk, i0.z, i0.len, i0.ok, i0.fl, i0.can, i1.z, i1.len, i1.ok, i1.fl, i1.can, i2.z, i2.len, i2.ok, i2.fl, i2.can, X.len, X.okc, Pl.len, Pl.okc, Rt.len, Rt.okc, hd, hm, M.own, M.own0, M.sto, M.sto0, M.fa, M.hN, M.hT, M.hL, okCells, Zc, S0_build, Zs_len, part_all]
  · -- 7
    obtain ⟨k1v, a2, k10, k11, k1⟩ := pick_ev nums hn a1 l 2 (by decide) (by decide)
    by_cases hk : k1v = 0
    · skip
      skip
      obtain ⟨n1v, a3, n1⟩ := name_ev nums hn a2 l
      obtain ⟨k2v, a4, k20, k21, k2⟩ := pick_ev nums hn a3 l 9 (by decide) (by decide)
      obtain ⟨w1v, a5, l1, w1l, w1z, w1g, w1⟩ := hrow a4 l (by omega)
      refine ⟨(((S0 7).wName n1v).wN k2v).wBody w1v, a5, l1, by omega, by simp [S.sz_eq, S.cnt_eq, cnts, S.wName, S.wRight, S.wPlace, S.wE, S.wN, S.wArgs, S.wBody, S.wEls, S0, S.right, S.place, S.e, S.args, S.body, S.els, Rt0, Pl0, X0_sz, szs, sszs] at *; omega, (S.rBody (S.rN (S.rName (S0_rng (by unfold I64; decide)) _) (i64s (by omega))) w1g), Does.of fun Q N T Lb b M => ?_⟩
      have k1 := k1 Q N T Lb b M
      have n1 := n1 Q N T Lb b M
      have k2 := k2 Q N T Lb b M
      have w1 := w1 Q N T Lb b M
      have hp := hp Q N T Lb b M
      have i0 := In.zero 7
      have i1 := i0.name n1v
      have i2 := i1.n k2v
      have i3 := i2.body w1v .dead
      rw [S44_eq]
      simp [S44, canon_v, canon_sl, canon_clo, canon_ptr, need_refl, elems_sl, sf_v, sf_sl, sf_ptr, sf_ptrh, sf_clo, sf_dead, sf_nil, sf_full, sf_fr, need_true, ibeq, beq_ba, nbeq, nble, nblt, AM.nth, List.getD_cons_succ, List.getD_cons_zero, Option.bind_some, Option.bind_none, Option.map_some, onBool, AM.onG, onFn, seqK, retK, Ex.outOf, cond_true, cond_false, bin_lss, bin_leq, bin_gtr, bin_geq, bin_eql, bin_neq, bin_add, bin_sub, bin_mul, un_not, str_eql, str_neq, app_push, app_stk, app_tk, app_lp, load_app, load_app0, load_fp, store_app, store_app0, leave_app, leave_app0, AM.ownPut, AM.cellsOf, AM.shift, aPick, fin_v, fin_sl, beq_true, okSz, List.length_cons, List.length_nil, Nat.zero_add, Nat.add_zero, Nat.reduceAdd, decide_true, decide_false, Bool.and_true, Bool.true_and, Bool.and_self, Bool.not_true, Bool.not_false, List.getElem?_cons_zero, List.getElem?_cons_succ, List.nil_append, List.cons_append, hpp_app, hpp_stk, hpp_tk, hpp_lp, hpp_hp, app_lpadd, hload, hload0, hloadh, hstore, hstore0, hleave, hleave0, hfin_v, hfin_sl, hback, hloop, hsetlp, max_int, min_int, hstore_v, hstore_v0, hstore_s, hstore_d, modify_concat, part1, hbackt, hbackl, hback0, List.take_succ_cons, List.take_left, List.take_zero, List.take_nil, hp, k1, n1, k2, w1, hw, ho, hk, i0.z, i0.len, i0.ok, i0.fl, i0.can, i1.z, i1.len, i1.ok, i1.fl, i1.can, i2.z, i2.len, i2.ok, i2.fl, i2.can, i3.z, i3.len, i3.ok, i3.fl, i3.can, X.len, X.okc, Pl.len, Pl.okc, Rt.len, Rt.okc, hd, hm, M.own, M.own0, M.sto, M.sto0, M.fa, M.hN, M.hT, M.hL, okCells, Zc, S0_build, Zs_len, part_all]
    · skip
      skip
      obtain ⟨k2v, a3, k20, k21, k2⟩ := pick_ev nums hn a2 l 9 (by decide) (by decide)
      obtain ⟨w1v, a4, l1, w1l, w1z, w1g, w1⟩ := hrow a3 l (by omega)
      refine ⟨((S0 7).wN k2v).wBody w1v, a4, l1, by omega, by simp [S.sz_eq, S.cnt_eq, cnts, S.wName, S.wRight, S.wPlace, S.wE, S.wN, S.wArgs, S.wBody, S.wEls, S0, S.right, S.place, S.e, S.args, S.body, S.els, Rt0, Pl0, X0_sz, szs, sszs] at *; omega, (S.rBody (S.rN (S0_rng (by unfold I64; decide)) (i64s (by omega))) w1g), Does.of fun Q N T Lb b M => ?_⟩
      have k1 := k1 Q N T Lb b M
      have k2 := k2 Q N T Lb b M
      have w1 := w1 Q N T Lb b M
      have hp := hp Q N T Lb b M
      have i0 := In.zero 7
      have i1 := i0.n k2v
      have i2 := i1.body w1v .dead
      rw [S44_eq]
      simp [S44, canon_v, canon_sl, canon_clo, canon_ptr, need_refl, elems_sl, sf_v, sf_sl, sf_ptr, sf_ptrh, sf_clo, sf_dead, sf_nil, sf_full, sf_fr, need_true, ibeq, beq_ba, nbeq, nble, nblt, AM.nth, List.getD_cons_succ, List.getD_cons_zero, Option.bind_some, Option.bind_none, Option.map_some, onBool, AM.onG, onFn, seqK, retK, Ex.outOf, cond_true, cond_false, bin_lss, bin_leq, bin_gtr, bin_geq, bin_eql, bin_neq, bin_add, bin_sub, bin_mul, un_not, str_eql, str_neq, app_push, app_stk, app_tk, app_lp, load_app, load_app0, load_fp, store_app, store_app0, leave_app, leave_app0, AM.ownPut, AM.cellsOf, AM.shift, aPick, fin_v, fin_sl, beq_true, okSz, List.length_cons, List.length_nil, Nat.zero_add, Nat.add_zero, Nat.reduceAdd, decide_true, decide_false, Bool.and_true, Bool.true_and, Bool.and_self, Bool.not_true, Bool.not_false, List.getElem?_cons_zero, List.getElem?_cons_succ, List.nil_append, List.cons_append, hpp_app, hpp_stk, hpp_tk, hpp_lp, hpp_hp, app_lpadd, hload, hload0, hloadh, hstore, hstore0, hleave, hleave0, hfin_v, hfin_sl, hback, hloop, hsetlp, max_int, min_int, hstore_v, hstore_v0, hstore_s, hstore_d, modify_concat, part1, hbackt, hbackl, hback0, List.take_succ_cons, List.take_left, List.take_zero, List.take_nil, hp, k1, k2, w1, hw, ho, hk, i0.z, i0.len, i0.ok, i0.fl, i0.can, i1.z, i1.len, i1.ok, i1.fl, i1.can, i2.z, i2.len, i2.ok, i2.fl, i2.can, X.len, X.okc, Pl.len, Pl.okc, Rt.len, Rt.okc, hd, hm, M.own, M.own0, M.sto, M.sto0, M.fa, M.hN, M.hT, M.hL, okCells, Zc, S0_build, Zs_len, part_all]
  · -- 10
    obtain ⟨w1v, a2, l1, w1l, w1z, w1g, w1⟩ := hrow a1 l (by omega)
    refine ⟨(S0 10).wBody w1v, a2, l1, by omega, by simp [S.sz_eq, S.cnt_eq, cnts, S.wName, S.wRight, S.wPlace, S.wE, S.wN, S.wArgs, S.wBody, S.wEls, S0, S.right, S.place, S.e, S.args, S.body, S.els, Rt0, Pl0, X0_sz, szs, sszs] at *; omega, (S.rBody (S0_rng (by unfold I64; decide)) w1g), Does.of fun Q N T Lb b M => ?_⟩
    have w1 := w1 Q N T Lb b M
    have hp := hp Q N T Lb b M
    have i0 := In.zero 10
    have i1 := i0.body w1v .dead
    rw [S44_eq]
    simp [S44, canon_v, canon_sl, canon_clo, canon_ptr, need_refl, elems_sl, sf_v, sf_sl, sf_ptr, sf_ptrh, sf_clo, sf_dead, sf_nil, sf_full, sf_fr, need_true, ibeq, beq_ba, nbeq, nble, nblt, AM.nth, List.getD_cons_succ, List.getD_cons_zero, Option.bind_some, Option.bind_none, Option.map_some, onBool, AM.onG, onFn, seqK, retK, Ex.outOf, cond_true, cond_false, bin_lss, bin_leq, bin_gtr, bin_geq, bin_eql, bin_neq, bin_add, bin_sub, bin_mul, un_not, str_eql, str_neq, app_push, app_stk, app_tk, app_lp, load_app, load_app0, load_fp, store_app, store_app0, leave_app, leave_app0, AM.ownPut, AM.cellsOf, AM.shift, aPick, fin_v, fin_sl, beq_true, okSz, List.length_cons, List.length_nil, Nat.zero_add, Nat.add_zero, Nat.reduceAdd, decide_true, decide_false, Bool.and_true, Bool.true_and, Bool.and_self, Bool.not_true, Bool.not_false, List.getElem?_cons_zero, List.getElem?_cons_succ, List.nil_append, List.cons_append, hpp_app, hpp_stk, hpp_tk, hpp_lp, hpp_hp, app_lpadd, hload, hload0, hloadh, hstore, hstore0, hleave, hleave0, hfin_v, hfin_sl, hback, hloop, hsetlp, max_int, min_int, hstore_v, hstore_v0, hstore_s, hstore_d, modify_concat, part1, hbackt, hbackl, hback0, List.take_succ_cons, List.take_left, List.take_zero, List.take_nil, hp, w1, hw, ho, i0.z, i0.len, i0.ok, i0.fl, i0.can, i1.z, i1.len, i1.ok, i1.fl, i1.can, X.len, X.okc, Pl.len, Pl.okc, Rt.len, Rt.okc, hd, hm, M.own, M.own0, M.sto, M.sto0, M.fa, M.hN, M.hT, M.hL, okCells, Zc, S0_build, Zs_len, part_all]
end
end Go.Proofs.Ytkbhejcfejembaa.S

/- Trees: the maker of programs: rows of statements, and of names. No condition. -/
namespace Go.Proofs.Ytkbhejcfejembaa.S
open Go Go.AM Go.Proofs
set_option linter.unusedVariables false
set_option linter.unusedSimpArgs false
set_option maxHeartbeats 4000000

section
variable (nums : List Int) (hn : nums.length ≤ 400)
include hn
def StmtOk (nums : List Int) (d : Nat) : Prop := ∀ a l : Nat, l ≤ 1000 → ∃ (x : S) (a' l' : Nat), l' ≤ l ∧ (x.sz ≤ 100 * x.cnt ∧ x.cnt + l' ≤ l + 1) ∧ x.rng ∧ Does nums 44 [int d] a l (.agg x.enc) a' l'
theorem row_loop (d : Nat) (hs : StmtOk nums d) : ∀ k : Nat, k ≤ 10 → ∀ a l : Nat, l ≤ 1000 → ∃ (xs : List S) (a' l' : Nat), l' ≤ l ∧ (sszs xs ≤ 100 * cnts xs ∧ cnts xs + l' ≤ l) ∧ (xs.length ≤ k ∧ srngs xs) ∧ ∀ (Q : Nat → Nat → St) (N T Lb b : Nat), Mk nums Q N T Lb b → ∀ (acc : List S) (c : Cap) (tk : List (Nat × Nat)), Own (Q a l) tk c (sencs acc).length 58 → acc.length + k ≤ 1000 →
    ∃ (c' : Cap) (tk' : List (Nat × Nat)) (j : Int), itE (S25.b0 (E L) itE N Lb) [.ptr false b 0, int d, .sl (sencs acc) c, int k] ((Q a l).app [] tk []) = some (.exit 0, [.ptr false b 0, int d, .sl (sencs (acc ++ xs)) c', int j], (Q a' l').app [] tk' []) := by
  intro k
  induction k with
  | zero =>
    intro _ a l hll
    refine ⟨[], a, l, Nat.le_refl _, by simp [sszs, cnts], ⟨Nat.zero_le _, trivial⟩, fun Q N T Lb b M acc c tk ho hlen => ⟨c, tk, 0, ?_⟩⟩
    refine it_exit ?_
    simp [S25.b0, canon_v, canon_sl, canon_clo, canon_ptr, need_refl, elems_sl, sf_v, sf_sl, sf_ptr, sf_ptrh, sf_clo, sf_dead, sf_nil, sf_full, sf_fr, need_true, ibeq, beq_ba, nbeq, nble, nblt, AM.nth, List.getD_cons_succ, List.getD_cons_zero, Option.bind_some, Option.bind_none, Option.map_some, onBool, AM.onG, onFn, seqK, retK, Ex.outOf, cond_true, cond_false, bin_lss, bin_leq, bin_gtr, bin_geq, bin_eql, bin_neq, bin_add, bin_sub, bin_mul, un_not, str_eql, str_neq, app_push, app_stk, app_tk, app_lp, load_app, load_app0, load_fp, store_app, store_app0, leave_app, leave_app0, AM.ownPut, AM.cellsOf, AM.shift, aPick, fin_v, fin_sl, beq_true, okSz, List.length_cons, List.length_nil, Nat.zero_add, Nat.add_zero, Nat.reduceAdd, decide_true, decide_false, Bool.and_true, Bool.true_and, Bool.and_self, Bool.not_true, Bool.not_false, List.getElem?_cons_zero, List.getElem?_cons_succ, List.nil_append, List.cons_append, hpp_app, hpp_stk, hpp_tk, hpp_lp, hpp_hp, app_lpadd, hload, hload0, hloadh, hstore, hstore0, hleave, hleave0, hfin_v, hfin_sl, hback, hloop, hsetlp, max_int, min_int, hstore_v, hstore_v0, hstore_s, hstore_d, modify_concat, part1, hbackt, hbackl, hback0, List.take_succ_cons, List.take_left, List.take_zero, List.take_nil]
  | succ k ih =>
    intro hk a l hll
    have hk1 : ((k + 1 : Nat) : Int) > 0 := by omega
    have hk2 : IntKind.i64.wrap (((k + 1 : Nat) : Int) - 1) = (k : Int) := by rw [IntWalk.i64_in _ (by omega)]; omega
    rcases Nat.eq_zero_or_pos l with rfl | hl
    · refine ⟨[], a, 0, Nat.le_refl _, by simp [sszs, cnts], ⟨Nat.zero_le _, trivial⟩, fun Q N T Lb b M acc c tk ho hlen => ⟨c, tk, ((k + 1 : Nat) : Int), ?_⟩⟩
      refine it_exit ?_
      generalize ((k + 1 : Nat) : Int) = K at hk1 hk2
      simp [S25.b0, canon_v, canon_sl, canon_clo, canon_ptr, need_refl, elems_sl, sf_v, sf_sl, sf_ptr, sf_ptrh, sf_clo, sf_dead, sf_nil, sf_full, sf_fr, need_true, ibeq, beq_ba, nbeq, nble, nblt, AM.nth, List.getD_cons_succ, List.getD_cons_zero, Option.bind_some, Option.bind_none, Option.map_some, onBool, AM.onG, onFn, seqK, retK, Ex.outOf, cond_true, cond_false, bin_lss, bin_leq, bin_gtr, bin_geq, bin_eql, bin_neq, bin_add, bin_sub, bin_mul, un_not, str_eql, str_neq, app_push, app_stk, app_tk, app_lp, load_app, load_app0, load_fp, store_app, store_app0, leave_app, leave_app0, AM.ownPut, AM.cellsOf, AM.shift, aPick, fin_v, fin_sl, beq_true, okSz, List.length_cons, List.length_nil, Nat.zero_add, Nat.add_zero, Nat.reduceAdd, decide_true, decide_false, Bool.and_true, Bool.true_and, Bool.and_self, Bool.not_true, Bool.not_false, List.getElem?_cons_zero, List.getElem?_cons_succ, List.nil_append, List.cons_append, hpp_app, hpp_stk, hpp_tk, hpp_lp, hpp_hp, app_lpadd, hload, hload0, hloadh, hstore, hstore0, hleave, hleave0, hfin_v, hfin_sl, hback, hloop, hsetlp, max_int, min_int, hstore_v, hstore_v0, hstore_s, hstore_d, modify_concat, part1, hbackt, hbackl, hback0, List.take_succ_cons, List.take_left, List.take_zero, List.take_nil, hk1, M.own, M.own0, M.sto, M.sto0, M.fv, M.fs, M.fa, M.hN, M.hT, M.hL, M.ld0, M.ld1, M.ld2, aNilCheck, okCells, laid, flatC, canonC_v, canonC_sl, List.all_cons, List.all_nil, List.map_cons, List.map_nil, part_all, rBuild, fillP, List.set_cons_zero, List.set_cons_succ]
    · obtain ⟨l0, rfl⟩ : ∃ l0, l = l0 + 1 := ⟨l - 1, by omega⟩
      obtain ⟨x, a1, l1, hl1, hz1, hg1, hx⟩ := hs a l0 (by omega)
      obtain ⟨xs, a2, l2, hl2, hz2, hg2, hxs⟩ := ih (by omega) a1 l1 (by omega)
      refine ⟨x :: xs, a2, l2, by omega, by simp [sszs, cnts]; omega, ⟨by simp; omega, hg1, hg2.2⟩, fun Q N T Lb b M acc c tk ho hlen => ?_⟩
      have hx := hx Q N T Lb b M
      have ho' : Own (Q a1 l1) tk c (sencs acc).length 58 := own_congr (by rw [M.hT, M.hT]) ho
      obtain ⟨c1, tk1, e1, o1⟩ := app_own (ys := sencs [x]) (bytes := 688) ho' (by simp only [sencs_length, maxLenB, List.length_cons, List.length_nil]; omega) (sencs_ok _) (sencs_ok _) (by decide) (by decide)
      rw [sencs_app] at e1 o1
      obtain ⟨c2, tk2, j, h2⟩ := hxs Q N T Lb b M (acc ++ [x]) c1 tk1 o1 (by simp; omega)
      refine ⟨c2, tk2, j, ?_⟩
      rw [show acc ++ x :: xs = acc ++ [x] ++ xs by simp, ← h2]
      refine it_step ?_
      have bx : rBuildSlice 58 Zs 1 [(0, .agg x.enc)] = some (.sl (sencs [x]) .full) := lit1 Zs_len x.len x.pl x.len
      have hl3 : ((l0 + 1 : Nat) : Int) > 0 := by omega
      have hl4 : IntKind.i64.wrap (((l0 + 1 : Nat) : Int) - 1) = ((l0 : Nat) : Int) := by rw [IntWalk.i64_in _ (by omega)]; omega
      have ld2 := fun bl tk lp => M.ld2 a (l0 + 1) bl tk lp
      have st2 := fun bl tk lp => M.st2 N a (l0 + 1) l0 bl tk lp
      generalize ((k + 1 : Nat) : Int) = K at hk1 hk2
      generalize ((l0 + 1 : Nat) : Int) = LL at hl3 hl4 ld2
      generalize acc ++ [x] = A at *
      simp [S25.b0, canon_v, canon_sl, canon_clo, canon_ptr, need_refl, elems_sl, sf_v, sf_sl, sf_ptr, sf_ptrh, sf_clo, sf_dead, sf_nil, sf_full, sf_fr, need_true, ibeq, beq_ba, nbeq, nble, nblt, AM.nth, List.getD_cons_succ, List.getD_cons_zero, Option.bind_some, Option.bind_none, Option.map_some, onBool, AM.onG, onFn, seqK, retK, Ex.outOf, cond_true, cond_false, bin_lss, bin_leq, bin_gtr, bin_geq, bin_eql, bin_neq, bin_add, bin_sub, bin_mul, un_not, str_eql, str_neq, app_push, app_stk, app_tk, app_lp, load_app, load_app0, load_fp, store_app, store_app0, leave_app, leave_app0, AM.ownPut, AM.cellsOf, AM.shift, aPick, fin_v, fin_sl, beq_true, okSz, List.length_cons, List.length_nil, Nat.zero_add, Nat.add_zero, Nat.reduceAdd, decide_true, decide_false, Bool.and_true, Bool.true_and, Bool.and_self, Bool.not_true, Bool.not_false, List.getElem?_cons_zero, List.getElem?_cons_succ, List.nil_append, List.cons_append, hpp_app, hpp_stk, hpp_tk, hpp_lp, hpp_hp, app_lpadd, hload, hload0, hloadh, hstore, hstore0, hleave, hleave0, hfin_v, hfin_sl, hback, hloop, hsetlp, max_int, min_int, hstore_v, hstore_v0, hstore_s, hstore_d, modify_concat, part1, hbackt, hbackl, hback0, List.take_succ_cons, List.take_left, List.take_zero, List.take_nil, hk1, hk2, ld2, hl3, hl4, st2, hx, Zc, bx, e1, aNilCheck]
theorem row_mk (d : Nat) (hs : StmtOk nums d) : RowOk nums d := by
  intro a l hll
  obtain ⟨r, a1, h0, h1, hp⟩ := pick_ev nums hn a l 4 (by decide) (by decide)
  obtain ⟨xs, a2, l2, hl2, hz2, hg2, hxs⟩ := row_loop nums hn d hs r.toNat (by omega) a1 l hll
  refine ⟨xs, a2, l2, hl2, hz2, ⟨by omega, hg2.2⟩, Does.of fun Q N T Lb b M => ?_⟩
  have hp := hp Q N T Lb b M
  obtain ⟨c2, tk2, j, h2⟩ := hxs Q N T Lb b M [] .nil [] (Own.nil ..) (by simp; omega)
  have hr : (r.toNat : Int) = r := by omega
  rw [hr] at h2
  have e0 : sencs [] = [] := rfl
  simp [e0] at h2
  rw [S25_eq]
  simp [S25, canon_v, canon_sl, canon_clo, canon_ptr, need_refl, elems_sl, sf_v, sf_sl, sf_ptr, sf_ptrh, sf_clo, sf_dead, sf_nil, sf_full, sf_fr, need_true, ibeq, beq_ba, nbeq, nble, nblt, AM.nth, List.getD_cons_succ, List.getD_cons_zero, Option.bind_some, Option.bind_none, Option.map_some, onBool, AM.onG, onFn, seqK, retK, Ex.outOf, cond_true, cond_false, bin_lss, bin_leq, bin_gtr, bin_geq, bin_eql, bin_neq, bin_add, bin_sub, bin_mul, un_not, str_eql, str_neq, app_push, app_stk, app_tk, app_lp, load_app, load_app0, load_fp, store_app, store_app0, leave_app, leave_app0, AM.ownPut, AM.cellsOf, AM.shift, aPick, fin_v, fin_sl, beq_true, okSz, List.length_cons, List.length_nil, Nat.zero_add, Nat.add_zero, Nat.reduceAdd, decide_true, decide_false, Bool.and_true, Bool.true_and, Bool.and_self, Bool.not_true, Bool.not_false, List.getElem?_cons_zero, List.getElem?_cons_succ, List.nil_append, List.cons_append, hpp_app, hpp_stk, hpp_tk, hpp_lp, hpp_hp, app_lpadd, hload, hload0, hloadh, hstore, hstore0, hleave, hleave0, hfin_v, hfin_sl, hback, hloop, hsetlp, max_int, min_int, hstore_v, hstore_v0, hstore_s, hstore_d, modify_concat, part1, hbackt, hbackl, hback0, List.take_succ_cons, List.take_left, List.take_zero, List.take_nil, hp, M.hN, M.hT, M.hL, h2, M.fs]
end
end Go.Proofs.Ytkbhejcfejembaa.S

/- Trees: the maker of programs: rows of names. No condition. -/
namespace Go.Proofs.Ytkbhejcfejembaa.S
open Go Go.AM Go.Proofs
set_option linter.unusedVariables false
set_option linter.unusedSimpArgs false
set_option maxHeartbeats 4000000

def nrngs (l : List Nm) : Prop := l.length ≤ 1000000 ∧ ∀ x ∈ l, I64 x.kd
section
variable (nums : List Int) (hn : nums.length ≤ 400)
include hn
theorem nms_loop : ∀ k : Nat, k ≤ 10 → ∀ a l : Nat, ∃ (xs : List Nm) (a' : Nat), (xs.length = k ∧ ∀ x ∈ xs, I64 x.kd) ∧ ∀ (Q : Nat → Nat → St) (N T Lb b : Nat), Mk nums Q N T Lb b → ∀ (acc : List Nm) (c : Cap) (tk : List (Nat × Nat)), Own (Q a l) tk c (nms acc).length 5 → acc.length + k ≤ 1000 →
    ∃ (c' : Cap) (tk' : List (Nat × Nat)), itE (S24.b0 (E L) itE N Lb) [.ptr false b 0, .sl (nms acc) c, int k] ((Q a l).app [] tk []) = some (.exit 0, [.ptr false b 0, .sl (nms (acc ++ xs)) c', int 0], (Q a' l).app [] tk' []) := by
  intro k
  induction k with
  | zero =>
    intro _ a l
    refine ⟨[], a, ⟨rfl, fun _ h => by cases h⟩, fun Q N T Lb b M acc c tk ho hlen => ⟨c, tk, ?_⟩⟩
    refine it_exit ?_
    simp [S24.b0, canon_v, canon_sl, canon_clo, canon_ptr, need_refl, elems_sl, sf_v, sf_sl, sf_ptr, sf_ptrh, sf_clo, sf_dead, sf_nil, sf_full, sf_fr, need_true, ibeq, beq_ba, nbeq, nble, nblt, AM.nth, List.getD_cons_succ, List.getD_cons_zero, Option.bind_some, Option.bind_none, Option.map_some, onBool, AM.onG, onFn, seqK, retK, Ex.outOf, cond_true, cond_false, bin_lss, bin_leq, bin_gtr, bin_geq, bin_eql, bin_neq, bin_add, bin_sub, bin_mul, un_not, str_eql, str_neq, app_push, app_stk, app_tk, app_lp, load_app, load_app0, load_fp, store_app, store_app0, leave_app, leave_app0, AM.ownPut, AM.cellsOf, AM.shift, aPick, fin_v, fin_sl, beq_true, okSz, List.length_cons, List.length_nil, Nat.zero_add, Nat.add_zero, Nat.reduceAdd, decide_true, decide_false, Bool.and_true, Bool.true_and, Bool.and_self, Bool.not_true, Bool.not_false, List.getElem?_cons_zero, List.getElem?_cons_succ, List.nil_append, List.cons_append, hpp_app, hpp_stk, hpp_tk, hpp_lp, hpp_hp, app_lpadd, hload, hload0, hloadh, hstore, hstore0, hleave, hleave0, hfin_v, hfin_sl, hback, hloop, hsetlp, max_int, min_int, hstore_v, hstore_v0, hstore_s, hstore_d, modify_concat, part1, hbackt, hbackl, hback0, List.take_succ_cons, List.take_left, List.take_zero, List.take_nil]
  | succ k ih =>
    intro hk a l
    have hk1 : ((k + 1 : Nat) : Int) > 0 := by omega
    have hk2 : IntKind.i64.wrap (((k + 1 : Nat) : Int) - 1) = (k : Int) := by rw [IntWalk.i64_in _ (by omega)]; omega
    obtain ⟨nm, a1, h1⟩ := name_ev nums hn a l
    obtain ⟨kd, rc, a2, hg, h2⟩ := kind_ev nums hn a1 l
    obtain ⟨xs, a3, ⟨hl3, hg3⟩, h3⟩ := ih (by omega) a2 l
    refine ⟨⟨nm, kd, rc, 0, 0⟩ :: xs, a3, ⟨by simp [hl3], fun x hx => by rcases List.mem_cons.1 hx with rfl | hx; exact hg; exact hg3 x hx⟩, fun Q N T Lb b M acc c tk ho hlen => ?_⟩
    have h1 := h1 Q N T Lb b M
    have h2 := h2 Q N T Lb b M
    have ho' : Own (Q a2 l) tk c (nms acc).length 5 := own_congr (by rw [M.hT, M.hT]) ho
    obtain ⟨c1, tk1, e1, o1⟩ := app_own (ys := nms [⟨nm, kd, rc, 0, 0⟩]) (bytes := 56) ho' (by simp only [nms_len, maxLenB, List.length_cons, List.length_nil]; omega) (nms_ok _) (nms_ok _) (by decide) (by decide)
    rw [nms_app] at e1 o1
    obtain ⟨c2, tk2, h4⟩ := h3 Q N T Lb b M (acc ++ [⟨nm, kd, rc, 0, 0⟩]) c1 tk1 o1 (by simp; omega)
    refine ⟨c2, tk2, ?_⟩
    rw [show acc ++ (⟨nm, kd, rc, 0, 0⟩ : Nm) :: xs = acc ++ [⟨nm, kd, rc, 0, 0⟩] ++ xs by simp, ← h4]
    refine it_step ?_
    have b1 : rBuild [(0, 1), (1, 2), (3, 1), (4, 1)] [.v (.string ⟨#[]⟩), .v (.int .i64 0), .v (.string ⟨#[]⟩), .v (.int .i64 0), .v (.int .i64 0)] [(0, str nm), (1, .agg [int kd, str rc])] = some (.agg [str nm, int kd, str rc, int 0, int 0]) := rfl
    have b2 : rBuildSlice 5 [.v (.string ⟨#[]⟩), .v (.int .i64 0), .v (.string ⟨#[]⟩), .v (.int .i64 0), .v (.int .i64 0)] 1 [(0, .agg [str nm, int kd, str rc, int 0, int 0])] = some (.sl (nms [⟨nm, kd, rc, 0, 0⟩]) .full) := rfl
    generalize acc ++ [(⟨nm, kd, rc, 0, 0⟩ : Nm)] = A at *
    generalize ((k + 1 : Nat) : Int) = K at hk1 hk2
    simp [S24.b0, canon_v, canon_sl, canon_clo, canon_ptr, need_refl, elems_sl, sf_v, sf_sl, sf_ptr, sf_ptrh, sf_clo, sf_dead, sf_nil, sf_full, sf_fr, need_true, ibeq, beq_ba, nbeq, nble, nblt, AM.nth, List.getD_cons_succ, List.getD_cons_zero, Option.bind_some, Option.bind_none, Option.map_some, onBool, AM.onG, onFn, seqK, retK, Ex.outOf, cond_true, cond_false, bin_lss, bin_leq, bin_gtr, bin_geq, bin_eql, bin_neq, bin_add, bin_sub, bin_mul, un_not, str_eql, str_neq, app_push, app_stk, app_tk, app_lp, load_app, load_app0, load_fp, store_app, store_app0, leave_app, leave_app0, AM.ownPut, AM.cellsOf, AM.shift, aPick, fin_v, fin_sl, beq_true, okSz, List.length_cons, List.length_nil, Nat.zero_add, Nat.add_zero, Nat.reduceAdd, decide_true, decide_false, Bool.and_true, Bool.true_and, Bool.and_self, Bool.not_true, Bool.not_false, List.getElem?_cons_zero, List.getElem?_cons_succ, List.nil_append, List.cons_append, hpp_app, hpp_stk, hpp_tk, hpp_lp, hpp_hp, app_lpadd, hload, hload0, hloadh, hstore, hstore0, hleave, hleave0, hfin_v, hfin_sl, hback, hloop, hsetlp, max_int, min_int, hstore_v, hstore_v0, hstore_s, hstore_d, modify_concat, part1, hbackt, hbackl, hback0, List.take_succ_cons, List.take_left, List.take_zero, List.take_nil, hk1, hk2, h1, h2, b1, b2, e1]
theorem names_mk (k : Nat) (hk1 : 0 < k) (hk : k ≤ 10) (a l : Nat) : ∃ (xs : List Nm) (a' : Nat), nrngs xs ∧ Does nums 24 [int k] a l (.sl (nms xs) .dead) a' l := by
  obtain ⟨r, a1, h0, h1, hp⟩ := pick_ev nums hn a l k (by omega) (by omega)
  obtain ⟨xs, a2, ⟨hl2, hg2⟩, hxs⟩ := nms_loop nums hn r.toNat (by omega) a1 l
  refine ⟨xs, a2, ⟨by omega, hg2⟩, Does.of fun Q N T Lb b M => ?_⟩
  have hp := hp Q N T Lb b M
  obtain ⟨c2, tk2, h2⟩ := hxs Q N T Lb b M [] .nil [] (Own.nil ..) (by simp; omega)
  have hr : (r.toNat : Int) = r := by omega
  rw [hr] at h2
  have e0 : nms [] = [] := rfl
  simp [e0] at h2
  rw [S24_eq]
  simp [S24, canon_v, canon_sl, canon_clo, canon_ptr, need_refl, elems_sl, sf_v, sf_sl, sf_ptr, sf_ptrh, sf_clo, sf_dead, sf_nil, sf_full, sf_fr, need_true, ibeq, beq_ba, nbeq, nble, nblt, AM.nth, List.getD_cons_succ, List.getD_cons_zero, Option.bind_some, Option.bind_none, Option.map_some, onBool, AM.onG, onFn, seqK, retK, Ex.outOf, cond_true, cond_false, bin_lss, bin_leq, bin_gtr, bin_geq, bin_eql, bin_neq, bin_add, bin_sub, bin_mul, un_not, str_eql, str_neq, app_push, app_stk, app_tk, app_lp, load_app, load_app0, load_fp, store_app, store_app0, leave_app, leave_app0, AM.ownPut, AM.cellsOf, AM.shift, aPick, fin_v, fin_sl, beq_true, okSz, List.length_cons, List.length_nil, Nat.zero_add, Nat.add_zero, Nat.reduceAdd, decide_true, decide_false, Bool.and_true, Bool.true_and, Bool.and_self, Bool.not_true, Bool.not_false, List.getElem?_cons_zero, List.getElem?_cons_succ, List.nil_append, List.cons_append, hpp_app, hpp_stk, hpp_tk, hpp_lp, hpp_hp, app_lpadd, hload, hload0, hloadh, hstore, hstore0, hleave, hleave0, hfin_v, hfin_sl, hback, hloop, hsetlp, max_int, min_int, hstore_v, hstore_v0, hstore_s, hstore_d, modify_concat, part1, hbackt, hbackl, hback0, List.take_succ_cons, List.take_left, List.take_zero, List.take_nil, hp, M.hN, M.hT, M.hL, h2, M.fs]

theorem stmt_ok : ∀ d : Nat, d ≤ 5 → StmtOk nums d ∧ RowOk nums d := by
  intro d
  induction d with
  | zero => exact fun _ => have h : StmtOk nums 0 := fun a l _ => stmt_zero nums hn a l; ⟨h, row_mk nums hn 0 h⟩
  | succ d ih => exact fun hd => have h : StmtOk nums (d + 1) := fun a l hl => stmt_succ nums hn d (by omega) (ih (by omega)).2 a l hl; ⟨h, row_mk nums hn (d + 1) h⟩
end
end Go.Proofs.Ytkbhejcfejembaa.S

/- Trees: the maker of programs. Printed by mkMp.py. No condition. -/
namespace Go.Proofs.Ytkbhejcfejembaa.S
open Go Go.AM Go.Proofs
set_option linter.unusedVariables false
set_option linter.unusedSimpArgs false
set_option maxHeartbeats 4000000

def Rc.rng (p : Rc) : Prop := nrngs p.fields
def Fu.rng (p : Fu) : Prop := nrngs p.params ∧ p.body.length ≤ 1000000 ∧ srngs p.body
def Th.rng (p : Th) : Prop := p.body.length ≤ 1000000 ∧ srngs p.body
theorem sto_b {nums : List Int} {Q : Nat → Nat → St} {N T Lb b : Nat} (M : Mk nums Q N T Lb b) {B : Nat} (hB : B ≤ N) (a l : Nat) (sz off : Nat) (v : PV) (bl : List Blk) (tk : List (Nat × Nat)) (lp : List Aux) :
    aStore B sz (.ptr false N off) v ((Q a l).app bl tk lp) = (ownPut bl 0 off sz v).map fun bl => (Q a l).app bl tk lp := by
  have h1 := M.sto0 a l sz off v bl tk lp
  rw [← h1]
  have hb : Nat.blt N B = Nat.blt N N := by
    have e1 : Nat.blt N B = false := by rw [nblt]; simp; exact hB
    have e2 : Nat.blt N N = false := by rw [nblt]; simp
    rw [e1, e2]
  simp only [aStore, putCells, hb]
section
variable (nums : List Int) (hn : nums.length ≤ 400)
include hn
theorem recs_loop : ∀ k : Nat, k ≤ 10 → ∀ a l : Nat, l ≤ 1000 → ∃ (xs : List Rc) (a' l' : Nat), (xs.length = k ∧ ∀ x ∈ xs, x.rng) ∧ l' ≤ l ∧ l' = l ∧ ∀ (Q : Nat → Nat → St) (N T Lb b B : Nat), Mk nums Q N T Lb b → B ≤ N → ∀ (q2 y0 y1 y2 y3 : PV) (acc : List Rc) (c : Cap) (tk : List (Nat × Nat)), Own (Q a l) tk c (acc.map Rc.enc).length 4 → acc.length + k ≤ 1000 →
    ∃ (c' : Cap) (tk' : List (Nat × Nat)), itE (S8.b0 (E L) itE B Lb) [q2, .ptr false b 0, .ptr false N 0, int k] ((Q a l).app [⟨[.sl (acc.map Rc.enc) c, y1, y2, y3], []⟩] tk []) = some (.exit 0, [q2, .ptr false b 0, .ptr false N 0, int 0], (Q a' l').app [⟨[.sl ((acc ++ xs).map Rc.enc) c', y1, y2, y3], []⟩] tk' []) := by
  intro k
  induction k with
  | zero =>
    intro _ a l hll
    refine ⟨[], a, l, ⟨rfl, fun _ h => by cases h⟩, Nat.le_refl _, by simp, fun Q N T Lb b B M hB q2 y0 y1 y2 y3 acc c tk ho hlen => ⟨c, tk, ?_⟩⟩
    refine it_exit ?_
    simp [S8.b0, canon_v, canon_sl, canon_clo, canon_ptr, need_refl, elems_sl, sf_v, sf_sl, sf_ptr, sf_ptrh, sf_clo, sf_dead, sf_nil, sf_full, sf_fr, need_true, ibeq, beq_ba, nbeq, nble, nblt, AM.nth, List.getD_cons_succ, List.getD_cons_zero, Option.bind_some, Option.bind_none, Option.map_some, onBool, AM.onG, onFn, seqK, retK, Ex.outOf, cond_true, cond_false, bin_lss, bin_leq, bin_gtr, bin_geq, bin_eql, bin_neq, bin_add, bin_sub, bin_mul, un_not, str_eql, str_neq, app_push, app_stk, app_tk, app_lp, load_app, load_app0, load_fp, store_app, store_app0, leave_app, leave_app0, AM.ownPut, AM.cellsOf, AM.shift, aPick, fin_v, fin_sl, beq_true, okSz, List.length_cons, List.length_nil, Nat.zero_add, Nat.add_zero, Nat.reduceAdd, decide_true, decide_false, Bool.and_true, Bool.true_and, Bool.and_self, Bool.not_true, Bool.not_false, List.getElem?_cons_zero, List.getElem?_cons_succ, List.nil_append, List.cons_append, hpp_app, hpp_stk, hpp_tk, hpp_lp, hpp_hp, app_lpadd, hload, hload0, hloadh, hstore, hstore0, hleave, hleave0, hfin_v, hfin_sl, hback, hloop, hsetlp, max_int, min_int, hstore_v, hstore_v0, hstore_s, hstore_d, modify_concat, part1, hbackt, hbackl, hback0, List.take_succ_cons, List.take_left, List.take_zero, List.take_nil]
  | succ k ih =>
    intro hk a0 l hll
    have hk1 : ((k + 1 : Nat) : Int) > 0 := by omega
    have hk2 : IntKind.i64.wrap (((k + 1 : Nat) : Int) - 1) = (k : Int) := by rw [IntWalk.i64_in _ (by omega)]; omega
    obtain ⟨nm, a1, h1⟩ := name_ev nums hn a0 l
    obtain ⟨ns, a2, ng, h2⟩ := names_mk nums hn 3 (by decide) (by decide) a1 l
    obtain ⟨xs, a9, l9, ⟨hl3, hg3⟩, hl4, hl5, h3⟩ := ih (by omega) a2 l (by omega)
    refine ⟨⟨nm, ns⟩ :: xs, a9, l9, ⟨by simp [hl3], fun x hx => by rcases List.mem_cons.1 hx with rfl | hx; exact ng; exact hg3 x hx⟩, by omega, by omega, fun Q N T Lb b B M hB q2 y0 y1 y2 y3 acc c tk ho hlen => ?_⟩
    have h1 := h1 Q N T Lb b M
    try rw [show ((2 : Nat) : Int) = 2 from rfl] at h1
    try rw [show ((3 : Nat) : Int) = 3 from rfl] at h1
    have h2 := h2 Q N T Lb b M
    try rw [show ((2 : Nat) : Int) = 2 from rfl] at h2
    try rw [show ((3 : Nat) : Int) = 3 from rfl] at h2
    have ok : ∀ l : List Rc, okSz 4 (l.map Rc.enc) = true := okSz_map Rc.enc fun _ => rfl
    have ho' : Own (Q a2 l) tk c (acc.map Rc.enc).length 4 := own_congr (by rw [M.hT, M.hT]) ho
    obtain ⟨c1, tk1, e1, o1⟩ := app_own (ys := [⟨nm, ns⟩].map Rc.enc) (bytes := 56) ho' (by simp only [List.length_map, maxLenB, List.length_cons, List.length_nil]; omega) (ok _) (ok _) (by decide) (by decide)
    rw [← List.map_append] at e1 o1
    obtain ⟨c2, tk2, h4⟩ := h3 Q N T Lb b B M hB q2 y0 y1 y2 y3 (acc ++ [⟨nm, ns⟩]) c1 tk1 o1 (by simp; omega)
    refine ⟨c2, tk2, ?_⟩
    rw [show acc ++ (⟨nm, ns⟩ : Rc) :: xs = acc ++ [⟨nm, ns⟩] ++ xs by simp, ← h4]
    refine it_step ?_
    have b1 : rBuild [(0, 1), (1, 1), (2, 1), (3, 1)] [.v (.string ⟨#[]⟩), .sl [] .nil, .v (.int .i64 0), .v (.int .i64 0)] [(0, str nm), (1, .sl (nms ns) .dead)] = some (.agg [str nm, .sl (nms ns) .dead, int 0, int 0]) := rfl
    have b2 : rBuildSlice 4 [.v (.string ⟨#[]⟩), .sl [] .nil, .v (.int .i64 0), .v (.int .i64 0)] 1 [(0, .agg [str nm, .sl (nms ns) .dead, int 0, int 0])] = some (.sl ([⟨nm, ns⟩].map Rc.enc) .full) := rfl
    generalize acc ++ [(⟨nm, ns⟩ : Rc)] = A at *
    generalize ((k + 1 : Nat) : Int) = K at hk1 hk2
    have sb := fun a l sz off v bl tk lp => sto_b M hB a l sz off v bl tk lp
    have pt : ∀ c0 c1 c2 c3 : PV, AM.part false 1 0 [c0, c1, c2, c3] = some c0 := fun _ _ _ _ => rfl
    have ld : ∀ c0 c1 c2 c3 v : PV, laid [c0, c1, c2, c3] 0 [v] = [v, c1, c2, c3] := fun _ _ _ _ _ => rfl
    simp only [S8.b0, canon_v, canon_sl, canon_clo, canon_ptr, need_refl, elems_sl, sf_v, sf_sl, sf_ptr, sf_ptrh, sf_clo, sf_dead, sf_nil, sf_full, sf_fr, need_true, ibeq, beq_ba, nbeq, nble, nblt, AM.nth, List.getD_cons_succ, List.getD_cons_zero, Option.bind_some, Option.bind_none, Option.map_some, onBool, AM.onG, onFn, seqK, retK, Ex.outOf, cond_true, cond_false, bin_lss, bin_leq, bin_gtr, bin_geq, bin_eql, bin_neq, bin_add, bin_sub, bin_mul, un_not, str_eql, str_neq, app_push, app_stk, app_tk, app_lp, load_app, load_app0, load_fp, store_app, store_app0, leave_app, leave_app0, AM.ownPut, AM.cellsOf, AM.shift, aPick, fin_v, fin_sl, beq_true, okSz, List.length_cons, List.length_nil, Nat.zero_add, Nat.add_zero, Nat.reduceAdd, decide_true, decide_false, Bool.and_true, Bool.true_and, Bool.and_self, Bool.not_true, Bool.not_false, List.getElem?_cons_zero, List.getElem?_cons_succ, List.nil_append, List.cons_append, hpp_app, hpp_stk, hpp_tk, hpp_lp, hpp_hp, app_lpadd, hload, hload0, hloadh, hstore, hstore0, hleave, hleave0, hfin_v, hfin_sl, hback, hloop, hsetlp, max_int, min_int, hstore_v, hstore_v0, hstore_s, hstore_d, modify_concat, part1, hbackt, hbackl, hback0, List.take_succ_cons, List.take_left, List.take_zero, List.take_nil, hk1, hk2, M.own0, pt, h1, h2, b1, b2, e1, sb, okCells, ld, Nat.reduceLeDiff, Option.map_some, need_refl, List.modify_zero_cons, Nat.reduceSucc, decide_true, Nat.le_refl]
    rfl
theorem funs_loop : ∀ k : Nat, k ≤ 10 → ∀ a l : Nat, l ≤ 1000 → ∃ (xs : List Fu) (a' l' : Nat), (xs.length = k ∧ ∀ x ∈ xs, x.rng) ∧ l' ≤ l ∧ ((xs.map fun f => sszs f.body).sum ≤ 100 * (xs.map fun f => cnts f.body).sum ∧ (xs.map fun f => cnts f.body).sum + l' ≤ l) ∧ ∀ (Q : Nat → Nat → St) (N T Lb b B : Nat), Mk nums Q N T Lb b → B ≤ N → ∀ (q2 y0 y1 y2 y3 : PV) (acc : List Fu) (c : Cap) (tk : List (Nat × Nat)), Own (Q a l) tk c (acc.map Fu.enc).length 5 → acc.length + k ≤ 1000 →
    ∃ (c' : Cap) (tk' : List (Nat × Nat)), itE (S8.b1 (E L) itE B Lb) [q2, .ptr false b 0, .ptr false N 0, int k] ((Q a l).app [⟨[y0, y1, .sl (acc.map Fu.enc) c, y3], []⟩] tk []) = some (.exit 2, [q2, .ptr false b 0, .ptr false N 0, int 0], (Q a' l').app [⟨[y0, y1, .sl ((acc ++ xs).map Fu.enc) c', y3], []⟩] tk' []) := by
  intro k
  induction k with
  | zero =>
    intro _ a l hll
    refine ⟨[], a, l, ⟨rfl, fun _ h => by cases h⟩, Nat.le_refl _, by simp, fun Q N T Lb b B M hB q2 y0 y1 y2 y3 acc c tk ho hlen => ⟨c, tk, ?_⟩⟩
    refine it_exit ?_
    simp [S8.b1, canon_v, canon_sl, canon_clo, canon_ptr, need_refl, elems_sl, sf_v, sf_sl, sf_ptr, sf_ptrh, sf_clo, sf_dead, sf_nil, sf_full, sf_fr, need_true, ibeq, beq_ba, nbeq, nble, nblt, AM.nth, List.getD_cons_succ, List.getD_cons_zero, Option.bind_some, Option.bind_none, Option.map_some, onBool, AM.onG, onFn, seqK, retK, Ex.outOf, cond_true, cond_false, bin_lss, bin_leq, bin_gtr, bin_geq, bin_eql, bin_neq, bin_add, bin_sub, bin_mul, un_not, str_eql, str_neq, app_push, app_stk, app_tk, app_lp, load_app, load_app0, load_fp, store_app, store_app0, leave_app, leave_app0, AM.ownPut, AM.cellsOf, AM.shift, aPick, fin_v, fin_sl, beq_true, okSz, List.length_cons, List.length_nil, Nat.zero_add, Nat.add_zero, Nat.reduceAdd, decide_true, decide_false, Bool.and_true, Bool.true_and, Bool.and_self, Bool.not_true, Bool.not_false, List.getElem?_cons_zero, List.getElem?_cons_succ, List.nil_append, List.cons_append, hpp_app, hpp_stk, hpp_tk, hpp_lp, hpp_hp, app_lpadd, hload, hload0, hloadh, hstore, hstore0, hleave, hleave0, hfin_v, hfin_sl, hback, hloop, hsetlp, max_int, min_int, hstore_v, hstore_v0, hstore_s, hstore_d, modify_concat, part1, hbackt, hbackl, hback0, List.take_succ_cons, List.take_left, List.take_zero, List.take_nil]
  | succ k ih =>
    intro hk a0 l hll
    have hk1 : ((k + 1 : Nat) : Int) > 0 := by omega
    have hk2 : IntKind.i64.wrap (((k + 1 : Nat) : Int) - 1) = (k : Int) := by rw [IntWalk.i64_in _ (by omega)]; omega
    obtain ⟨nm, a1, h1⟩ := name_ev nums hn a0 l
    obtain ⟨ns, a2, ng, h2⟩ := names_mk nums hn 3 (by decide) (by decide) a1 l
    obtain ⟨rw, a3, l1, hw1, hw2, wg, h5⟩ := (stmt_ok nums hn 2 (by decide)).2 a2 l (by omega)
    obtain ⟨xs, a9, l9, ⟨hl3, hg3⟩, hl4, hl5, h3⟩ := ih (by omega) a3 l1 (by omega)
    refine ⟨⟨nm, ns, rw, 0, 0⟩ :: xs, a9, l9, ⟨by simp [hl3], fun x hx => by rcases List.mem_cons.1 hx with rfl | hx; exact ⟨ng, wg.1, wg.2⟩; exact hg3 x hx⟩, by omega, by simp; omega, fun Q N T Lb b B M hB q2 y0 y1 y2 y3 acc c tk ho hlen => ?_⟩
    have h1 := h1 Q N T Lb b M
    try rw [show ((2 : Nat) : Int) = 2 from rfl] at h1
    try rw [show ((3 : Nat) : Int) = 3 from rfl] at h1
    have h2 := h2 Q N T Lb b M
    try rw [show ((2 : Nat) : Int) = 2 from rfl] at h2
    try rw [show ((3 : Nat) : Int) = 3 from rfl] at h2
    have h5 := h5 Q N T Lb b M
    try rw [show ((2 : Nat) : Int) = 2 from rfl] at h5
    try rw [show ((3 : Nat) : Int) = 3 from rfl] at h5
    have ok : ∀ l : List Fu, okSz 5 (l.map Fu.enc) = true := okSz_map Fu.enc fun _ => rfl
    have ho' : Own (Q a3 l1) tk c (acc.map Fu.enc).length 5 := own_congr (by rw [M.hT, M.hT]) ho
    obtain ⟨c1, tk1, e1, o1⟩ := app_own (ys := [⟨nm, ns, rw, 0, 0⟩].map Fu.enc) (bytes := 80) ho' (by simp only [List.length_map, maxLenB, List.length_cons, List.length_nil]; omega) (ok _) (ok _) (by decide) (by decide)
    rw [← List.map_append] at e1 o1
    obtain ⟨c2, tk2, h4⟩ := h3 Q N T Lb b B M hB q2 y0 y1 y2 y3 (acc ++ [⟨nm, ns, rw, 0, 0⟩]) c1 tk1 o1 (by simp; omega)
    refine ⟨c2, tk2, ?_⟩
    rw [show acc ++ (⟨nm, ns, rw, 0, 0⟩ : Fu) :: xs = acc ++ [⟨nm, ns, rw, 0, 0⟩] ++ xs by simp, ← h4]
    refine it_step ?_
    have b1 : rBuild [(0, 1), (1, 1), (2, 1), (3, 1), (4, 1)] [.v (.string ⟨#[]⟩), .sl [] .nil, .sl [] .nil, .v (.int .i64 0), .v (.int .i64 0)] [(0, str nm), (1, .sl (nms ns) .dead), (2, .sl (sencs rw) .dead)] = some (.agg [str nm, .sl (nms ns) .dead, .sl (sencs rw) .dead, int 0, int 0]) := rfl
    have b2 : rBuildSlice 5 [.v (.string ⟨#[]⟩), .sl [] .nil, .sl [] .nil, .v (.int .i64 0), .v (.int .i64 0)] 1 [(0, .agg [str nm, .sl (nms ns) .dead, .sl (sencs rw) .dead, int 0, int 0])] = some (.sl ([⟨nm, ns, rw, 0, 0⟩].map Fu.enc) .full) := rfl
    generalize acc ++ [(⟨nm, ns, rw, 0, 0⟩ : Fu)] = A at *
    generalize ((k + 1 : Nat) : Int) = K at hk1 hk2
    have sb := fun a l sz off v bl tk lp => sto_b M hB a l sz off v bl tk lp
    have pt : ∀ c0 c1 c2 c3 : PV, AM.part false 1 2 [c0, c1, c2, c3] = some c2 := fun _ _ _ _ => rfl
    have ld : ∀ c0 c1 c2 c3 v : PV, laid [c0, c1, c2, c3] 2 [v] = [c0, c1, v, c3] := fun _ _ _ _ _ => rfl
    simp only [S8.b1, canon_v, canon_sl, canon_clo, canon_ptr, need_refl, elems_sl, sf_v, sf_sl, sf_ptr, sf_ptrh, sf_clo, sf_dead, sf_nil, sf_full, sf_fr, need_true, ibeq, beq_ba, nbeq, nble, nblt, AM.nth, List.getD_cons_succ, List.getD_cons_zero, Option.bind_some, Option.bind_none, Option.map_some, onBool, AM.onG, onFn, seqK, retK, Ex.outOf, cond_true, cond_false, bin_lss, bin_leq, bin_gtr, bin_geq, bin_eql, bin_neq, bin_add, bin_sub, bin_mul, un_not, str_eql, str_neq, app_push, app_stk, app_tk, app_lp, load_app, load_app0, load_fp, store_app, store_app0, leave_app, leave_app0, AM.ownPut, AM.cellsOf, AM.shift, aPick, fin_v, fin_sl, beq_true, okSz, List.length_cons, List.length_nil, Nat.zero_add, Nat.add_zero, Nat.reduceAdd, decide_true, decide_false, Bool.and_true, Bool.true_and, Bool.and_self, Bool.not_true, Bool.not_false, List.getElem?_cons_zero, List.getElem?_cons_succ, List.nil_append, List.cons_append, hpp_app, hpp_stk, hpp_tk, hpp_lp, hpp_hp, app_lpadd, hload, hload0, hloadh, hstore, hstore0, hleave, hleave0, hfin_v, hfin_sl, hback, hloop, hsetlp, max_int, min_int, hstore_v, hstore_v0, hstore_s, hstore_d, modify_concat, part1, hbackt, hbackl, hback0, List.take_succ_cons, List.take_left, List.take_zero, List.take_nil, hk1, hk2, M.own0, pt, h1, h2, h5, b1, b2, e1, sb, okCells, ld, Nat.reduceLeDiff, Option.map_some, need_refl, List.modify_zero_cons, Nat.reduceSucc, decide_true, Nat.le_refl]
    rfl
theorem thrs_loop : ∀ k : Nat, k ≤ 10 → ∀ a l : Nat, l ≤ 1000 → ∃ (xs : List Th) (a' l' : Nat), (xs.length = k ∧ ∀ x ∈ xs, x.rng) ∧ l' ≤ l ∧ ((xs.map fun f => sszs f.body).sum ≤ 100 * (xs.map fun f => cnts f.body).sum ∧ (xs.map fun f => cnts f.body).sum + l' ≤ l) ∧ ∀ (Q : Nat → Nat → St) (N T Lb b B : Nat), Mk nums Q N T Lb b → B ≤ N → ∀ (q2 y0 y1 y2 y3 : PV) (acc : List Th) (c : Cap) (tk : List (Nat × Nat)), Own (Q a l) tk c (acc.map Th.enc).length 3 → acc.length + k ≤ 1000 →
    ∃ (c' : Cap) (tk' : List (Nat × Nat)), itE (S8.b2 (E L) itE B Lb) [q2, .ptr false b 0, .ptr false N 0, int k] ((Q a l).app [⟨[y0, y1, y2, .sl (acc.map Th.enc) c], []⟩] tk []) = some (.exit 4, [q2, .ptr false b 0, .ptr false N 0, int 0], (Q a' l').app [⟨[y0, y1, y2, .sl ((acc ++ xs).map Th.enc) c'], []⟩] tk' []) := by
  intro k
  induction k with
  | zero =>
    intro _ a l hll
    refine ⟨[], a, l, ⟨rfl, fun _ h => by cases h⟩, Nat.le_refl _, by simp, fun Q N T Lb b B M hB q2 y0 y1 y2 y3 acc c tk ho hlen => ⟨c, tk, ?_⟩⟩
    refine it_exit ?_
    simp [S8.b2, canon_v, canon_sl, canon_clo, canon_ptr, need_refl, elems_sl, sf_v, sf_sl, sf_ptr, sf_ptrh, sf_clo, sf_dead, sf_nil, sf_full, sf_fr, need_true, ibeq, beq_ba, nbeq, nble, nblt, AM.nth, List.getD_cons_succ, List.getD_cons_zero, Option.bind_some, Option.bind_none, Option.map_some, onBool, AM.onG, onFn, seqK, retK, Ex.outOf, cond_true, cond_false, bin_lss, bin_leq, bin_gtr, bin_geq, bin_eql, bin_neq, bin_add, bin_sub, bin_mul, un_not, str_eql, str_neq, app_push, app_stk, app_tk, app_lp, load_app, load_app0, load_fp, store_app, store_app0, leave_app, leave_app0, AM.ownPut, AM.cellsOf, AM.shift, aPick, fin_v, fin_sl, beq_true, okSz, List.length_cons, List.length_nil, Nat.zero_add, Nat.add_zero, Nat.reduceAdd, decide_true, decide_false, Bool.and_true, Bool.true_and, Bool.and_self, Bool.not_true, Bool.not_false, List.getElem?_cons_zero, List.getElem?_cons_succ, List.nil_append, List.cons_append, hpp_app, hpp_stk, hpp_tk, hpp_lp, hpp_hp, app_lpadd, hload, hload0, hloadh, hstore, hstore0, hleave, hleave0, hfin_v, hfin_sl, hback, hloop, hsetlp, max_int, min_int, hstore_v, hstore_v0, hstore_s, hstore_d, modify_concat, part1, hbackt, hbackl, hback0, List.take_succ_cons, List.take_left, List.take_zero, List.take_nil]
  | succ k ih =>
    intro hk a0 l hll
    have hk1 : ((k + 1 : Nat) : Int) > 0 := by omega
    have hk2 : IntKind.i64.wrap (((k + 1 : Nat) : Int) - 1) = (k : Int) := by rw [IntWalk.i64_in _ (by omega)]; omega
    obtain ⟨rw, a1, l1, hw1, hw2, wg, h5⟩ := (stmt_ok nums hn 3 (by decide)).2 a0 l (by omega)
    obtain ⟨xs, a9, l9, ⟨hl3, hg3⟩, hl4, hl5, h3⟩ := ih (by omega) a1 l1 (by omega)
    refine ⟨⟨rw, 0, 0⟩ :: xs, a9, l9, ⟨by simp [hl3], fun x hx => by rcases List.mem_cons.1 hx with rfl | hx; exact wg; exact hg3 x hx⟩, by omega, by simp; omega, fun Q N T Lb b B M hB q2 y0 y1 y2 y3 acc c tk ho hlen => ?_⟩
    have h5 := h5 Q N T Lb b M
    try rw [show ((2 : Nat) : Int) = 2 from rfl] at h5
    try rw [show ((3 : Nat) : Int) = 3 from rfl] at h5
    have ok : ∀ l : List Th, okSz 3 (l.map Th.enc) = true := okSz_map Th.enc fun _ => rfl
    have ho' : Own (Q a1 l1) tk c (acc.map Th.enc).length 3 := own_congr (by rw [M.hT, M.hT]) ho
    obtain ⟨c1, tk1, e1, o1⟩ := app_own (ys := [⟨rw, 0, 0⟩].map Th.enc) (bytes := 40) ho' (by simp only [List.length_map, maxLenB, List.length_cons, List.length_nil]; omega) (ok _) (ok _) (by decide) (by decide)
    rw [← List.map_append] at e1 o1
    obtain ⟨c2, tk2, h4⟩ := h3 Q N T Lb b B M hB q2 y0 y1 y2 y3 (acc ++ [⟨rw, 0, 0⟩]) c1 tk1 o1 (by simp; omega)
    refine ⟨c2, tk2, ?_⟩
    rw [show acc ++ (⟨rw, 0, 0⟩ : Th) :: xs = acc ++ [⟨rw, 0, 0⟩] ++ xs by simp, ← h4]
    refine it_step ?_
    have b1 : rBuild [(0, 1), (1, 1), (2, 1)] [.sl [] .nil, .v (.int .i64 0), .v (.int .i64 0)] [(0, .sl (sencs rw) .dead)] = some (.agg [.sl (sencs rw) .dead, int 0, int 0]) := rfl
    have b2 : rBuildSlice 3 [.sl [] .nil, .v (.int .i64 0), .v (.int .i64 0)] 1 [(0, .agg [.sl (sencs rw) .dead, int 0, int 0])] = some (.sl ([⟨rw, 0, 0⟩].map Th.enc) .full) := rfl
    generalize acc ++ [(⟨rw, 0, 0⟩ : Th)] = A at *
    generalize ((k + 1 : Nat) : Int) = K at hk1 hk2
    have sb := fun a l sz off v bl tk lp => sto_b M hB a l sz off v bl tk lp
    have pt : ∀ c0 c1 c2 c3 : PV, AM.part false 1 3 [c0, c1, c2, c3] = some c3 := fun _ _ _ _ => rfl
    have ld : ∀ c0 c1 c2 c3 v : PV, laid [c0, c1, c2, c3] 3 [v] = [c0, c1, c2, v] := fun _ _ _ _ _ => rfl
    simp only [S8.b2, canon_v, canon_sl, canon_clo, canon_ptr, need_refl, elems_sl, sf_v, sf_sl, sf_ptr, sf_ptrh, sf_clo, sf_dead, sf_nil, sf_full, sf_fr, need_true, ibeq, beq_ba, nbeq, nble, nblt, AM.nth, List.getD_cons_succ, List.getD_cons_zero, Option.bind_some, Option.bind_none, Option.map_some, onBool, AM.onG, onFn, seqK, retK, Ex.outOf, cond_true, cond_false, bin_lss, bin_leq, bin_gtr, bin_geq, bin_eql, bin_neq, bin_add, bin_sub, bin_mul, un_not, str_eql, str_neq, app_push, app_stk, app_tk, app_lp, load_app, load_app0, load_fp, store_app, store_app0, leave_app, leave_app0, AM.ownPut, AM.cellsOf, AM.shift, aPick, fin_v, fin_sl, beq_true, okSz, List.length_cons, List.length_nil, Nat.zero_add, Nat.add_zero, Nat.reduceAdd, decide_true, decide_false, Bool.and_true, Bool.true_and, Bool.and_self, Bool.not_true, Bool.not_false, List.getElem?_cons_zero, List.getElem?_cons_succ, List.nil_append, List.cons_append, hpp_app, hpp_stk, hpp_tk, hpp_lp, hpp_hp, app_lpadd, hload, hload0, hloadh, hstore, hstore0, hleave, hleave0, hfin_v, hfin_sl, hback, hloop, hsetlp, max_int, min_int, hstore_v, hstore_v0, hstore_s, hstore_d, modify_concat, part1, hbackt, hbackl, hback0, List.take_succ_cons, List.take_left, List.take_zero, List.take_nil, hk1, hk2, M.own0, pt, h5, b1, b2, e1, sb, okCells, ld, Nat.reduceLeDiff, Option.map_some, need_refl, List.modify_zero_cons, Nat.reduceSucc, decide_true, Nat.le_refl]
    rfl
end
end Go.Proofs.Ytkbhejcfejembaa.S

/- Trees: the maker of programs. No condition. -/
namespace Go.Proofs.Ytkbhejcfejembaa.S
open Go Go.AM Go.Proofs
set_option linter.unusedVariables false
set_option linter.unusedSimpArgs false
set_option maxHeartbeats 4000000

def csz (l : List (List S)) : Nat := (l.map cnts).sum
def bsz (l : List (List S)) : Nat := (l.map sszs).sum
def Pg.rng (p : Pg) : Prop := (∀ x ∈ p.recs, x.rng) ∧ nrngs p.globals ∧ (∀ x ∈ p.funs, x.rng) ∧ ∀ x ∈ p.threads, x.rng
theorem make_ev (nums : List Int) (hn : nums.length ≤ 400) : ∃ p : Pg, p.funs.length ≤ 3 ∧ p.threads.length ≤ 4 ∧ (bsz p.bodies ≤ 6000 ∧ csz p.bodies ≤ 60) ∧ (p.rng ∧ p.recs.length ≤ 3) ∧ ∀ st : St, E L (.func 8) [.sl (ints nums) .dead] st = some (.agg p.enc, st) := by
  obtain ⟨r1, a1, r10, r11, h1⟩ := pick_ev nums hn 0 60 3 (by decide) (by decide)
  obtain ⟨rs, a2, l2, ⟨rl, rg⟩, rl2, rl3, h2⟩ := recs_loop nums hn r1.toNat (by omega) a1 60 (by decide)
  subst rl3
  obtain ⟨gs, a3, gg, h3⟩ := names_mk nums hn 4 (by decide) (by decide) a2 60
  obtain ⟨r4, a4, r40, r41, h4⟩ := pick_ev nums hn a3 60 3 (by decide) (by decide)
  obtain ⟨fs, a5, l5, ⟨fl, fg⟩, fl2, fl3, h5⟩ := funs_loop nums hn r4.toNat (by omega) a4 60 (by decide)
  obtain ⟨r6, a6, r60, r61, h6⟩ := pick_ev nums hn a5 l5 4 (by decide) (by decide)
  obtain ⟨ts, a7, l7, ⟨tl, tg⟩, tl2, tl3, h7⟩ := thrs_loop nums hn r6.toNat (by omega) a6 l5 (by omega)
  have c1 : (r1.toNat : Int) = r1 := by omega
  have c4 : (r4.toNat : Int) = r4 := by omega
  have c6 : (r6.toNat : Int) = r6 := by omega
  refine ⟨⟨rs, gs, fs, ts⟩, by show fs.length ≤ 3; omega, by show ts.length ≤ 4; omega, ?_, ⟨⟨rg, gg, fg, tg⟩, by show rs.length ≤ 3; omega⟩, fun st => ?_⟩
  · simp only [bsz, csz, Pg.bodies, List.map_append, List.sum_append, List.map_map]
    have e1 : (fs.map (sszs ∘ Fu.body)).sum = (fs.map fun f => sszs f.body).sum := rfl
    have e2 : (ts.map (sszs ∘ Th.body)).sum = (ts.map fun f => sszs f.body).sum := rfl
    have e3 : (fs.map (cnts ∘ Fu.body)).sum = (fs.map fun f => cnts f.body).sum := rfl
    have e4 : (ts.map (cnts ∘ Th.body)).sum = (ts.map fun f => cnts f.body).sum := rfl
    omega
  obtain ⟨s, rfl⟩ : ∃ s : St, st = s.app [] [] [] := ⟨st, (app_nil st).symm⟩
  let Q : Nat → Nat → St := fun a l => s.app [⟨[.sl [] .nil, .sl [] .nil, .sl [] .nil, .sl [] .nil], []⟩, ⟨[.sl (ints nums) .dead, int a, int l], []⟩] [] []
  have hQ : ∀ a l bl tk lp, (Q a l).app bl tk lp = s.app (⟨[.sl [] .nil, .sl [] .nil, .sl [] .nil, .sl [] .nil], []⟩ :: ⟨[.sl (ints nums) .dead, int a, int l], []⟩ :: bl) tk lp := fun a l bl tk lp => by simp [Q, St.app]
  have M : Mk nums Q (s.stk.length + 2) s.tk.length s.lp.length (s.stk.length + 1) :=
    { hN := fun a l => by simp [Q, app_stk]
      hT := fun a l => by simp [Q, app_tk]
      hL := fun a l => by simp [Q, app_lp]
      hb := by omega
      ld := fun a l => by simp only [Q, app_blk]; rfl
      st := fun a l a' l' => by simp only [Q, setBlk_app]; rfl }
  let Z : Blk := ⟨[.sl [] .nil, .sl [] .nil, .sl [] .nil, .sl [] .nil], []⟩
  have h1 := h1 Q _ _ _ _ M [Z] []
  obtain ⟨k2, t2, h2⟩ := h2 Q _ _ _ _ s.stk.length M (by omega) (.ptr false s.stk.length 0) .u (.sl [] .nil) (.sl [] .nil) (.sl [] .nil) [] .nil [] (Own.nil ..) (by simp; omega)
  rw [c1, List.nil_append] at h2
  have h3 := h3 Q _ _ _ _ M [⟨[.sl (rs.map Rc.enc) k2, .sl [] .nil, .sl [] .nil, .sl [] .nil], []⟩] t2
  have h4 := h4 Q _ _ _ _ M [⟨[.sl (rs.map Rc.enc) k2, .sl (nms gs) .dead, .sl [] .nil, .sl [] .nil], []⟩] t2
  obtain ⟨k5, t5, h5⟩ := h5 Q _ _ _ _ s.stk.length M (by omega) (.ptr false s.stk.length 0) (.sl (rs.map Rc.enc) k2) (.sl (nms gs) .dead) .u (.sl [] .nil) [] .nil t2 (Own.nil ..) (by simp; omega)
  rw [c4, List.nil_append] at h5
  have h6 := h6 Q _ _ _ _ M [⟨[.sl (rs.map Rc.enc) k2, .sl (nms gs) .dead, .sl (fs.map Fu.enc) k5, .sl [] .nil], []⟩] t5
  obtain ⟨k7, t7, h7⟩ := h7 Q _ _ _ _ s.stk.length M (by omega) (.ptr false s.stk.length 0) (.sl (rs.map Rc.enc) k2) (.sl (nms gs) .dead) (.sl (fs.map Fu.enc) k5) .u [] .nil t5 (Own.nil ..) (by simp; omega)
  rw [c6, List.nil_append] at h7
  simp only [hQ, List.map_nil] at h1 h2 h3 h4 h5 h6 h7
  rw [show ((0 : Nat) : Int) = 0 from rfl, show ((60 : Nat) : Int) = 60 from rfl] at h1
  rw [show ((60 : Nat) : Int) = 60 from rfl] at h2 h3 h4 h5
  rw [show ((4 : Nat) : Int) = 4 from rfl] at h3
  have b0 : rBuild [(0, 1), (1, 1), (2, 1)] [.sl [] .nil, .v (.int .i64 0), .v (.int .i64 0)] [(0, .sl (ints nums) .dead), (2, PV.v (.int .i64 60))] = some (.agg [.sl (ints nums) .dead, int 0, int 60]) := rfl
  have ld1 : ∀ c0 c1 c2 c3 v : PV, laid [c0, c1, c2, c3] 1 [v] = [c0, v, c2, c3] := fun _ _ _ _ _ => rfl
  have ld4 : ∀ c0 c1 c2 c3 d0 d1 d2 d3 : PV, laid [c0, c1, c2, c3] 0 [d0, d1, d2, d3] = [d0, d1, d2, d3] := fun _ _ _ _ _ _ _ _ => rfl
  have wh : ∀ c0 c1 c2 c3 : PV, AM.part true 4 0 [c0, c1, c2, c3] = some (.agg [c0, c1, c2, c3]) := fun _ _ _ _ => rfl
  clear hQ M
  simp only [Z] at *
  rw [S8_eq]
  simp [S8, canon_v, canon_sl, canon_clo, canon_ptr, need_refl, elems_sl, sf_v, sf_sl, sf_ptr, sf_ptrh, sf_clo, sf_dead, sf_nil, sf_full, sf_fr, need_true, ibeq, beq_ba, nbeq, nble, nblt, AM.nth, List.getD_cons_succ, List.getD_cons_zero, Option.bind_some, Option.bind_none, Option.map_some, onBool, AM.onG, onFn, seqK, retK, Ex.outOf, cond_true, cond_false, bin_lss, bin_leq, bin_gtr, bin_geq, bin_eql, bin_neq, bin_add, bin_sub, bin_mul, un_not, str_eql, str_neq, app_push, app_stk, app_tk, app_lp, load_app, load_app0, load_fp, store_app, store_app0, leave_app, leave_app0, AM.ownPut, AM.cellsOf, AM.shift, aPick, fin_v, fin_sl, beq_true, okSz, List.length_cons, List.length_nil, Nat.zero_add, Nat.add_zero, Nat.reduceAdd, decide_true, decide_false, Bool.and_true, Bool.true_and, Bool.and_self, Bool.not_true, Bool.not_false, List.getElem?_cons_zero, List.getElem?_cons_succ, List.nil_append, List.cons_append, hpp_app, hpp_stk, hpp_tk, hpp_lp, hpp_hp, app_lpadd, hload, hload0, hloadh, hstore, hstore0, hleave, hleave0, hfin_v, hfin_sl, hback, hloop, hsetlp, max_int, min_int, hstore_v, hstore_v0, hstore_s, hstore_d, modify_concat, part1, hbackt, hbackl, hback0, List.take_succ_cons, List.take_left, List.take_zero, List.take_nil, b0, h1, h2, h3, okCells, ld1, h4, h5, h6, h7, wh, ld4, fin_agg, flatC, canonC_sl, Pg.enc]
end Go.Proofs.Ytkbhejcfejembaa.S

/- Trees: when two programs are the same. Printed by mkSm.py. No condition. -/
namespace Go.Proofs.Ytkbhejcfejembaa.S
open Go Go.AM Go.Proofs
set_option linter.unusedVariables false
set_option linter.unusedSimpArgs false
set_option maxHeartbeats 4000000

def eqf {α : Type} (f : α → α → Bool) : List α → List α → Bool
  | [], [] => true
  | x :: xs, y :: ys => f x y && eqf f xs ys
  | _, _ => false
theorem eqf_len {α : Type} (f : α → α → Bool) : ∀ (xs ys : List α), xs.length ≠ ys.length → eqf f xs ys = false
  | [], [], h => absurd rfl h
  | [], y :: ys, h => by simp [eqf]
  | x :: xs, [], h => by simp [eqf]
  | x :: xs, y :: ys, h => by simp [eqf, eqf_len f xs ys (by simpa using h)]
theorem eqf_refl {α : Type} (f : α → α → Bool) : ∀ (xs : List α), (∀ x ∈ xs, f x x = true) → eqf f xs xs = true
  | [], h => rfl
  | x :: xs, h => by simp [eqf, h x List.mem_cons_self, eqf_refl f xs fun y hy => h y (List.mem_cons_of_mem _ hy)]

def Nm.same (x y : Nm) : Bool := decide (x.name = y.name) && ((x.kd == y.kd) && ((x.rc == y.rc) && true))
theorem nm_ev (x y : Nm) (st : St) : E L (.func 32) [.agg x.enc, .agg y.enc] st = some (.v (.bool (x.same y)), st) := by
  obtain ⟨s, rfl⟩ : ∃ s : St, st = s.app [] [] [] := ⟨st, (app_nil st).symm⟩
  have p0 : ∀ x : Nm, AM.part false 1 0 x.enc = some (str x.name) := fun _ => rfl
  have p1 : ∀ x : Nm, AM.part true 2 1 x.enc = some (.agg [int x.kd, str x.rc]) := fun _ => rfl
  rw [S32_eq, Nm.same]
  by_cases h0 : x.name = y.name
  case neg => simp [S32, canon_v, canon_sl, canon_clo, canon_ptr, need_refl, elems_sl, sf_v, sf_sl, sf_ptr, sf_ptrh, sf_clo, sf_dead, sf_nil, sf_full, sf_fr, need_true, ibeq, beq_ba, nbeq, nble, nblt, AM.nth, List.getD_cons_succ, List.getD_cons_zero, Option.bind_some, Option.bind_none, Option.map_some, onBool, AM.onG, onFn, seqK, retK, Ex.outOf, cond_true, cond_false, bin_lss, bin_leq, bin_gtr, bin_geq, bin_eql, bin_neq, bin_add, bin_sub, bin_mul, un_not, str_eql, str_neq, app_push, app_stk, app_tk, app_lp, load_app, load_app0, load_fp, store_app, store_app0, leave_app, leave_app0, AM.ownPut, AM.cellsOf, AM.shift, aPick, fin_v, fin_sl, beq_true, okSz, List.length_cons, List.length_nil, Nat.zero_add, Nat.add_zero, Nat.reduceAdd, decide_true, decide_false, Bool.and_true, Bool.true_and, Bool.and_self, Bool.not_true, Bool.not_false, List.getElem?_cons_zero, List.getElem?_cons_succ, List.nil_append, List.cons_append, hpp_app, hpp_stk, hpp_tk, hpp_lp, hpp_hp, app_lpadd, hload, hload0, hloadh, hstore, hstore0, hleave, hleave0, hfin_v, hfin_sl, hback, hloop, hsetlp, max_int, min_int, hstore_v, hstore_v0, hstore_s, hstore_d, modify_concat, part1, hbackt, hbackl, hback0, List.take_succ_cons, List.take_left, List.take_zero, List.take_nil, p0, p1, steq_40, h0]
  simp [S32, canon_v, canon_sl, canon_clo, canon_ptr, need_refl, elems_sl, sf_v, sf_sl, sf_ptr, sf_ptrh, sf_clo, sf_dead, sf_nil, sf_full, sf_fr, need_true, ibeq, beq_ba, nbeq, nble, nblt, AM.nth, List.getD_cons_succ, List.getD_cons_zero, Option.bind_some, Option.bind_none, Option.map_some, onBool, AM.onG, onFn, seqK, retK, Ex.outOf, cond_true, cond_false, bin_lss, bin_leq, bin_gtr, bin_geq, bin_eql, bin_neq, bin_add, bin_sub, bin_mul, un_not, str_eql, str_neq, app_push, app_stk, app_tk, app_lp, load_app, load_app0, load_fp, store_app, store_app0, leave_app, leave_app0, AM.ownPut, AM.cellsOf, AM.shift, aPick, fin_v, fin_sl, beq_true, okSz, List.length_cons, List.length_nil, Nat.zero_add, Nat.add_zero, Nat.reduceAdd, decide_true, decide_false, Bool.and_true, Bool.true_and, Bool.and_self, Bool.not_true, Bool.not_false, List.getElem?_cons_zero, List.getElem?_cons_succ, List.nil_append, List.cons_append, hpp_app, hpp_stk, hpp_tk, hpp_lp, hpp_hp, app_lpadd, hload, hload0, hloadh, hstore, hstore0, hleave, hleave0, hfin_v, hfin_sl, hback, hloop, hsetlp, max_int, min_int, hstore_v, hstore_v0, hstore_s, hstore_d, modify_concat, part1, hbackt, hbackl, hback0, List.take_succ_cons, List.take_left, List.take_zero, List.take_nil, p0, p1, steq_40, h0]
theorem eqf31_loop (f : Nm → Nm → Bool) (s : St) (xs0 ys0 : List Nm) (hb : xs0.length ≤ 1000000) (hl : xs0.length = ys0.length) : ∀ (xs ys p q : List Nm), xs0 = p ++ xs → ys0 = q ++ ys → p.length = q.length →
    (∀ x ∈ xs, ∀ (y : Nm) (st : St), E L (.func 32) [.agg x.enc, .agg y.enc] st = some (.v (.bool (f x y)), st)) →
    ∃ j : Int, itE (S31.b0 (E L) itE s.stk.length s.lp.length) [.sl (ys0.map Nm.enc) .dead, .clo (.func 32) [], .v (.bool false), .sl (xs0.map Nm.enc) .dead, int xs0.length, int p.length] (s.app [] [] []) =
      some (bif eqf f xs ys then .exit 0 else .ret, [.sl (ys0.map Nm.enc) .dead, .clo (.func 32) [], .v (.bool false), .sl (xs0.map Nm.enc) .dead, int xs0.length, int j], s.app [] [] [])
  | [], ys, p, q, hx, hy, hp, hf => by
    obtain rfl : ys = [] := by
      have := congrArg List.length hx
      have := congrArg List.length hy
      simp at *
      exact List.length_eq_zero_iff.1 (by omega)
    refine ⟨p.length, ?_⟩
    rw [itE_eq]
    have e : xs0.length = p.length := by rw [hx]; simp
    simp [S31.b0, canon_v, canon_sl, canon_clo, canon_ptr, need_refl, elems_sl, sf_v, sf_sl, sf_ptr, sf_ptrh, sf_clo, sf_dead, sf_nil, sf_full, sf_fr, need_true, ibeq, beq_ba, nbeq, nble, nblt, AM.nth, List.getD_cons_succ, List.getD_cons_zero, Option.bind_some, Option.bind_none, Option.map_some, onBool, AM.onG, onFn, seqK, retK, Ex.outOf, cond_true, cond_false, bin_lss, bin_leq, bin_gtr, bin_geq, bin_eql, bin_neq, bin_add, bin_sub, bin_mul, un_not, str_eql, str_neq, app_push, app_stk, app_tk, app_lp, load_app, load_app0, load_fp, store_app, store_app0, leave_app, leave_app0, AM.ownPut, AM.cellsOf, AM.shift, aPick, fin_v, fin_sl, beq_true, okSz, List.length_cons, List.length_nil, Nat.zero_add, Nat.add_zero, Nat.reduceAdd, decide_true, decide_false, Bool.and_true, Bool.true_and, Bool.and_self, Bool.not_true, Bool.not_false, List.getElem?_cons_zero, List.getElem?_cons_succ, List.nil_append, List.cons_append, hpp_app, hpp_stk, hpp_tk, hpp_lp, hpp_hp, app_lpadd, hload, hload0, hloadh, hstore, hstore0, hleave, hleave0, hfin_v, hfin_sl, hback, hloop, hsetlp, max_int, min_int, hstore_v, hstore_v0, hstore_s, hstore_d, modify_concat, part1, hbackt, hbackl, hback0, List.take_succ_cons, List.take_left, List.take_zero, List.take_nil, e, eqf]
  | x :: xs, ys, p, q, hx, hy, hp, hf => by
    match ys, hy with
    | [], hy =>
      exfalso
      have := congrArg List.length hx
      have := congrArg List.length hy
      simp at *
      omega
    | y :: ys, hy =>
      have hlt : (p.length : Int) < (xs0.length : Int) := by rw [hx]; simp; omega
      have g1 : (xs0.map Nm.enc)[p.length]? = some x.enc := by rw [hx]; exact map_get _ p x xs
      have g2 : (ys0.map Nm.enc)[p.length]? = some y.enc := by rw [hy, hp]; exact map_get _ q y ys
      have r1 : inRange (p.length : Int) xs0.length = true := by rw [hx]; exact inR p x xs
      have r2 : inRange (p.length : Int) ys0.length = true := by rw [hy, hp]; exact inR q y ys
      have w1 : IntKind.i64.wrap ((p.length : Int) + 1) = ((p ++ [x]).length : Int) := by rw [IntWalk.i64_in _ (by omega)]; simp
      have hc := hf x List.mem_cons_self y
      have el : ∀ x : Nm, x.enc.length = 5 := fun _ => rfl
      have ew : ∀ x : Nm, AM.part true 5 0 x.enc = some (.agg x.enc) := fun _ => rfl
      have eo : ∀ x : Nm, okCells x.enc = true := fun _ => rfl
      have ec : ∀ x : Nm, canon (.agg x.enc) = .agg x.enc := fun _ => rfl
      have hstep : S31.b0 (E L) itE s.stk.length s.lp.length [.sl (ys0.map Nm.enc) .dead, .clo (.func 32) [], .v (.bool false), .sl (xs0.map Nm.enc) .dead, int xs0.length, int p.length] (s.app [] [] []) =
          some (bif f x y then (.normal, [.sl (ys0.map Nm.enc) .dead, .clo (.func 32) [], .v (.bool false), .sl (xs0.map Nm.enc) .dead, int xs0.length, int (p ++ [x]).length], s.app [] [] []) else
            (.ret, [.sl (ys0.map Nm.enc) .dead, .clo (.func 32) [], .v (.bool false), .sl (xs0.map Nm.enc) .dead, int xs0.length, int p.length], s.app [] [] [])) := by
        simp [S31.b0, canon_v, canon_sl, canon_clo, canon_ptr, need_refl, elems_sl, sf_v, sf_sl, sf_ptr, sf_ptrh, sf_clo, sf_dead, sf_nil, sf_full, sf_fr, need_true, ibeq, beq_ba, nbeq, nble, nblt, AM.nth, List.getD_cons_succ, List.getD_cons_zero, Option.bind_some, Option.bind_none, Option.map_some, onBool, AM.onG, onFn, seqK, retK, Ex.outOf, cond_true, cond_false, bin_lss, bin_leq, bin_gtr, bin_geq, bin_eql, bin_neq, bin_add, bin_sub, bin_mul, un_not, str_eql, str_neq, app_push, app_stk, app_tk, app_lp, load_app, load_app0, load_fp, store_app, store_app0, leave_app, leave_app0, AM.ownPut, AM.cellsOf, AM.shift, aPick, fin_v, fin_sl, beq_true, okSz, List.length_cons, List.length_nil, Nat.zero_add, Nat.add_zero, Nat.reduceAdd, decide_true, decide_false, Bool.and_true, Bool.true_and, Bool.and_self, Bool.not_true, Bool.not_false, List.getElem?_cons_zero, List.getElem?_cons_succ, List.nil_append, List.cons_append, hpp_app, hpp_stk, hpp_tk, hpp_lp, hpp_hp, app_lpadd, hload, hload0, hloadh, hstore, hstore0, hleave, hleave0, hfin_v, hfin_sl, hback, hloop, hsetlp, max_int, min_int, hstore_v, hstore_v0, hstore_s, hstore_d, modify_concat, part1, hbackt, hbackl, hback0, List.take_succ_cons, List.take_left, List.take_zero, List.take_nil, hlt, ia_25, r1, r2, g1, g2, el, ew, eo, ec, laid0, hc]
        cases f x y <;> simp [canon_v, canon_sl, canon_clo, canon_ptr, need_refl, elems_sl, sf_v, sf_sl, sf_ptr, sf_ptrh, sf_clo, sf_dead, sf_nil, sf_full, sf_fr, need_true, ibeq, beq_ba, nbeq, nble, nblt, AM.nth, List.getD_cons_succ, List.getD_cons_zero, Option.bind_some, Option.bind_none, Option.map_some, onBool, AM.onG, onFn, seqK, retK, Ex.outOf, cond_true, cond_false, bin_lss, bin_leq, bin_gtr, bin_geq, bin_eql, bin_neq, bin_add, bin_sub, bin_mul, un_not, str_eql, str_neq, app_push, app_stk, app_tk, app_lp, load_app, load_app0, load_fp, store_app, store_app0, leave_app, leave_app0, AM.ownPut, AM.cellsOf, AM.shift, aPick, fin_v, fin_sl, beq_true, okSz, List.length_cons, List.length_nil, Nat.zero_add, Nat.add_zero, Nat.reduceAdd, decide_true, decide_false, Bool.and_true, Bool.true_and, Bool.and_self, Bool.not_true, Bool.not_false, List.getElem?_cons_zero, List.getElem?_cons_succ, List.nil_append, List.cons_append, hpp_app, hpp_stk, hpp_tk, hpp_lp, hpp_hp, app_lpadd, hload, hload0, hloadh, hstore, hstore0, hleave, hleave0, hfin_v, hfin_sl, hback, hloop, hsetlp, max_int, min_int, hstore_v, hstore_v0, hstore_s, hstore_d, modify_concat, part1, hbackt, hbackl, hback0, List.take_succ_cons, List.take_left, List.take_zero, List.take_nil, w1]
      cases hxy : f x y with
      | true =>
        rw [hxy] at hstep
        obtain ⟨j, hj⟩ := eqf31_loop f s xs0 ys0 hb hl xs ys (p ++ [x]) (q ++ [y]) (by simp [hx]) (by simp [hy]) (by simp [hp]) fun z hz => hf z (List.mem_cons_of_mem _ hz)
        refine ⟨j, ?_⟩
        rw [it_step hstep, hj]
        simp [eqf, hxy]
      | false =>
        rw [hxy] at hstep
        refine ⟨p.length, ?_⟩
        rw [it_ret hstep]
        simp [eqf, hxy]
theorem eqf31_ev (f : Nm → Nm → Bool) (xs ys : List Nm) (hb : xs.length ≤ 1000000) (hf : ∀ x ∈ xs, ∀ (y : Nm) (st : St), E L (.func 32) [.agg x.enc, .agg y.enc] st = some (.v (.bool (f x y)), st)) (st : St) :
    E L (.func 31) [.sl (xs.map Nm.enc) .dead, .sl (ys.map Nm.enc) .dead, .clo (.func 32) []] st = some (.v (.bool (eqf f xs ys)), st) := by
  obtain ⟨s, rfl⟩ : ∃ s : St, st = s.app [] [] [] := ⟨st, (app_nil st).symm⟩
  rw [S31_eq]
  by_cases hl : xs.length = ys.length
  · obtain ⟨j, hj⟩ := eqf31_loop f s xs ys hb hl xs ys [] [] rfl rfl rfl hf
    simp [S31, canon_v, canon_sl, canon_clo, canon_ptr, need_refl, elems_sl, sf_v, sf_sl, sf_ptr, sf_ptrh, sf_clo, sf_dead, sf_nil, sf_full, sf_fr, need_true, ibeq, beq_ba, nbeq, nble, nblt, AM.nth, List.getD_cons_succ, List.getD_cons_zero, Option.bind_some, Option.bind_none, Option.map_some, onBool, AM.onG, onFn, seqK, retK, Ex.outOf, cond_true, cond_false, bin_lss, bin_leq, bin_gtr, bin_geq, bin_eql, bin_neq, bin_add, bin_sub, bin_mul, un_not, str_eql, str_neq, app_push, app_stk, app_tk, app_lp, load_app, load_app0, load_fp, store_app, store_app0, leave_app, leave_app0, AM.ownPut, AM.cellsOf, AM.shift, aPick, fin_v, fin_sl, beq_true, okSz, List.length_cons, List.length_nil, Nat.zero_add, Nat.add_zero, Nat.reduceAdd, decide_true, decide_false, Bool.and_true, Bool.true_and, Bool.and_self, Bool.not_true, Bool.not_false, List.getElem?_cons_zero, List.getElem?_cons_succ, List.nil_append, List.cons_append, hpp_app, hpp_stk, hpp_tk, hpp_lp, hpp_hp, app_lpadd, hload, hload0, hloadh, hstore, hstore0, hleave, hleave0, hfin_v, hfin_sl, hback, hloop, hsetlp, max_int, min_int, hstore_v, hstore_v0, hstore_s, hstore_d, modify_concat, part1, hbackt, hbackl, hback0, List.take_succ_cons, List.take_left, List.take_zero, List.take_nil, len_25, hl] at hj ⊢
    rw [hj]
    cases eqf f xs ys <;> simp [canon_v, canon_sl, canon_clo, canon_ptr, need_refl, elems_sl, sf_v, sf_sl, sf_ptr, sf_ptrh, sf_clo, sf_dead, sf_nil, sf_full, sf_fr, need_true, ibeq, beq_ba, nbeq, nble, nblt, AM.nth, List.getD_cons_succ, List.getD_cons_zero, Option.bind_some, Option.bind_none, Option.map_some, onBool, AM.onG, onFn, seqK, retK, Ex.outOf, cond_true, cond_false, bin_lss, bin_leq, bin_gtr, bin_geq, bin_eql, bin_neq, bin_add, bin_sub, bin_mul, un_not, str_eql, str_neq, app_push, app_stk, app_tk, app_lp, load_app, load_app0, load_fp, store_app, store_app0, leave_app, leave_app0, AM.ownPut, AM.cellsOf, AM.shift, aPick, fin_v, fin_sl, beq_true, okSz, List.length_cons, List.length_nil, Nat.zero_add, Nat.add_zero, Nat.reduceAdd, decide_true, decide_false, Bool.and_true, Bool.true_and, Bool.and_self, Bool.not_true, Bool.not_false, List.getElem?_cons_zero, List.getElem?_cons_succ, List.nil_append, List.cons_append, hpp_app, hpp_stk, hpp_tk, hpp_lp, hpp_hp, app_lpadd, hload, hload0, hloadh, hstore, hstore0, hleave, hleave0, hfin_v, hfin_sl, hback, hloop, hsetlp, max_int, min_int, hstore_v, hstore_v0, hstore_s, hstore_d, modify_concat, part1, hbackt, hbackl, hback0, List.take_succ_cons, List.take_left, List.take_zero, List.take_nil]
  · have : ¬ (xs.length : Int) = ys.length := by omega
    simp [S31, canon_v, canon_sl, canon_clo, canon_ptr, need_refl, elems_sl, sf_v, sf_sl, sf_ptr, sf_ptrh, sf_clo, sf_dead, sf_nil, sf_full, sf_fr, need_true, ibeq, beq_ba, nbeq, nble, nblt, AM.nth, List.getD_cons_succ, List.getD_cons_zero, Option.bind_some, Option.bind_none, Option.map_some, onBool, AM.onG, onFn, seqK, retK, Ex.outOf, cond_true, cond_false, bin_lss, bin_leq, bin_gtr, bin_geq, bin_eql, bin_neq, bin_add, bin_sub, bin_mul, un_not, str_eql, str_neq, app_push, app_stk, app_tk, app_lp, load_app, load_app0, load_fp, store_app, store_app0, leave_app, leave_app0, AM.ownPut, AM.cellsOf, AM.shift, aPick, fin_v, fin_sl, beq_true, okSz, List.length_cons, List.length_nil, Nat.zero_add, Nat.add_zero, Nat.reduceAdd, decide_true, decide_false, Bool.and_true, Bool.true_and, Bool.and_self, Bool.not_true, Bool.not_false, List.getElem?_cons_zero, List.getElem?_cons_succ, List.nil_append, List.cons_append, hpp_app, hpp_stk, hpp_tk, hpp_lp, hpp_hp, app_lpadd, hload, hload0, hloadh, hstore, hstore0, hleave, hleave0, hfin_v, hfin_sl, hback, hloop, hsetlp, max_int, min_int, hstore_v, hstore_v0, hstore_s, hstore_d, modify_concat, part1, hbackt, hbackl, hback0, List.take_succ_cons, List.take_left, List.take_zero, List.take_nil, len_25, this, eqf_len f xs ys hl]
def Rc.same (x y : Rc) : Bool := decide (x.name = y.name) && eqf Nm.same x.fields y.fields
theorem rc_ev (x y : Rc) (h : x.fields.length ≤ 1000000) (st : St) : E L (.func 30) [.agg x.enc, .agg y.enc] st = some (.v (.bool (x.same y)), st) := by
  obtain ⟨s, rfl⟩ : ∃ s : St, st = s.app [] [] [] := ⟨st, (app_nil st).symm⟩
  have he := eqf31_ev Nm.same x.fields y.fields h fun x _ y st => nm_ev x y st
  have p0 : ∀ x : Rc, AM.part false 1 0 x.enc = some (str x.name) := fun _ => rfl
  have p1 : ∀ x : Rc, AM.part false 1 1 x.enc = some (.sl (x.fields.map Nm.enc) .dead) := fun _ => rfl
  rw [S30_eq, Rc.same]
  by_cases h0 : x.name = y.name
  case neg => simp [S30, canon_v, canon_sl, canon_clo, canon_ptr, need_refl, elems_sl, sf_v, sf_sl, sf_ptr, sf_ptrh, sf_clo, sf_dead, sf_nil, sf_full, sf_fr, need_true, ibeq, beq_ba, nbeq, nble, nblt, AM.nth, List.getD_cons_succ, List.getD_cons_zero, Option.bind_some, Option.bind_none, Option.map_some, onBool, AM.onG, onFn, seqK, retK, Ex.outOf, cond_true, cond_false, bin_lss, bin_leq, bin_gtr, bin_geq, bin_eql, bin_neq, bin_add, bin_sub, bin_mul, un_not, str_eql, str_neq, app_push, app_stk, app_tk, app_lp, load_app, load_app0, load_fp, store_app, store_app0, leave_app, leave_app0, AM.ownPut, AM.cellsOf, AM.shift, aPick, fin_v, fin_sl, beq_true, okSz, List.length_cons, List.length_nil, Nat.zero_add, Nat.add_zero, Nat.reduceAdd, decide_true, decide_false, Bool.and_true, Bool.true_and, Bool.and_self, Bool.not_true, Bool.not_false, List.getElem?_cons_zero, List.getElem?_cons_succ, List.nil_append, List.cons_append, hpp_app, hpp_stk, hpp_tk, hpp_lp, hpp_hp, app_lpadd, hload, hload0, hloadh, hstore, hstore0, hleave, hleave0, hfin_v, hfin_sl, hback, hloop, hsetlp, max_int, min_int, hstore_v, hstore_v0, hstore_s, hstore_d, modify_concat, part1, hbackt, hbackl, hback0, List.take_succ_cons, List.take_left, List.take_zero, List.take_nil, p0, p1, he, h0]
  simp [S30, canon_v, canon_sl, canon_clo, canon_ptr, need_refl, elems_sl, sf_v, sf_sl, sf_ptr, sf_ptrh, sf_clo, sf_dead, sf_nil, sf_full, sf_fr, need_true, ibeq, beq_ba, nbeq, nble, nblt, AM.nth, List.getD_cons_succ, List.getD_cons_zero, Option.bind_some, Option.bind_none, Option.map_some, onBool, AM.onG, onFn, seqK, retK, Ex.outOf, cond_true, cond_false, bin_lss, bin_leq, bin_gtr, bin_geq, bin_eql, bin_neq, bin_add, bin_sub, bin_mul, un_not, str_eql, str_neq, app_push, app_stk, app_tk, app_lp, load_app, load_app0, load_fp, store_app, store_app0, leave_app, leave_app0, AM.ownPut, AM.cellsOf, AM.shift, aPick, fin_v, fin_sl, beq_true, okSz, List.length_cons, List.length_nil, Nat.zero_add, Nat.add_zero, Nat.reduceAdd, decide_true, decide_false, Bool.and_true, Bool.true_and, Bool.and_self, Bool.not_true, Bool.not_false, List.getElem?_cons_zero, List.getElem?_cons_succ, List.nil_append, List.cons_append, hpp_app, hpp_stk, hpp_tk, hpp_lp, hpp_hp, app_lpadd, hload, hload0, hloadh, hstore, hstore0, hleave, hleave0, hfin_v, hfin_sl, hback, hloop, hsetlp, max_int, min_int, hstore_v, hstore_v0, hstore_s, hstore_d, modify_concat, part1, hbackt, hbackl, hback0, List.take_succ_cons, List.take_left, List.take_zero, List.take_nil, p0, p1, he, h0]
theorem eqf29_loop (f : Rc → Rc → Bool) (s : St) (xs0 ys0 : List Rc) (hb : xs0.length ≤ 1000000) (hl : xs0.length = ys0.length) : ∀ (xs ys p q : List Rc), xs0 = p ++ xs → ys0 = q ++ ys → p.length = q.length →
    (∀ x ∈ xs, ∀ (y : Rc) (st : St), E L (.func 30) [.agg x.enc, .agg y.enc] st = some (.v (.bool (f x y)), st)) →
    ∃ j : Int, itE (S29.b0 (E L) itE s.stk.length s.lp.length) [.sl (ys0.map Rc.enc) .dead, .clo (.func 30) [], .v (.bool false), .sl (xs0.map Rc.enc) .dead, int xs0.length, int p.length] (s.app [] [] []) =
      some (bif eqf f xs ys then .exit 0 else .ret, [.sl (ys0.map Rc.enc) .dead, .clo (.func 30) [], .v (.bool false), .sl (xs0.map Rc.enc) .dead, int xs0.length, int j], s.app [] [] [])
  | [], ys, p, q, hx, hy, hp, hf => by
    obtain rfl : ys = [] := by
      have := congrArg List.length hx
      have := congrArg List.length hy
      simp at *
      exact List.length_eq_zero_iff.1 (by omega)
    refine ⟨p.length, ?_⟩
    rw [itE_eq]
    have e : xs0.length = p.length := by rw [hx]; simp
    simp [S29.b0, canon_v, canon_sl, canon_clo, canon_ptr, need_refl, elems_sl, sf_v, sf_sl, sf_ptr, sf_ptrh, sf_clo, sf_dead, sf_nil, sf_full, sf_fr, need_true, ibeq, beq_ba, nbeq, nble, nblt, AM.nth, List.getD_cons_succ, List.getD_cons_zero, Option.bind_some, Option.bind_none, Option.map_some, onBool, AM.onG, onFn, seqK, retK, Ex.outOf, cond_true, cond_false, bin_lss, bin_leq, bin_gtr, bin_geq, bin_eql, bin_neq, bin_add, bin_sub, bin_mul, un_not, str_eql, str_neq, app_push, app_stk, app_tk, app_lp, load_app, load_app0, load_fp, store_app, store_app0, leave_app, leave_app0, AM.ownPut, AM.cellsOf, AM.shift, aPick, fin_v, fin_sl, beq_true, okSz, List.length_cons, List.length_nil, Nat.zero_add, Nat.add_zero, Nat.reduceAdd, decide_true, decide_false, Bool.and_true, Bool.true_and, Bool.and_self, Bool.not_true, Bool.not_false, List.getElem?_cons_zero, List.getElem?_cons_succ, List.nil_append, List.cons_append, hpp_app, hpp_stk, hpp_tk, hpp_lp, hpp_hp, app_lpadd, hload, hload0, hloadh, hstore, hstore0, hleave, hleave0, hfin_v, hfin_sl, hback, hloop, hsetlp, max_int, min_int, hstore_v, hstore_v0, hstore_s, hstore_d, modify_concat, part1, hbackt, hbackl, hback0, List.take_succ_cons, List.take_left, List.take_zero, List.take_nil, e, eqf]
  | x :: xs, ys, p, q, hx, hy, hp, hf => by
    match ys, hy with
    | [], hy =>
      exfalso
      have := congrArg List.length hx
      have := congrArg List.length hy
      simp at *
      omega
    | y :: ys, hy =>
      have hlt : (p.length : Int) < (xs0.length : Int) := by rw [hx]; simp; omega
      have g1 : (xs0.map Rc.enc)[p.length]? = some x.enc := by rw [hx]; exact map_get _ p x xs
      have g2 : (ys0.map Rc.enc)[p.length]? = some y.enc := by rw [hy, hp]; exact map_get _ q y ys
      have r1 : inRange (p.length : Int) xs0.length = true := by rw [hx]; exact inR p x xs
      have r2 : inRange (p.length : Int) ys0.length = true := by rw [hy, hp]; exact inR q y ys
      have w1 : IntKind.i64.wrap ((p.length : Int) + 1) = ((p ++ [x]).length : Int) := by rw [IntWalk.i64_in _ (by omega)]; simp
      have hc := hf x List.mem_cons_self y
      have el : ∀ x : Rc, x.enc.length = 4 := fun _ => rfl
      have ew : ∀ x : Rc, AM.part true 4 0 x.enc = some (.agg x.enc) := fun _ => rfl
      have eo : ∀ x : Rc, okCells x.enc = true := fun _ => rfl
      have ec : ∀ x : Rc, canon (.agg x.enc) = .agg x.enc := fun _ => rfl
      have hstep : S29.b0 (E L) itE s.stk.length s.lp.length [.sl (ys0.map Rc.enc) .dead, .clo (.func 30) [], .v (.bool false), .sl (xs0.map Rc.enc) .dead, int xs0.length, int p.length] (s.app [] [] []) =
          some (bif f x y then (.normal, [.sl (ys0.map Rc.enc) .dead, .clo (.func 30) [], .v (.bool false), .sl (xs0.map Rc.enc) .dead, int xs0.length, int (p ++ [x]).length], s.app [] [] []) else
            (.ret, [.sl (ys0.map Rc.enc) .dead, .clo (.func 30) [], .v (.bool false), .sl (xs0.map Rc.enc) .dead, int xs0.length, int p.length], s.app [] [] [])) := by
        simp [S29.b0, canon_v, canon_sl, canon_clo, canon_ptr, need_refl, elems_sl, sf_v, sf_sl, sf_ptr, sf_ptrh, sf_clo, sf_dead, sf_nil, sf_full, sf_fr, need_true, ibeq, beq_ba, nbeq, nble, nblt, AM.nth, List.getD_cons_succ, List.getD_cons_zero, Option.bind_some, Option.bind_none, Option.map_some, onBool, AM.onG, onFn, seqK, retK, Ex.outOf, cond_true, cond_false, bin_lss, bin_leq, bin_gtr, bin_geq, bin_eql, bin_neq, bin_add, bin_sub, bin_mul, un_not, str_eql, str_neq, app_push, app_stk, app_tk, app_lp, load_app, load_app0, load_fp, store_app, store_app0, leave_app, leave_app0, AM.ownPut, AM.cellsOf, AM.shift, aPick, fin_v, fin_sl, beq_true, okSz, List.length_cons, List.length_nil, Nat.zero_add, Nat.add_zero, Nat.reduceAdd, decide_true, decide_false, Bool.and_true, Bool.true_and, Bool.and_self, Bool.not_true, Bool.not_false, List.getElem?_cons_zero, List.getElem?_cons_succ, List.nil_append, List.cons_append, hpp_app, hpp_stk, hpp_tk, hpp_lp, hpp_hp, app_lpadd, hload, hload0, hloadh, hstore, hstore0, hleave, hleave0, hfin_v, hfin_sl, hback, hloop, hsetlp, max_int, min_int, hstore_v, hstore_v0, hstore_s, hstore_d, modify_concat, part1, hbackt, hbackl, hback0, List.take_succ_cons, List.take_left, List.take_zero, List.take_nil, hlt, ia_24, r1, r2, g1, g2, el, ew, eo, ec, laid0, hc]
        cases f x y <;> simp [canon_v, canon_sl, canon_clo, canon_ptr, need_refl, elems_sl, sf_v, sf_sl, sf_ptr, sf_ptrh, sf_clo, sf_dead, sf_nil, sf_full, sf_fr, need_true, ibeq, beq_ba, nbeq, nble, nblt, AM.nth, List.getD_cons_succ, List.getD_cons_zero, Option.bind_some, Option.bind_none, Option.map_some, onBool, AM.onG, onFn, seqK, retK, Ex.outOf, cond_true, cond_false, bin_lss, bin_leq, bin_gtr, bin_geq, bin_eql, bin_neq, bin_add, bin_sub, bin_mul, un_not, str_eql, str_neq, app_push, app_stk, app_tk, app_lp, load_app, load_app0, load_fp, store_app, store_app0, leave_app, leave_app0, AM.ownPut, AM.cellsOf, AM.shift, aPick, fin_v, fin_sl, beq_true, okSz, List.length_cons, List.length_nil, Nat.zero_add, Nat.add_zero, Nat.reduceAdd, decide_true, decide_false, Bool.and_true, Bool.true_and, Bool.and_self, Bool.not_true, Bool.not_false, List.getElem?_cons_zero, List.getElem?_cons_succ, List.nil_append, List.cons_append, hpp_app, hpp_stk, hpp_tk, hpp_lp, hpp_hp, app_lpadd, hload, hload0, hloadh, hstore, hstore0, hleave, hleave0, hfin_v, hfin_sl, hback, hloop, hsetlp, max_int, min_int, hstore_v, hstore_v0, hstore_s, hstore_d, modify_concat, part1, hbackt, hbackl, hback0, List.take_succ_cons, List.take_left, List.take_zero, List.take_nil, w1]
      cases hxy : f x y with
      | true =>
        rw [hxy] at hstep
        obtain ⟨j, hj⟩ := eqf29_loop f s xs0 ys0 hb hl xs ys (p ++ [x]) (q ++ [y]) (by simp [hx]) (by simp [hy]) (by simp [hp]) fun z hz => hf z (List.mem_cons_of_mem _ hz)
        refine ⟨j, ?_⟩
        rw [it_step hstep, hj]
        simp [eqf, hxy]
      | false =>
        rw [hxy] at hstep
        refine ⟨p.length, ?_⟩
        rw [it_ret hstep]
        simp [eqf, hxy]
theorem eqf29_ev (f : Rc → Rc → Bool) (xs ys : List Rc) (hb : xs.length ≤ 1000000) (hf : ∀ x ∈ xs, ∀ (y : Rc) (st : St), E L (.func 30) [.agg x.enc, .agg y.enc] st = some (.v (.bool (f x y)), st)) (st : St) :
    E L (.func 29) [.sl (xs.map Rc.enc) .dead, .sl (ys.map Rc.enc) .dead, .clo (.func 30) []] st = some (.v (.bool (eqf f xs ys)), st) := by
  obtain ⟨s, rfl⟩ : ∃ s : St, st = s.app [] [] [] := ⟨st, (app_nil st).symm⟩
  rw [S29_eq]
  by_cases hl : xs.length = ys.length
  · obtain ⟨j, hj⟩ := eqf29_loop f s xs ys hb hl xs ys [] [] rfl rfl rfl hf
    simp [S29, canon_v, canon_sl, canon_clo, canon_ptr, need_refl, elems_sl, sf_v, sf_sl, sf_ptr, sf_ptrh, sf_clo, sf_dead, sf_nil, sf_full, sf_fr, need_true, ibeq, beq_ba, nbeq, nble, nblt, AM.nth, List.getD_cons_succ, List.getD_cons_zero, Option.bind_some, Option.bind_none, Option.map_some, onBool, AM.onG, onFn, seqK, retK, Ex.outOf, cond_true, cond_false, bin_lss, bin_leq, bin_gtr, bin_geq, bin_eql, bin_neq, bin_add, bin_sub, bin_mul, un_not, str_eql, str_neq, app_push, app_stk, app_tk, app_lp, load_app, load_app0, load_fp, store_app, store_app0, leave_app, leave_app0, AM.ownPut, AM.cellsOf, AM.shift, aPick, fin_v, fin_sl, beq_true, okSz, List.length_cons, List.length_nil, Nat.zero_add, Nat.add_zero, Nat.reduceAdd, decide_true, decide_false, Bool.and_true, Bool.true_and, Bool.and_self, Bool.not_true, Bool.not_false, List.getElem?_cons_zero, List.getElem?_cons_succ, List.nil_append, List.cons_append, hpp_app, hpp_stk, hpp_tk, hpp_lp, hpp_hp, app_lpadd, hload, hload0, hloadh, hstore, hstore0, hleave, hleave0, hfin_v, hfin_sl, hback, hloop, hsetlp, max_int, min_int, hstore_v, hstore_v0, hstore_s, hstore_d, modify_concat, part1, hbackt, hbackl, hback0, List.take_succ_cons, List.take_left, List.take_zero, List.take_nil, len_24, hl] at hj ⊢
    rw [hj]
    cases eqf f xs ys <;> simp [canon_v, canon_sl, canon_clo, canon_ptr, need_refl, elems_sl, sf_v, sf_sl, sf_ptr, sf_ptrh, sf_clo, sf_dead, sf_nil, sf_full, sf_fr, need_true, ibeq, beq_ba, nbeq, nble, nblt, AM.nth, List.getD_cons_succ, List.getD_cons_zero, Option.bind_some, Option.bind_none, Option.map_some, onBool, AM.onG, onFn, seqK, retK, Ex.outOf, cond_true, cond_false, bin_lss, bin_leq, bin_gtr, bin_geq, bin_eql, bin_neq, bin_add, bin_sub, bin_mul, un_not, str_eql, str_neq, app_push, app_stk, app_tk, app_lp, load_app, load_app0, load_fp, store_app, store_app0, leave_app, leave_app0, AM.ownPut, AM.cellsOf, AM.shift, aPick, fin_v, fin_sl, beq_true, okSz, List.length_cons, List.length_nil, Nat.zero_add, Nat.add_zero, Nat.reduceAdd, decide_true, decide_false, Bool.and_true, Bool.true_and, Bool.and_self, Bool.not_true, Bool.not_false, List.getElem?_cons_zero, List.getElem?_cons_succ, List.nil_append, List.cons_append, hpp_app, hpp_stk, hpp_tk, hpp_lp, hpp_hp, app_lpadd, hload, hload0, hloadh, hstore, hstore0, hleave, hleave0, hfin_v, hfin_sl, hback, hloop, hsetlp, max_int, min_int, hstore_v, hstore_v0, hstore_s, hstore_d, modify_concat, part1, hbackt, hbackl, hback0, List.take_succ_cons, List.take_left, List.take_zero, List.take_nil]
  · have : ¬ (xs.length : Int) = ys.length := by omega
    simp [S29, canon_v, canon_sl, canon_clo, canon_ptr, need_refl, elems_sl, sf_v, sf_sl, sf_ptr, sf_ptrh, sf_clo, sf_dead, sf_nil, sf_full, sf_fr, need_true, ibeq, beq_ba, nbeq, nble, nblt, AM.nth, List.getD_cons_succ, List.getD_cons_zero, Option.bind_some, Option.bind_none, Option.map_some, onBool, AM.onG, onFn, seqK, retK, Ex.outOf, cond_true, cond_false, bin_lss, bin_leq, bin_gtr, bin_geq, bin_eql, bin_neq, bin_add, bin_sub, bin_mul, un_not, str_eql, str_neq, app_push, app_stk, app_tk, app_lp, load_app, load_app0, load_fp, store_app, store_app0, leave_app, leave_app0, AM.ownPut, AM.cellsOf, AM.shift, aPick, fin_v, fin_sl, beq_true, okSz, List.length_cons, List.length_nil, Nat.zero_add, Nat.add_zero, Nat.reduceAdd, decide_true, decide_false, Bool.and_true, Bool.true_and, Bool.and_self, Bool.not_true, Bool.not_false, List.getElem?_cons_zero, List.getElem?_cons_succ, List.nil_append, List.cons_append, hpp_app, hpp_stk, hpp_tk, hpp_lp, hpp_hp, app_lpadd, hload, hload0, hloadh, hstore, hstore0, hleave, hleave0, hfin_v, hfin_sl, hback, hloop, hsetlp, max_int, min_int, hstore_v, hstore_v0, hstore_s, hstore_d, modify_concat, part1, hbackt, hbackl, hback0, List.take_succ_cons, List.take_left, List.take_zero, List.take_nil, len_24, this, eqf_len f xs ys hl]
def Fu.same (x y : Fu) : Bool := decide (x.name = y.name) && (eqf Nm.same x.params y.params && ssames x.body y.body)
theorem fu_ev (x y : Fu) (h : x.params.length ≤ 1000000) (h2 : sszs x.body ≤ 1000000) (st : St) : E L (.func 34) [.agg x.enc, .agg y.enc] st = some (.v (.bool (x.same y)), st) := by
  obtain ⟨s, rfl⟩ : ∃ s : St, st = s.app [] [] [] := ⟨st, (app_nil st).symm⟩
  have he := eqf31_ev Nm.same x.params y.params h fun x _ y st => nm_ev x y st
  have hs := stmts_ev x.body y.body h2
  have p0 : ∀ x : Fu, AM.part false 1 0 x.enc = some (str x.name) := fun _ => rfl
  have p1 : ∀ x : Fu, AM.part false 1 1 x.enc = some (.sl (x.params.map Nm.enc) .dead) := fun _ => rfl
  have p2 : ∀ x : Fu, AM.part false 1 2 x.enc = some (.sl (sencs x.body) .dead) := fun _ => rfl
  rw [S34_eq, Fu.same]
  by_cases h0 : x.name = y.name
  case neg => simp [S34, canon_v, canon_sl, canon_clo, canon_ptr, need_refl, elems_sl, sf_v, sf_sl, sf_ptr, sf_ptrh, sf_clo, sf_dead, sf_nil, sf_full, sf_fr, need_true, ibeq, beq_ba, nbeq, nble, nblt, AM.nth, List.getD_cons_succ, List.getD_cons_zero, Option.bind_some, Option.bind_none, Option.map_some, onBool, AM.onG, onFn, seqK, retK, Ex.outOf, cond_true, cond_false, bin_lss, bin_leq, bin_gtr, bin_geq, bin_eql, bin_neq, bin_add, bin_sub, bin_mul, un_not, str_eql, str_neq, app_push, app_stk, app_tk, app_lp, load_app, load_app0, load_fp, store_app, store_app0, leave_app, leave_app0, AM.ownPut, AM.cellsOf, AM.shift, aPick, fin_v, fin_sl, beq_true, okSz, List.length_cons, List.length_nil, Nat.zero_add, Nat.add_zero, Nat.reduceAdd, decide_true, decide_false, Bool.and_true, Bool.true_and, Bool.and_self, Bool.not_true, Bool.not_false, List.getElem?_cons_zero, List.getElem?_cons_succ, List.nil_append, List.cons_append, hpp_app, hpp_stk, hpp_tk, hpp_lp, hpp_hp, app_lpadd, hload, hload0, hloadh, hstore, hstore0, hleave, hleave0, hfin_v, hfin_sl, hback, hloop, hsetlp, max_int, min_int, hstore_v, hstore_v0, hstore_s, hstore_d, modify_concat, part1, hbackt, hbackl, hback0, List.take_succ_cons, List.take_left, List.take_zero, List.take_nil, p0, p1, p2, he, hs, h0]
  by_cases h1 : eqf Nm.same x.params y.params = true
  case neg => simp [S34, canon_v, canon_sl, canon_clo, canon_ptr, need_refl, elems_sl, sf_v, sf_sl, sf_ptr, sf_ptrh, sf_clo, sf_dead, sf_nil, sf_full, sf_fr, need_true, ibeq, beq_ba, nbeq, nble, nblt, AM.nth, List.getD_cons_succ, List.getD_cons_zero, Option.bind_some, Option.bind_none, Option.map_some, onBool, AM.onG, onFn, seqK, retK, Ex.outOf, cond_true, cond_false, bin_lss, bin_leq, bin_gtr, bin_geq, bin_eql, bin_neq, bin_add, bin_sub, bin_mul, un_not, str_eql, str_neq, app_push, app_stk, app_tk, app_lp, load_app, load_app0, load_fp, store_app, store_app0, leave_app, leave_app0, AM.ownPut, AM.cellsOf, AM.shift, aPick, fin_v, fin_sl, beq_true, okSz, List.length_cons, List.length_nil, Nat.zero_add, Nat.add_zero, Nat.reduceAdd, decide_true, decide_false, Bool.and_true, Bool.true_and, Bool.and_self, Bool.not_true, Bool.not_false, List.getElem?_cons_zero, List.getElem?_cons_succ, List.nil_append, List.cons_append, hpp_app, hpp_stk, hpp_tk, hpp_lp, hpp_hp, app_lpadd, hload, hload0, hloadh, hstore, hstore0, hleave, hleave0, hfin_v, hfin_sl, hback, hloop, hsetlp, max_int, min_int, hstore_v, hstore_v0, hstore_s, hstore_d, modify_concat, part1, hbackt, hbackl, hback0, List.take_succ_cons, List.take_left, List.take_zero, List.take_nil, p0, p1, p2, he, hs, h0, h1]
  simp [S34, canon_v, canon_sl, canon_clo, canon_ptr, need_refl, elems_sl, sf_v, sf_sl, sf_ptr, sf_ptrh, sf_clo, sf_dead, sf_nil, sf_full, sf_fr, need_true, ibeq, beq_ba, nbeq, nble, nblt, AM.nth, List.getD_cons_succ, List.getD_cons_zero, Option.bind_some, Option.bind_none, Option.map_some, onBool, AM.onG, onFn, seqK, retK, Ex.outOf, cond_true, cond_false, bin_lss, bin_leq, bin_gtr, bin_geq, bin_eql, bin_neq, bin_add, bin_sub, bin_mul, un_not, str_eql, str_neq, app_push, app_stk, app_tk, app_lp, load_app, load_app0, load_fp, store_app, store_app0, leave_app, leave_app0, AM.ownPut, AM.cellsOf, AM.shift, aPick, fin_v, fin_sl, beq_true, okSz, List.length_cons, List.length_nil, Nat.zero_add, Nat.add_zero, Nat.reduceAdd, decide_true, decide_false, Bool.and_true, Bool.true_and, Bool.and_self, Bool.not_true, Bool.not_false, List.getElem?_cons_zero, List.getElem?_cons_succ, List.nil_append, List.cons_append, hpp_app, hpp_stk, hpp_tk, hpp_lp, hpp_hp, app_lpadd, hload, hload0, hloadh, hstore, hstore0, hleave, hleave0, hfin_v, hfin_sl, hback, hloop, hsetlp, max_int, min_int, hstore_v, hstore_v0, hstore_s, hstore_d, modify_concat, part1, hbackt, hbackl, hback0, List.take_succ_cons, List.take_left, List.take_zero, List.take_nil, p0, p1, p2, he, hs, h0, h1]
theorem eqf33_loop (f : Fu → Fu → Bool) (s : St) (xs0 ys0 : List Fu) (hb : xs0.length ≤ 1000000) (hl : xs0.length = ys0.length) : ∀ (xs ys p q : List Fu), xs0 = p ++ xs → ys0 = q ++ ys → p.length = q.length →
    (∀ x ∈ xs, ∀ (y : Fu) (st : St), E L (.func 34) [.agg x.enc, .agg y.enc] st = some (.v (.bool (f x y)), st)) →
    ∃ j : Int, itE (S33.b0 (E L) itE s.stk.length s.lp.length) [.sl (ys0.map Fu.enc) .dead, .clo (.func 34) [], .v (.bool false), .sl (xs0.map Fu.enc) .dead, int xs0.length, int p.length] (s.app [] [] []) =
      some (bif eqf f xs ys then .exit 0 else .ret, [.sl (ys0.map Fu.enc) .dead, .clo (.func 34) [], .v (.bool false), .sl (xs0.map Fu.enc) .dead, int xs0.length, int j], s.app [] [] [])
  | [], ys, p, q, hx, hy, hp, hf => by
    obtain rfl : ys = [] := by
      have := congrArg List.length hx
      have := congrArg List.length hy
      simp at *
      exact List.length_eq_zero_iff.1 (by omega)
    refine ⟨p.length, ?_⟩
    rw [itE_eq]
    have e : xs0.length = p.length := by rw [hx]; simp
    simp [S33.b0, canon_v, canon_sl, canon_clo, canon_ptr, need_refl, elems_sl, sf_v, sf_sl, sf_ptr, sf_ptrh, sf_clo, sf_dead, sf_nil, sf_full, sf_fr, need_true, ibeq, beq_ba, nbeq, nble, nblt, AM.nth, List.getD_cons_succ, List.getD_cons_zero, Option.bind_some, Option.bind_none, Option.map_some, onBool, AM.onG, onFn, seqK, retK, Ex.outOf, cond_true, cond_false, bin_lss, bin_leq, bin_gtr, bin_geq, bin_eql, bin_neq, bin_add, bin_sub, bin_mul, un_not, str_eql, str_neq, app_push, app_stk, app_tk, app_lp, load_app, load_app0, load_fp, store_app, store_app0, leave_app, leave_app0, AM.ownPut, AM.cellsOf, AM.shift, aPick, fin_v, fin_sl, beq_true, okSz, List.length_cons, List.length_nil, Nat.zero_add, Nat.add_zero, Nat.reduceAdd, decide_true, decide_false, Bool.and_true, Bool.true_and, Bool.and_self, Bool.not_true, Bool.not_false, List.getElem?_cons_zero, List.getElem?_cons_succ, List.nil_append, List.cons_append, hpp_app, hpp_stk, hpp_tk, hpp_lp, hpp_hp, app_lpadd, hload, hload0, hloadh, hstore, hstore0, hleave, hleave0, hfin_v, hfin_sl, hback, hloop, hsetlp, max_int, min_int, hstore_v, hstore_v0, hstore_s, hstore_d, modify_concat, part1, hbackt, hbackl, hback0, List.take_succ_cons, List.take_left, List.take_zero, List.take_nil, e, eqf]
  | x :: xs, ys, p, q, hx, hy, hp, hf => by
    match ys, hy with
    | [], hy =>
      exfalso
      have := congrArg List.length hx
      have := congrArg List.length hy
      simp at *
      omega
    | y :: ys, hy =>
      have hlt : (p.length : Int) < (xs0.length : Int) := by rw [hx]; simp; omega
      have g1 : (xs0.map Fu.enc)[p.length]? = some x.enc := by rw [hx]; exact map_get _ p x xs
      have g2 : (ys0.map Fu.enc)[p.length]? = some y.enc := by rw [hy, hp]; exact map_get _ q y ys
      have r1 : inRange (p.length : Int) xs0.length = true := by rw [hx]; exact inR p x xs
      have r2 : inRange (p.length : Int) ys0.length = true := by rw [hy, hp]; exact inR q y ys
      have w1 : IntKind.i64.wrap ((p.length : Int) + 1) = ((p ++ [x]).length : Int) := by rw [IntWalk.i64_in _ (by omega)]; simp
      have hc := hf x List.mem_cons_self y
      have el : ∀ x : Fu, x.enc.length = 5 := fun _ => rfl
      have ew : ∀ x : Fu, AM.part true 5 0 x.enc = some (.agg x.enc) := fun _ => rfl
      have eo : ∀ x : Fu, okCells x.enc = true := fun _ => rfl
      have ec : ∀ x : Fu, canon (.agg x.enc) = .agg x.enc := fun _ => rfl
      have hstep : S33.b0 (E L) itE s.stk.length s.lp.length [.sl (ys0.map Fu.enc) .dead, .clo (.func 34) [], .v (.bool false), .sl (xs0.map Fu.enc) .dead, int xs0.length, int p.length] (s.app [] [] []) =
          some (bif f x y then (.normal, [.sl (ys0.map Fu.enc) .dead, .clo (.func 34) [], .v (.bool false), .sl (xs0.map Fu.enc) .dead, int xs0.length, int (p ++ [x]).length], s.app [] [] []) else
            (.ret, [.sl (ys0.map Fu.enc) .dead, .clo (.func 34) [], .v (.bool false), .sl (xs0.map Fu.enc) .dead, int xs0.length, int p.length], s.app [] [] [])) := by
        simp [S33.b0, canon_v, canon_sl, canon_clo, canon_ptr, need_refl, elems_sl, sf_v, sf_sl, sf_ptr, sf_ptrh, sf_clo, sf_dead, sf_nil, sf_full, sf_fr, need_true, ibeq, beq_ba, nbeq, nble, nblt, AM.nth, List.getD_cons_succ, List.getD_cons_zero, Option.bind_some, Option.bind_none, Option.map_some, onBool, AM.onG, onFn, seqK, retK, Ex.outOf, cond_true, cond_false, bin_lss, bin_leq, bin_gtr, bin_geq, bin_eql, bin_neq, bin_add, bin_sub, bin_mul, un_not, str_eql, str_neq, app_push, app_stk, app_tk, app_lp, load_app, load_app0, load_fp, store_app, store_app0, leave_app, leave_app0, AM.ownPut, AM.cellsOf, AM.shift, aPick, fin_v, fin_sl, beq_true, okSz, List.length_cons, List.length_nil, Nat.zero_add, Nat.add_zero, Nat.reduceAdd, decide_true, decide_false, Bool.and_true, Bool.true_and, Bool.and_self, Bool.not_true, Bool.not_false, List.getElem?_cons_zero, List.getElem?_cons_succ, List.nil_append, List.cons_append, hpp_app, hpp_stk, hpp_tk, hpp_lp, hpp_hp, app_lpadd, hload, hload0, hloadh, hstore, hstore0, hleave, hleave0, hfin_v, hfin_sl, hback, hloop, hsetlp, max_int, min_int, hstore_v, hstore_v0, hstore_s, hstore_d, modify_concat, part1, hbackt, hbackl, hback0, List.take_succ_cons, List.take_left, List.take_zero, List.take_nil, hlt, ia_26, r1, r2, g1, g2, el, ew, eo, ec, laid0, hc]
        cases f x y <;> simp [canon_v, canon_sl, canon_clo, canon_ptr, need_refl, elems_sl, sf_v, sf_sl, sf_ptr, sf_ptrh, sf_clo, sf_dead, sf_nil, sf_full, sf_fr, need_true, ibeq, beq_ba, nbeq, nble, nblt, AM.nth, List.getD_cons_succ, List.getD_cons_zero, Option.bind_some, Option.bind_none, Option.map_some, onBool, AM.onG, onFn, seqK, retK, Ex.outOf, cond_true, cond_false, bin_lss, bin_leq, bin_gtr, bin_geq, bin_eql, bin_neq, bin_add, bin_sub, bin_mul, un_not, str_eql, str_neq, app_push, app_stk, app_tk, app_lp, load_app, load_app0, load_fp, store_app, store_app0, leave_app, leave_app0, AM.ownPut, AM.cellsOf, AM.shift, aPick, fin_v, fin_sl, beq_true, okSz, List.length_cons, List.length_nil, Nat.zero_add, Nat.add_zero, Nat.reduceAdd, decide_true, decide_false, Bool.and_true, Bool.true_and, Bool.and_self, Bool.not_true, Bool.not_false, List.getElem?_cons_zero, List.getElem?_cons_succ, List.nil_append, List.cons_append, hpp_app, hpp_stk, hpp_tk, hpp_lp, hpp_hp, app_lpadd, hload, hload0, hloadh, hstore, hstore0, hleave, hleave0, hfin_v, hfin_sl, hback, hloop, hsetlp, max_int, min_int, hstore_v, hstore_v0, hstore_s, hstore_d, modify_concat, part1, hbackt, hbackl, hback0, List.take_succ_cons, List.take_left, List.take_zero, List.take_nil, w1]
      cases hxy : f x y with
      | true =>
        rw [hxy] at hstep
        obtain ⟨j, hj⟩ := eqf33_loop f s xs0 ys0 hb hl xs ys (p ++ [x]) (q ++ [y]) (by simp [hx]) (by simp [hy]) (by simp [hp]) fun z hz => hf z (List.mem_cons_of_mem _ hz)
        refine ⟨j, ?_⟩
        rw [it_step hstep, hj]
        simp [eqf, hxy]
      | false =>
        rw [hxy] at hstep
        refine ⟨p.length, ?_⟩
        rw [it_ret hstep]
        simp [eqf, hxy]
theorem eqf33_ev (f : Fu → Fu → Bool) (xs ys : List Fu) (hb : xs.length ≤ 1000000) (hf : ∀ x ∈ xs, ∀ (y : Fu) (st : St), E L (.func 34) [.agg x.enc, .agg y.enc] st = some (.v (.bool (f x y)), st)) (st : St) :
    E L (.func 33) [.sl (xs.map Fu.enc) .dead, .sl (ys.map Fu.enc) .dead, .clo (.func 34) []] st = some (.v (.bool (eqf f xs ys)), st) := by
  obtain ⟨s, rfl⟩ : ∃ s : St, st = s.app [] [] [] := ⟨st, (app_nil st).symm⟩
  rw [S33_eq]
  by_cases hl : xs.length = ys.length
  · obtain ⟨j, hj⟩ := eqf33_loop f s xs ys hb hl xs ys [] [] rfl rfl rfl hf
    simp [S33, canon_v, canon_sl, canon_clo, canon_ptr, need_refl, elems_sl, sf_v, sf_sl, sf_ptr, sf_ptrh, sf_clo, sf_dead, sf_nil, sf_full, sf_fr, need_true, ibeq, beq_ba, nbeq, nble, nblt, AM.nth, List.getD_cons_succ, List.getD_cons_zero, Option.bind_some, Option.bind_none, Option.map_some, onBool, AM.onG, onFn, seqK, retK, Ex.outOf, cond_true, cond_false, bin_lss, bin_leq, bin_gtr, bin_geq, bin_eql, bin_neq, bin_add, bin_sub, bin_mul, un_not, str_eql, str_neq, app_push, app_stk, app_tk, app_lp, load_app, load_app0, load_fp, store_app, store_app0, leave_app, leave_app0, AM.ownPut, AM.cellsOf, AM.shift, aPick, fin_v, fin_sl, beq_true, okSz, List.length_cons, List.length_nil, Nat.zero_add, Nat.add_zero, Nat.reduceAdd, decide_true, decide_false, Bool.and_true, Bool.true_and, Bool.and_self, Bool.not_true, Bool.not_false, List.getElem?_cons_zero, List.getElem?_cons_succ, List.nil_append, List.cons_append, hpp_app, hpp_stk, hpp_tk, hpp_lp, hpp_hp, app_lpadd, hload, hload0, hloadh, hstore, hstore0, hleave, hleave0, hfin_v, hfin_sl, hback, hloop, hsetlp, max_int, min_int, hstore_v, hstore_v0, hstore_s, hstore_d, modify_concat, part1, hbackt, hbackl, hback0, List.take_succ_cons, List.take_left, List.take_zero, List.take_nil, len_26, hl] at hj ⊢
    rw [hj]
    cases eqf f xs ys <;> simp [canon_v, canon_sl, canon_clo, canon_ptr, need_refl, elems_sl, sf_v, sf_sl, sf_ptr, sf_ptrh, sf_clo, sf_dead, sf_nil, sf_full, sf_fr, need_true, ibeq, beq_ba, nbeq, nble, nblt, AM.nth, List.getD_cons_succ, List.getD_cons_zero, Option.bind_some, Option.bind_none, Option.map_some, onBool, AM.onG, onFn, seqK, retK, Ex.outOf, cond_true, cond_false, bin_lss, bin_leq, bin_gtr, bin_geq, bin_eql, bin_neq, bin_add, bin_sub, bin_mul, un_not, str_eql, str_neq, app_push, app_stk, app_tk, app_lp, load_app, load_app0, load_fp, store_app, store_app0, leave_app, leave_app0, AM.ownPut, AM.cellsOf, AM.shift, aPick, fin_v, fin_sl, beq_true, okSz, List.length_cons, List.length_nil, Nat.zero_add, Nat.add_zero, Nat.reduceAdd, decide_true, decide_false, Bool.and_true, Bool.true_and, Bool.and_self, Bool.not_true, Bool.not_false, List.getElem?_cons_zero, List.getElem?_cons_succ, List.nil_append, List.cons_append, hpp_app, hpp_stk, hpp_tk, hpp_lp, hpp_hp, app_lpadd, hload, hload0, hloadh, hstore, hstore0, hleave, hleave0, hfin_v, hfin_sl, hback, hloop, hsetlp, max_int, min_int, hstore_v, hstore_v0, hstore_s, hstore_d, modify_concat, part1, hbackt, hbackl, hback0, List.take_succ_cons, List.take_left, List.take_zero, List.take_nil]
  · have : ¬ (xs.length : Int) = ys.length := by omega
    simp [S33, canon_v, canon_sl, canon_clo, canon_ptr, need_refl, elems_sl, sf_v, sf_sl, sf_ptr, sf_ptrh, sf_clo, sf_dead, sf_nil, sf_full, sf_fr, need_true, ibeq, beq_ba, nbeq, nble, nblt, AM.nth, List.getD_cons_succ, List.getD_cons_zero, Option.bind_some, Option.bind_none, Option.map_some, onBool, AM.onG, onFn, seqK, retK, Ex.outOf, cond_true, cond_false, bin_lss, bin_leq, bin_gtr, bin_geq, bin_eql, bin_neq, bin_add, bin_sub, bin_mul, un_not, str_eql, str_neq, app_push, app_stk, app_tk, app_lp, load_app, load_app0, load_fp, store_app, store_app0, leave_app, leave_app0, AM.ownPut, AM.cellsOf, AM.shift, aPick, fin_v, fin_sl, beq_true, okSz, List.length_cons, List.length_nil, Nat.zero_add, Nat.add_zero, Nat.reduceAdd, decide_true, decide_false, Bool.and_true, Bool.true_and, Bool.and_self, Bool.not_true, Bool.not_false, List.getElem?_cons_zero, List.getElem?_cons_succ, List.nil_append, List.cons_append, hpp_app, hpp_stk, hpp_tk, hpp_lp, hpp_hp, app_lpadd, hload, hload0, hloadh, hstore, hstore0, hleave, hleave0, hfin_v, hfin_sl, hback, hloop, hsetlp, max_int, min_int, hstore_v, hstore_v0, hstore_s, hstore_d, modify_concat, part1, hbackt, hbackl, hback0, List.take_succ_cons, List.take_left, List.take_zero, List.take_nil, len_26, this, eqf_len f xs ys hl]
def Th.same (x y : Th) : Bool := ssames x.body y.body
theorem th_ev (x y : Th) (h2 : sszs x.body ≤ 1000000) (st : St) : E L (.func 36) [.agg x.enc, .agg y.enc] st = some (.v (.bool (x.same y)), st) := by
  obtain ⟨s, rfl⟩ : ∃ s : St, st = s.app [] [] [] := ⟨st, (app_nil st).symm⟩
  have hs := stmts_ev x.body y.body h2
  have p0 : ∀ x : Th, AM.part false 1 0 x.enc = some (.sl (sencs x.body) .dead) := fun _ => rfl
  rw [S36_eq, Th.same]
  simp [S36, canon_v, canon_sl, canon_clo, canon_ptr, need_refl, elems_sl, sf_v, sf_sl, sf_ptr, sf_ptrh, sf_clo, sf_dead, sf_nil, sf_full, sf_fr, need_true, ibeq, beq_ba, nbeq, nble, nblt, AM.nth, List.getD_cons_succ, List.getD_cons_zero, Option.bind_some, Option.bind_none, Option.map_some, onBool, AM.onG, onFn, seqK, retK, Ex.outOf, cond_true, cond_false, bin_lss, bin_leq, bin_gtr, bin_geq, bin_eql, bin_neq, bin_add, bin_sub, bin_mul, un_not, str_eql, str_neq, app_push, app_stk, app_tk, app_lp, load_app, load_app0, load_fp, store_app, store_app0, leave_app, leave_app0, AM.ownPut, AM.cellsOf, AM.shift, aPick, fin_v, fin_sl, beq_true, okSz, List.length_cons, List.length_nil, Nat.zero_add, Nat.add_zero, Nat.reduceAdd, decide_true, decide_false, Bool.and_true, Bool.true_and, Bool.and_self, Bool.not_true, Bool.not_false, List.getElem?_cons_zero, List.getElem?_cons_succ, List.nil_append, List.cons_append, hpp_app, hpp_stk, hpp_tk, hpp_lp, hpp_hp, app_lpadd, hload, hload0, hloadh, hstore, hstore0, hleave, hleave0, hfin_v, hfin_sl, hback, hloop, hsetlp, max_int, min_int, hstore_v, hstore_v0, hstore_s, hstore_d, modify_concat, part1, hbackt, hbackl, hback0, List.take_succ_cons, List.take_left, List.take_zero, List.take_nil, p0, hs]
theorem eqf35_loop (f : Th → Th → Bool) (s : St) (xs0 ys0 : List Th) (hb : xs0.length ≤ 1000000) (hl : xs0.length = ys0.length) : ∀ (xs ys p q : List Th), xs0 = p ++ xs → ys0 = q ++ ys → p.length = q.length →
    (∀ x ∈ xs, ∀ (y : Th) (st : St), E L (.func 36) [.agg x.enc, .agg y.enc] st = some (.v (.bool (f x y)), st)) →
    ∃ j : Int, itE (S35.b0 (E L) itE s.stk.length s.lp.length) [.sl (ys0.map Th.enc) .dead, .clo (.func 36) [], .v (.bool false), .sl (xs0.map Th.enc) .dead, int xs0.length, int p.length] (s.app [] [] []) =
      some (bif eqf f xs ys then .exit 0 else .ret, [.sl (ys0.map Th.enc) .dead, .clo (.func 36) [], .v (.bool false), .sl (xs0.map Th.enc) .dead, int xs0.length, int j], s.app [] [] [])
  | [], ys, p, q, hx, hy, hp, hf => by
    obtain rfl : ys = [] := by
      have := congrArg List.length hx
      have := congrArg List.length hy
      simp at *
      exact List.length_eq_zero_iff.1 (by omega)
    refine ⟨p.length, ?_⟩
    rw [itE_eq]
    have e : xs0.length = p.length := by rw [hx]; simp
    simp [S35.b0, canon_v, canon_sl, canon_clo, canon_ptr, need_refl, elems_sl, sf_v, sf_sl, sf_ptr, sf_ptrh, sf_clo, sf_dead, sf_nil, sf_full, sf_fr, need_true, ibeq, beq_ba, nbeq, nble, nblt, AM.nth, List.getD_cons_succ, List.getD_cons_zero, Option.bind_some, Option.bind_none, Option.map_some, onBool, AM.onG, onFn, seqK, retK, Ex.outOf, cond_true, cond_false, bin_lss, bin_leq, bin_gtr, bin_geq, bin_eql, bin_neq, bin_add, bin_sub, bin_mul, un_not, str_eql, str_neq, app_push, app_stk, app_tk, app_lp, load_app, load_app0, load_fp, store_app, store_app0, leave_app, leave_app0, AM.ownPut, AM.cellsOf, AM.shift, aPick, fin_v, fin_sl, beq_true, okSz, List.length_cons, List.length_nil, Nat.zero_add, Nat.add_zero, Nat.reduceAdd, decide_true, decide_false, Bool.and_true, Bool.true_and, Bool.and_self, Bool.not_true, Bool.not_false, List.getElem?_cons_zero, List.getElem?_cons_succ, List.nil_append, List.cons_append, hpp_app, hpp_stk, hpp_tk, hpp_lp, hpp_hp, app_lpadd, hload, hload0, hloadh, hstore, hstore0, hleave, hleave0, hfin_v, hfin_sl, hback, hloop, hsetlp, max_int, min_int, hstore_v, hstore_v0, hstore_s, hstore_d, modify_concat, part1, hbackt, hbackl, hback0, List.take_succ_cons, List.take_left, List.take_zero, List.take_nil, e, eqf]
  | x :: xs, ys, p, q, hx, hy, hp, hf => by
    match ys, hy with
    | [], hy =>
      exfalso
      have := congrArg List.length hx
      have := congrArg List.length hy
      simp at *
      omega
    | y :: ys, hy =>
      have hlt : (p.length : Int) < (xs0.length : Int) := by rw [hx]; simp; omega
      have g1 : (xs0.map Th.enc)[p.length]? = some x.enc := by rw [hx]; exact map_get _ p x xs
      have g2 : (ys0.map Th.enc)[p.length]? = some y.enc := by rw [hy, hp]; exact map_get _ q y ys
      have r1 : inRange (p.length : Int) xs0.length = true := by rw [hx]; exact inR p x xs
      have r2 : inRange (p.length : Int) ys0.length = true := by rw [hy, hp]; exact inR q y ys
      have w1 : IntKind.i64.wrap ((p.length : Int) + 1) = ((p ++ [x]).length : Int) := by rw [IntWalk.i64_in _ (by omega)]; simp
      have hc := hf x List.mem_cons_self y
      have el : ∀ x : Th, x.enc.length = 3 := fun _ => rfl
      have ew : ∀ x : Th, AM.part true 3 0 x.enc = some (.agg x.enc) := fun _ => rfl
      have eo : ∀ x : Th, okCells x.enc = true := fun _ => rfl
      have ec : ∀ x : Th, canon (.agg x.enc) = .agg x.enc := fun _ => rfl
      have hstep : S35.b0 (E L) itE s.stk.length s.lp.length [.sl (ys0.map Th.enc) .dead, .clo (.func 36) [], .v (.bool false), .sl (xs0.map Th.enc) .dead, int xs0.length, int p.length] (s.app [] [] []) =
          some (bif f x y then (.normal, [.sl (ys0.map Th.enc) .dead, .clo (.func 36) [], .v (.bool false), .sl (xs0.map Th.enc) .dead, int xs0.length, int (p ++ [x]).length], s.app [] [] []) else
            (.ret, [.sl (ys0.map Th.enc) .dead, .clo (.func 36) [], .v (.bool false), .sl (xs0.map Th.enc) .dead, int xs0.length, int p.length], s.app [] [] [])) := by
        simp [S35.b0, canon_v, canon_sl, canon_clo, canon_ptr, need_refl, elems_sl, sf_v, sf_sl, sf_ptr, sf_ptrh, sf_clo, sf_dead, sf_nil, sf_full, sf_fr, need_true, ibeq, beq_ba, nbeq, nble, nblt, AM.nth, List.getD_cons_succ, List.getD_cons_zero, Option.bind_some, Option.bind_none, Option.map_some, onBool, AM.onG, onFn, seqK, retK, Ex.outOf, cond_true, cond_false, bin_lss, bin_leq, bin_gtr, bin_geq, bin_eql, bin_neq, bin_add, bin_sub, bin_mul, un_not, str_eql, str_neq, app_push, app_stk, app_tk, app_lp, load_app, load_app0, load_fp, store_app, store_app0, leave_app, leave_app0, AM.ownPut, AM.cellsOf, AM.shift, aPick, fin_v, fin_sl, beq_true, okSz, List.length_cons, List.length_nil, Nat.zero_add, Nat.add_zero, Nat.reduceAdd, decide_true, decide_false, Bool.and_true, Bool.true_and, Bool.and_self, Bool.not_true, Bool.not_false, List.getElem?_cons_zero, List.getElem?_cons_succ, List.nil_append, List.cons_append, hpp_app, hpp_stk, hpp_tk, hpp_lp, hpp_hp, app_lpadd, hload, hload0, hloadh, hstore, hstore0, hleave, hleave0, hfin_v, hfin_sl, hback, hloop, hsetlp, max_int, min_int, hstore_v, hstore_v0, hstore_s, hstore_d, modify_concat, part1, hbackt, hbackl, hback0, List.take_succ_cons, List.take_left, List.take_zero, List.take_nil, hlt, ia_27, r1, r2, g1, g2, el, ew, eo, ec, laid0, hc]
        cases f x y <;> simp [canon_v, canon_sl, canon_clo, canon_ptr, need_refl, elems_sl, sf_v, sf_sl, sf_ptr, sf_ptrh, sf_clo, sf_dead, sf_nil, sf_full, sf_fr, need_true, ibeq, beq_ba, nbeq, nble, nblt, AM.nth, List.getD_cons_succ, List.getD_cons_zero, Option.bind_some, Option.bind_none, Option.map_some, onBool, AM.onG, onFn, seqK, retK, Ex.outOf, cond_true, cond_false, bin_lss, bin_leq, bin_gtr, bin_geq, bin_eql, bin_neq, bin_add, bin_sub, bin_mul, un_not, str_eql, str_neq, app_push, app_stk, app_tk, app_lp, load_app, load_app0, load_fp, store_app, store_app0, leave_app, leave_app0, AM.ownPut, AM.cellsOf, AM.shift, aPick, fin_v, fin_sl, beq_true, okSz, List.length_cons, List.length_nil, Nat.zero_add, Nat.add_zero, Nat.reduceAdd, decide_true, decide_false, Bool.and_true, Bool.true_and, Bool.and_self, Bool.not_true, Bool.not_false, List.getElem?_cons_zero, List.getElem?_cons_succ, List.nil_append, List.cons_append, hpp_app, hpp_stk, hpp_tk, hpp_lp, hpp_hp, app_lpadd, hload, hload0, hloadh, hstore, hstore0, hleave, hleave0, hfin_v, hfin_sl, hback, hloop, hsetlp, max_int, min_int, hstore_v, hstore_v0, hstore_s, hstore_d, modify_concat, part1, hbackt, hbackl, hback0, List.take_succ_cons, List.take_left, List.take_zero, List.take_nil, w1]
      cases hxy : f x y with
      | true =>
        rw [hxy] at hstep
        obtain ⟨j, hj⟩ := eqf35_loop f s xs0 ys0 hb hl xs ys (p ++ [x]) (q ++ [y]) (by simp [hx]) (by simp [hy]) (by simp [hp]) fun z hz => hf z (List.mem_cons_of_mem _ hz)
        refine ⟨j, ?_⟩
        rw [it_step hstep, hj]
        simp [eqf, hxy]
      | false =>
        rw [hxy] at hstep
        refine ⟨p.length, ?_⟩
        rw [it_ret hstep]
        simp [eqf, hxy]
theorem eqf35_ev (f : Th → Th → Bool) (xs ys : List Th) (hb : xs.length ≤ 1000000) (hf : ∀ x ∈ xs, ∀ (y : Th) (st : St), E L (.func 36) [.agg x.enc, .agg y.enc] st = some (.v (.bool (f x y)), st)) (st : St) :
    E L (.func 35) [.sl (xs.map Th.enc) .dead, .sl (ys.map Th.enc) .dead, .clo (.func 36) []] st = some (.v (.bool (eqf f xs ys)), st) := by
  obtain ⟨s, rfl⟩ : ∃ s : St, st = s.app [] [] [] := ⟨st, (app_nil st).symm⟩
  rw [S35_eq]
  by_cases hl : xs.length = ys.length
  · obtain ⟨j, hj⟩ := eqf35_loop f s xs ys hb hl xs ys [] [] rfl rfl rfl hf
    simp [S35, canon_v, canon_sl, canon_clo, canon_ptr, need_refl, elems_sl, sf_v, sf_sl, sf_ptr, sf_ptrh, sf_clo, sf_dead, sf_nil, sf_full, sf_fr, need_true, ibeq, beq_ba, nbeq, nble, nblt, AM.nth, List.getD_cons_succ, List.getD_cons_zero, Option.bind_some, Option.bind_none, Option.map_some, onBool, AM.onG, onFn, seqK, retK, Ex.outOf, cond_true, cond_false, bin_lss, bin_leq, bin_gtr, bin_geq, bin_eql, bin_neq, bin_add, bin_sub, bin_mul, un_not, str_eql, str_neq, app_push, app_stk, app_tk, app_lp, load_app, load_app0, load_fp, store_app, store_app0, leave_app, leave_app0, AM.ownPut, AM.cellsOf, AM.shift, aPick, fin_v, fin_sl, beq_true, okSz, List.length_cons, List.length_nil, Nat.zero_add, Nat.add_zero, Nat.reduceAdd, decide_true, decide_false, Bool.and_true, Bool.true_and, Bool.and_self, Bool.not_true, Bool.not_false, List.getElem?_cons_zero, List.getElem?_cons_succ, List.nil_append, List.cons_append, hpp_app, hpp_stk, hpp_tk, hpp_lp, hpp_hp, app_lpadd, hload, hload0, hloadh, hstore, hstore0, hleave, hleave0, hfin_v, hfin_sl, hback, hloop, hsetlp, max_int, min_int, hstore_v, hstore_v0, hstore_s, hstore_d, modify_concat, part1, hbackt, hbackl, hback0, List.take_succ_cons, List.take_left, List.take_zero, List.take_nil, len_27, hl] at hj ⊢
    rw [hj]
    cases eqf f xs ys <;> simp [canon_v, canon_sl, canon_clo, canon_ptr, need_refl, elems_sl, sf_v, sf_sl, sf_ptr, sf_ptrh, sf_clo, sf_dead, sf_nil, sf_full, sf_fr, need_true, ibeq, beq_ba, nbeq, nble, nblt, AM.nth, List.getD_cons_succ, List.getD_cons_zero, Option.bind_some, Option.bind_none, Option.map_some, onBool, AM.onG, onFn, seqK, retK, Ex.outOf, cond_true, cond_false, bin_lss, bin_leq, bin_gtr, bin_geq, bin_eql, bin_neq, bin_add, bin_sub, bin_mul, un_not, str_eql, str_neq, app_push, app_stk, app_tk, app_lp, load_app, load_app0, load_fp, store_app, store_app0, leave_app, leave_app0, AM.ownPut, AM.cellsOf, AM.shift, aPick, fin_v, fin_sl, beq_true, okSz, List.length_cons, List.length_nil, Nat.zero_add, Nat.add_zero, Nat.reduceAdd, decide_true, decide_false, Bool.and_true, Bool.true_and, Bool.and_self, Bool.not_true, Bool.not_false, List.getElem?_cons_zero, List.getElem?_cons_succ, List.nil_append, List.cons_append, hpp_app, hpp_stk, hpp_tk, hpp_lp, hpp_hp, app_lpadd, hload, hload0, hloadh, hstore, hstore0, hleave, hleave0, hfin_v, hfin_sl, hback, hloop, hsetlp, max_int, min_int, hstore_v, hstore_v0, hstore_s, hstore_d, modify_concat, part1, hbackt, hbackl, hback0, List.take_succ_cons, List.take_left, List.take_zero, List.take_nil]
  · have : ¬ (xs.length : Int) = ys.length := by omega
    simp [S35, canon_v, canon_sl, canon_clo, canon_ptr, need_refl, elems_sl, sf_v, sf_sl, sf_ptr, sf_ptrh, sf_clo, sf_dead, sf_nil, sf_full, sf_fr, need_true, ibeq, beq_ba, nbeq, nble, nblt, AM.nth, List.getD_cons_succ, List.getD_cons_zero, Option.bind_some, Option.bind_none, Option.map_some, onBool, AM.onG, onFn, seqK, retK, Ex.outOf, cond_true, cond_false, bin_lss, bin_leq, bin_gtr, bin_geq, bin_eql, bin_neq, bin_add, bin_sub, bin_mul, un_not, str_eql, str_neq, app_push, app_stk, app_tk, app_lp, load_app, load_app0, load_fp, store_app, store_app0, leave_app, leave_app0, AM.ownPut, AM.cellsOf, AM.shift, aPick, fin_v, fin_sl, beq_true, okSz, List.length_cons, List.length_nil, Nat.zero_add, Nat.add_zero, Nat.reduceAdd, decide_true, decide_false, Bool.and_true, Bool.true_and, Bool.and_self, Bool.not_true, Bool.not_false, List.getElem?_cons_zero, List.getElem?_cons_succ, List.nil_append, List.cons_append, hpp_app, hpp_stk, hpp_tk, hpp_lp, hpp_hp, app_lpadd, hload, hload0, hloadh, hstore, hstore0, hleave, hleave0, hfin_v, hfin_sl, hback, hloop, hsetlp, max_int, min_int, hstore_v, hstore_v0, hstore_s, hstore_d, modify_concat, part1, hbackt, hbackl, hback0, List.take_succ_cons, List.take_left, List.take_zero, List.take_nil, len_27, this, eqf_len f xs ys hl]
def Pg.same (x y : Pg) : Bool := eqf Rc.same x.recs y.recs && (eqf Nm.same x.globals y.globals && (eqf Fu.same x.funs y.funs && eqf Th.same x.threads y.threads))
structure Pg.small (p : Pg) : Prop where
  rl : p.recs.length ≤ 1000
  rr : ∀ x ∈ p.recs, x.fields.length ≤ 1000000
  gl : p.globals.length ≤ 1000000
  fl : p.funs.length ≤ 1000
  fp : ∀ x ∈ p.funs, x.params.length ≤ 1000000
  fb : ∀ x ∈ p.funs, sszs x.body ≤ 1000000
  tl : p.threads.length ≤ 1000
  tb : ∀ x ∈ p.threads, sszs x.body ≤ 1000000
theorem pg_ev (x y : Pg) (h : x.small) (st : St) : E L (.func 12) [.agg x.enc, .agg y.enc] st = some (.v (.bool (x.same y)), st) := by
  obtain ⟨s, rfl⟩ : ∃ s : St, st = s.app [] [] [] := ⟨st, (app_nil st).symm⟩
  have q1 := eqf29_ev Rc.same x.recs y.recs (by have := h.rl; omega) fun x hx y st => rc_ev x y (h.rr x hx) st
  have q2 := eqf31_ev Nm.same x.globals y.globals h.gl fun x _ y st => nm_ev x y st
  have q3 := eqf33_ev Fu.same x.funs y.funs (by have := h.fl; omega) fun x hx y st => fu_ev x y (h.fp x hx) (h.fb x hx) st
  have q4 := eqf35_ev Th.same x.threads y.threads (by have := h.tl; omega) fun x hx y st => th_ev x y (h.tb x hx) st
  have p0 : ∀ x : Pg, AM.part false 1 0 x.enc = some (.sl (x.recs.map Rc.enc) .dead) := fun _ => rfl
  have p1 : ∀ x : Pg, AM.part false 1 1 x.enc = some (.sl (x.globals.map Nm.enc) .dead) := fun _ => rfl
  have p2 : ∀ x : Pg, AM.part false 1 2 x.enc = some (.sl (x.funs.map Fu.enc) .dead) := fun _ => rfl
  have p3 : ∀ x : Pg, AM.part false 1 3 x.enc = some (.sl (x.threads.map Th.enc) .dead) := fun _ => rfl
  rw [S12_eq, Pg.same]
  by_cases h0 : eqf Rc.same x.recs y.recs = true
  case neg => simp [S12, canon_v, canon_sl, canon_clo, canon_ptr, need_refl, elems_sl, sf_v, sf_sl, sf_ptr, sf_ptrh, sf_clo, sf_dead, sf_nil, sf_full, sf_fr, need_true, ibeq, beq_ba, nbeq, nble, nblt, AM.nth, List.getD_cons_succ, List.getD_cons_zero, Option.bind_some, Option.bind_none, Option.map_some, onBool, AM.onG, onFn, seqK, retK, Ex.outOf, cond_true, cond_false, bin_lss, bin_leq, bin_gtr, bin_geq, bin_eql, bin_neq, bin_add, bin_sub, bin_mul, un_not, str_eql, str_neq, app_push, app_stk, app_tk, app_lp, load_app, load_app0, load_fp, store_app, store_app0, leave_app, leave_app0, AM.ownPut, AM.cellsOf, AM.shift, aPick, fin_v, fin_sl, beq_true, okSz, List.length_cons, List.length_nil, Nat.zero_add, Nat.add_zero, Nat.reduceAdd, decide_true, decide_false, Bool.and_true, Bool.true_and, Bool.and_self, Bool.not_true, Bool.not_false, List.getElem?_cons_zero, List.getElem?_cons_succ, List.nil_append, List.cons_append, hpp_app, hpp_stk, hpp_tk, hpp_lp, hpp_hp, app_lpadd, hload, hload0, hloadh, hstore, hstore0, hleave, hleave0, hfin_v, hfin_sl, hback, hloop, hsetlp, max_int, min_int, hstore_v, hstore_v0, hstore_s, hstore_d, modify_concat, part1, hbackt, hbackl, hback0, List.take_succ_cons, List.take_left, List.take_zero, List.take_nil, p0, p1, p2, p3, q1, q2, q3, q4, h0]
  by_cases h1 : eqf Nm.same x.globals y.globals = true
  case neg => simp [S12, canon_v, canon_sl, canon_clo, canon_ptr, need_refl, elems_sl, sf_v, sf_sl, sf_ptr, sf_ptrh, sf_clo, sf_dead, sf_nil, sf_full, sf_fr, need_true, ibeq, beq_ba, nbeq, nble, nblt, AM.nth, List.getD_cons_succ, List.getD_cons_zero, Option.bind_some, Option.bind_none, Option.map_some, onBool, AM.onG, onFn, seqK, retK, Ex.outOf, cond_true, cond_false, bin_lss, bin_leq, bin_gtr, bin_geq, bin_eql, bin_neq, bin_add, bin_sub, bin_mul, un_not, str_eql, str_neq, app_push, app_stk, app_tk, app_lp, load_app, load_app0, load_fp, store_app, store_app0, leave_app, leave_app0, AM.ownPut, AM.cellsOf, AM.shift, aPick, fin_v, fin_sl, beq_true, okSz, List.length_cons, List.length_nil, Nat.zero_add, Nat.add_zero, Nat.reduceAdd, decide_true, decide_false, Bool.and_true, Bool.true_and, Bool.and_self, Bool.not_true, Bool.not_false, List.getElem?_cons_zero, List.getElem?_cons_succ, List.nil_append, List.cons_append, hpp_app, hpp_stk, hpp_tk, hpp_lp, hpp_hp, app_lpadd, hload, hload0, hloadh, hstore, hstore0, hleave, hleave0, hfin_v, hfin_sl, hback, hloop, hsetlp, max_int, min_int, hstore_v, hstore_v0, hstore_s, hstore_d, modify_concat, part1, hbackt, hbackl, hback0, List.take_succ_cons, List.take_left, List.take_zero, List.take_nil, p0, p1, p2, p3, q1, q2, q3, q4, h0, h1]
  by_cases h2 : eqf Fu.same x.funs y.funs = true
  case neg => simp [S12, canon_v, canon_sl, canon_clo, canon_ptr, need_refl, elems_sl, sf_v, sf_sl, sf_ptr, sf_ptrh, sf_clo, sf_dead, sf_nil, sf_full, sf_fr, need_true, ibeq, beq_ba, nbeq, nble, nblt, AM.nth, List.getD_cons_succ, List.getD_cons_zero, Option.bind_some, Option.bind_none, Option.map_some, onBool, AM.onG, onFn, seqK, retK, Ex.outOf, cond_true, cond_false, bin_lss, bin_leq, bin_gtr, bin_geq, bin_eql, bin_neq, bin_add, bin_sub, bin_mul, un_not, str_eql, str_neq, app_push, app_stk, app_tk, app_lp, load_app, load_app0, load_fp, store_app, store_app0, leave_app, leave_app0, AM.ownPut, AM.cellsOf, AM.shift, aPick, fin_v, fin_sl, beq_true, okSz, List.length_cons, List.length_nil, Nat.zero_add, Nat.add_zero, Nat.reduceAdd, decide_true, decide_false, Bool.and_true, Bool.true_and, Bool.and_self, Bool.not_true, Bool.not_false, List.getElem?_cons_zero, List.getElem?_cons_succ, List.nil_append, List.cons_append, hpp_app, hpp_stk, hpp_tk, hpp_lp, hpp_hp, app_lpadd, hload, hload0, hloadh, hstore, hstore0, hleave, hleave0, hfin_v, hfin_sl, hback, hloop, hsetlp, max_int, min_int, hstore_v, hstore_v0, hstore_s, hstore_d, modify_concat, part1, hbackt, hbackl, hback0, List.take_succ_cons, List.take_left, List.take_zero, List.take_nil, p0, p1, p2, p3, q1, q2, q3, q4, h0, h1, h2]
  simp [S12, canon_v, canon_sl, canon_clo, canon_ptr, need_refl, elems_sl, sf_v, sf_sl, sf_ptr, sf_ptrh, sf_clo, sf_dead, sf_nil, sf_full, sf_fr, need_true, ibeq, beq_ba, nbeq, nble, nblt, AM.nth, List.getD_cons_succ, List.getD_cons_zero, Option.bind_some, Option.bind_none, Option.map_some, onBool, AM.onG, onFn, seqK, retK, Ex.outOf, cond_true, cond_false, bin_lss, bin_leq, bin_gtr, bin_geq, bin_eql, bin_neq, bin_add, bin_sub, bin_mul, un_not, str_eql, str_neq, app_push, app_stk, app_tk, app_lp, load_app, load_app0, load_fp, store_app, store_app0, leave_app, leave_app0, AM.ownPut, AM.cellsOf, AM.shift, aPick, fin_v, fin_sl, beq_true, okSz, List.length_cons, List.length_nil, Nat.zero_add, Nat.add_zero, Nat.reduceAdd, decide_true, decide_false, Bool.and_true, Bool.true_and, Bool.and_self, Bool.not_true, Bool.not_false, List.getElem?_cons_zero, List.getElem?_cons_succ, List.nil_append, List.cons_append, hpp_app, hpp_stk, hpp_tk, hpp_lp, hpp_hp, app_lpadd, hload, hload0, hloadh, hstore, hstore0, hleave, hleave0, hfin_v, hfin_sl, hback, hloop, hsetlp, max_int, min_int, hstore_v, hstore_v0, hstore_s, hstore_d, modify_concat, part1, hbackt, hbackl, hback0, List.take_succ_cons, List.take_left, List.take_zero, List.take_nil, p0, p1, p2, p3, q1, q2, q3, q4, h0, h1, h2]
end Go.Proofs.Ytkbhejcfejembaa.S
