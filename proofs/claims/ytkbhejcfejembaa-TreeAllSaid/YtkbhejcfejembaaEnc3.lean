/- Trees: a statement that is being filled in. No condition. -/
import Derived.Test.YtkbhejcfejembaaMk3
set_option linter.all false
namespace Go.Proofs.Ytkbhejcfejembaa.S
open Go Go.AM Go.Proofs
set_option linter.unusedVariables false
set_option linter.unusedSimpArgs false

def S0 (op : Int) : S := ⟨op, ⟨#[]⟩, Rt0, Pl0, X0, 0, [], [], [], 0, 0⟩
def S.wName (x : S) (v : ByteArray) : S := ⟨x.op, v, x.right, x.place, x.e, x.n, x.args, x.body, x.els, x.line, x.col⟩
def S.wRight (x : S) (v : Rt) : S := ⟨x.op, x.name, v, x.place, x.e, x.n, x.args, x.body, x.els, x.line, x.col⟩
def S.wPlace (x : S) (v : Pl) : S := ⟨x.op, x.name, x.right, v, x.e, x.n, x.args, x.body, x.els, x.line, x.col⟩
def S.wE (x : S) (v : X) : S := ⟨x.op, x.name, x.right, x.place, v, x.n, x.args, x.body, x.els, x.line, x.col⟩
def S.wN (x : S) (v : Int) : S := ⟨x.op, x.name, x.right, x.place, x.e, v, x.args, x.body, x.els, x.line, x.col⟩
def S.wArgs (x : S) (v : List X) : S := ⟨x.op, x.name, x.right, x.place, x.e, x.n, v, x.body, x.els, x.line, x.col⟩
def S.wBody (x : S) (v : List S) : S := ⟨x.op, x.name, x.right, x.place, x.e, x.n, x.args, v, x.els, x.line, x.col⟩
def S.wEls (x : S) (v : List S) : S := ⟨x.op, x.name, x.right, x.place, x.e, x.n, x.args, x.body, v, x.line, x.col⟩
section
variable (x : S)
theorem S.encP : x.enc = [int x.op, str x.name] ++ x.right.enc ++ x.place.enc ++ x.e.enc ++ [int x.n, .sl (encs x.args) .dead, .sl (sencs x.body) .dead, .sl (sencs x.els) .dead, int x.line, int x.col] := S.enc_eq x
theorem S.l0 (v : Int) : laid x.enc 0 [int v] = S.enc ⟨v, x.name, x.right, x.place, x.e, x.n, x.args, x.body, x.els, x.line, x.col⟩ := by rw [S.encP, S.encP]; rfl
theorem S.l1 (v : ByteArray) : laid x.enc 1 [str v] = (x.wName v).enc := by rw [S.encP, S.encP]; rfl
theorem S.l2 (v : Rt) : laid x.enc 2 v.enc = (x.wRight v).enc := by
  have := laidB [int x.op, str x.name] x.right.enc (x.place.enc ++ x.e.enc ++ [int x.n, .sl (encs x.args) .dead, .sl (sencs x.body) .dead, .sl (sencs x.els) .dead, int x.line, int x.col]) v.enc (by rw [Rt.len, Rt.len])
  simp only [S.encP, S.wRight, List.append_assoc] at this ⊢
  exact this
theorem S.l29 (v : Pl) : laid x.enc 29 v.enc = (x.wPlace v).enc := by
  have := laidB ([int x.op, str x.name] ++ x.right.enc) x.place.enc (x.e.enc ++ [int x.n, .sl (encs x.args) .dead, .sl (sencs x.body) .dead, .sl (sencs x.els) .dead, int x.line, int x.col]) v.enc (by rw [Pl.len, Pl.len])
  rw [show ([int x.op, str x.name] ++ x.right.enc).length = 29 by rw [List.length_append, Rt.len]; rfl] at this
  simp only [S.encP, S.wPlace, List.append_assoc] at this ⊢
  exact this
theorem S.l43 (v : X) : laid x.enc 43 v.enc = (x.wE v).enc := by
  have := laidB ([int x.op, str x.name] ++ x.right.enc ++ x.place.enc) x.e.enc [int x.n, .sl (encs x.args) .dead, .sl (sencs x.body) .dead, .sl (sencs x.els) .dead, int x.line, int x.col] v.enc (by rw [X.len, X.len])
  rw [show ([int x.op, str x.name] ++ x.right.enc ++ x.place.enc).length = 43 by rw [List.length_append, List.length_append, Rt.len, Pl.len]; rfl] at this
  simp only [S.encP, S.wE, List.append_assoc] at this ⊢
  exact this
theorem hd_len : ([int x.op, str x.name] ++ x.right.enc ++ x.place.enc ++ x.e.enc).length = 52 := by simp only [List.length_append, Rt.len, Pl.len, X.len]; rfl
theorem S.l52 (v : Int) : laid x.enc 52 [int v] = (x.wN v).enc := by
  have := laidB ([int x.op, str x.name] ++ x.right.enc ++ x.place.enc ++ x.e.enc) [int x.n] [.sl (encs x.args) .dead, .sl (sencs x.body) .dead, .sl (sencs x.els) .dead, int x.line, int x.col] [int v] rfl
  rw [hd_len] at this
  simp only [S.encP, S.wN, List.append_assoc, List.cons_append, List.nil_append] at this ⊢
  exact this
theorem S.l53 (v : List X) : laid x.enc 53 [.sl (encs v) .dead] = (x.wArgs v).enc := by
  have := laidB ([int x.op, str x.name] ++ x.right.enc ++ x.place.enc ++ x.e.enc ++ [int x.n]) [.sl (encs x.args) .dead] [.sl (sencs x.body) .dead, .sl (sencs x.els) .dead, int x.line, int x.col] [.sl (encs v) .dead] rfl
  rw [List.length_append, hd_len] at this
  simp only [S.encP, S.wArgs, List.append_assoc, List.cons_append, List.nil_append] at this ⊢
  exact this
theorem S.l54 (v : List S) : laid x.enc 54 [.sl (sencs v) .dead] = (x.wBody v).enc := by
  have := laidB ([int x.op, str x.name] ++ x.right.enc ++ x.place.enc ++ x.e.enc ++ [int x.n, .sl (encs x.args) .dead]) [.sl (sencs x.body) .dead] [.sl (sencs x.els) .dead, int x.line, int x.col] [.sl (sencs v) .dead] rfl
  rw [List.length_append, hd_len] at this
  simp only [S.encP, S.wBody, List.append_assoc, List.cons_append, List.nil_append] at this ⊢
  exact this
theorem S.l55 (v : List S) : laid x.enc 55 [.sl (sencs v) .dead] = (x.wEls v).enc := by
  have := laidB ([int x.op, str x.name] ++ x.right.enc ++ x.place.enc ++ x.e.enc ++ [int x.n, .sl (encs x.args) .dead, .sl (sencs x.body) .dead]) [.sl (sencs x.els) .dead] [int x.line, int x.col] [.sl (sencs v) .dead] rfl
  rw [List.length_append, hd_len] at this
  simp only [S.encP, S.wEls, List.append_assoc, List.cons_append, List.nil_append] at this ⊢
  exact this
end
theorem laid_map (f : PV → PV) : ∀ (vs cs : List PV) (off : Nat), (laid cs off vs).map f = laid (cs.map f) off (vs.map f)
  | [], cs, off => rfl
  | v :: vs, cs, off => by simp only [laid, List.map_cons]; rw [laid_map f vs, List.map_set]
theorem laid_length : ∀ (vs cs : List PV) (off : Nat), (laid cs off vs).length = cs.length
  | [], cs, off => rfl
  | v :: vs, cs, off => by simp only [laid]; rw [laid_length vs, List.length_set]
theorem laid_fl : ∀ (vs cs : List PV) (off : Nat), cs.all flatC = true → vs.all flatC = true → (laid cs off vs).all flatC = true
  | [], cs, off, h, _ => h
  | v :: vs, cs, off, h, h2 => by
    simp only [List.all_cons, Bool.and_eq_true] at h2
    refine laid_fl vs _ _ ?_ h2.2
    rw [List.all_eq_true] at h ⊢
    intro p hp
    rcases List.mem_or_eq_of_mem_set hp with hp | rfl
    · exact h p hp
    · exact h2.1
/-- Cells that hold a statement, whatever is known of its rows' room. -/
structure In (cs : List PV) (x : S) : Prop where
  len : cs.length = 58
  fl : cs.all flatC = true
  can : cs.map canonC = x.enc
theorem In.put {cs : List PV} {x y : S} (h : In cs x) (off : Nat) (vs : List PV) (hf : vs.all flatC = true) (hl : laid x.enc off (vs.map canonC) = y.enc) : In (laid cs off vs) y :=
  ⟨by rw [laid_length, h.len], laid_fl vs cs off h.fl hf, by rw [laid_map, h.can, hl]⟩
theorem okc_of_fl : ∀ {cs : List PV}, cs.all flatC = true → okCells cs = true
  | [], _ => rfl
  | c :: cs, h => by
    simp only [List.all_cons, Bool.and_eq_true] at h
    have := okc_of_fl h.2
    cases c <;> simp_all [okCells, flatC]
section
variable {cs : List PV} {x : S} (h : In cs x)
include h
theorem In.ok : okCells cs = true := okc_of_fl h.fl
theorem In.name (v : ByteArray) : In (laid cs 1 [str v]) (x.wName v) := h.put 1 _ rfl (S.l1 x v)
theorem In.right (v : Rt) : In (laid cs 2 v.enc) (x.wRight v) := h.put 2 _ v.fl (by rw [v.canC]; exact S.l2 x v)
theorem In.place (v : Pl) : In (laid cs 29 v.enc) (x.wPlace v) := h.put 29 _ v.fl (by rw [v.canC]; exact S.l29 x v)
theorem In.e (v : X) : In (laid cs 43 v.enc) (x.wE v) := h.put 43 _ v.fl (by rw [v.canC]; exact S.l43 x v)
theorem In.n (v : Int) : In (laid cs 52 [int v]) (x.wN v) := h.put 52 _ rfl (S.l52 x v)
theorem In.args (v : List X) (c : Cap) : In (laid cs 53 [.sl (encs v) c]) (x.wArgs v) := h.put 53 _ rfl (S.l53 x v)
theorem In.body (v : List S) (c : Cap) : In (laid cs 54 [.sl (sencs v) c]) (x.wBody v) := h.put 54 _ rfl (S.l54 x v)
theorem In.els (v : List S) (c : Cap) : In (laid cs 55 [.sl (sencs v) c]) (x.wEls v) := h.put 55 _ rfl (S.l55 x v)
end
def Zs : List PV := .v (.int .i64 0) :: .v (.string ⟨#[]⟩) :: .v (.int .i64 0) :: .v (.int .i64 0) :: .v (.int .i64 0) :: .v (.int .u64 0) :: .v (.int .i64 0) :: .v (.string ⟨#[]⟩) :: .v (.string ⟨#[]⟩) :: .sl [] .nil :: .v (.int .i64 0) :: .v (.int .i64 0) :: .v (.int .i64 0) :: .v (.string ⟨#[]⟩) :: .v (.string ⟨#[]⟩) :: .v (.int .i64 0) :: .v (.int .i64 0) :: .v (.int .u64 0) :: .v (.int .i64 0) :: .v (.string ⟨#[]⟩) :: .v (.string ⟨#[]⟩) :: .sl [] .nil :: .v (.int .i64 0) :: .v (.int .i64 0) :: .v (.int .i64 0) :: .v (.int .i64 0) :: .v (.string ⟨#[]⟩) :: .v (.int .i64 0) :: .v (.int .i64 0) :: .v (.int .i64 0) :: .v (.string ⟨#[]⟩) :: .v (.string ⟨#[]⟩) :: .v (.int .i64 0) :: .v (.int .i64 0) :: .v (.int .u64 0) :: .v (.int .i64 0) :: .v (.string ⟨#[]⟩) :: .v (.string ⟨#[]⟩) :: .sl [] .nil :: .v (.int .i64 0) :: .v (.int .i64 0) :: .v (.int .i64 0) :: .v (.int .i64 0) :: .v (.int .i64 0) :: .v (.int .i64 0) :: .v (.int .u64 0) :: .v (.int .i64 0) :: .v (.string ⟨#[]⟩) :: .v (.string ⟨#[]⟩) :: .sl [] .nil :: .v (.int .i64 0) :: .v (.int .i64 0) :: .v (.int .i64 0) :: .sl [] .nil :: .sl [] .nil :: .sl [] .nil :: .v (.int .i64 0) :: .v (.int .i64 0) :: []
def Cz (op : Int) : List PV := laid Zs 0 [int op]
theorem Zc : (.v (.int .i64 0) :: .v (.string ⟨#[]⟩) :: .v (.int .i64 0) :: .v (.int .i64 0) :: .v (.int .i64 0) :: .v (.int .u64 0) :: .v (.int .i64 0) :: .v (.string ⟨#[]⟩) :: .v (.string ⟨#[]⟩) :: .sl [] .nil :: .v (.int .i64 0) :: .v (.int .i64 0) :: .v (.int .i64 0) :: .v (.string ⟨#[]⟩) :: .v (.string ⟨#[]⟩) :: .v (.int .i64 0) :: .v (.int .i64 0) :: .v (.int .u64 0) :: .v (.int .i64 0) :: .v (.string ⟨#[]⟩) :: .v (.string ⟨#[]⟩) :: .sl [] .nil :: .v (.int .i64 0) :: .v (.int .i64 0) :: .v (.int .i64 0) :: .v (.int .i64 0) :: .v (.string ⟨#[]⟩) :: .v (.int .i64 0) :: .v (.int .i64 0) :: .v (.int .i64 0) :: .v (.string ⟨#[]⟩) :: .v (.string ⟨#[]⟩) :: .v (.int .i64 0) :: .v (.int .i64 0) :: .v (.int .u64 0) :: .v (.int .i64 0) :: .v (.string ⟨#[]⟩) :: .v (.string ⟨#[]⟩) :: .sl [] .nil :: .v (.int .i64 0) :: .v (.int .i64 0) :: .v (.int .i64 0) :: .v (.int .i64 0) :: .v (.int .i64 0) :: .v (.int .i64 0) :: .v (.int .u64 0) :: .v (.int .i64 0) :: .v (.string ⟨#[]⟩) :: .v (.string ⟨#[]⟩) :: .sl [] .nil :: .v (.int .i64 0) :: .v (.int .i64 0) :: .v (.int .i64 0) :: .sl [] .nil :: .sl [] .nil :: .sl [] .nil :: .v (.int .i64 0) :: .v (.int .i64 0) :: [] : List PV) = Zs := rfl
theorem Zs_len : Zs.length = 58 := rfl
theorem Zs_can : Zs.map canonC = (S0 0).enc := by
  rw [S.encP]
  simp [Zs, canonC, S0, S.op, S.name, S.right, S.place, S.e, S.n, S.args, S.body, S.els, S.line, S.col, Rt0, Rt.enc, Pl0, Pl.enc, X0, X.enc, encs, sencs]
theorem In.zero (op : Int) : In (Cz op) (S0 op) := In.put (x := S0 0) ⟨rfl, rfl, Zs_can⟩ 0 [int op] rfl (S.l0 (S0 0) op)
theorem S0_build (op : Int) : rBuild [(0, 1), (1, 1), (2, 27), (29, 14), (43, 9), (52, 1), (53, 1), (54, 1), (55, 1), (56, 1), (57, 1)] Zs [(0, int op)] = some (.agg (Cz op)) := rfl
theorem Cz_args (op : Int) : AM.part false 1 53 (Cz op) = some (.sl [] .nil) := rfl
end Go.Proofs.Ytkbhejcfejembaa.S
