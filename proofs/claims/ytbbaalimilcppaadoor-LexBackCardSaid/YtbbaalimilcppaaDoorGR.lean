/- The lexer: what tokens' texts are lexed to, with blanks behind. No condition. -/
import Derived.Test.YtbbaalimilcppaaDoorGNames
set_option linter.all false
namespace Go.Proofs.YtbbaalimilcppaaDoor.S
open Go Go.AM Go.Proofs
set_option linter.unusedVariables false
set_option linter.unusedSimpArgs false
theorem blkB_iff {c : UInt8} : blkB c = true ↔ c = 32 ∨ c = 9 ∨ c = 13 ∨ c = 10 := by simp [blkB]
theorem blk_not {c : UInt8} (h : blkB c = true) : alnB c = false ∧ c ≠ 35 ∧ c ≠ 47 ∧ c ≠ 61 := by
  rcases blkB_iff.1 h with rfl | rfl | rfl | rfl <;> decide
theorem span_sep {q : UInt8 → Bool} {c : UInt8} (hc : q c = false) : ∀ (l R : List UInt8), spanN q (l ++ c :: R) = spanN q l
  | [], R => by rw [List.nil_append, spanN_cons, if_neg (by rw [hc]; simp)]; rfl
  | a :: l, R => by rw [List.cons_append, spanN_cons, spanN_cons, span_sep hc l R]
theorem take_sep {l R : List UInt8} {n : Nat} (c : UInt8) (h : n ≤ l.length) : (l ++ c :: R).take n = l.take n := List.take_append_of_le_length h
theorem pre2_sep {x y a : UInt8} {l R : List UInt8} {c : UInt8} (hc : c ≠ y) : ([x, y] : List UInt8).isPrefixOf (a :: l ++ c :: R) = ([x, y] : List UInt8).isPrefixOf (a :: l) := by
  cases l with
  | nil => simp [List.isPrefixOf, hc.symm]
  | cons b l => simp [List.isPrefixOf]
theorem signN_sep {a c : UInt8} {l R : List UInt8} (hc : c ≠ 61) : signN (a :: l ++ c :: R) = signN (a :: l) := by
  unfold signN
  rw [pre2_sep hc, pre2_sep hc, pre2_sep hc]
  rfl
/-- A blank behind changes no token. -/
theorem tokR_sep {a c : UInt8} {l R : List UInt8} (hc : blkB c = true) : tokR (a :: l ++ c :: R) = tokR (a :: l) := by
  obtain ⟨h1, h2, h3, h4⟩ := blk_not hc
  cases ha : alnB a with
  | true =>
    rw [List.cons_append, tokR_aln ha, tokR_aln ha, ← List.cons_append, span_sep h1, take_sep _ (spanN_le _ _)]
  | false =>
    by_cases hq : a = 35
    · subst hq
      rw [List.cons_append, tokR_real, tokR_real, span_sep h1, take_sep _ (spanN_le _ _)]
    · rw [List.cons_append, tokR_sign ha hq, tokR_sign ha hq, ← List.cons_append, signN_sep h4]
theorem blk1_sep {a c : UInt8} {l R : List UInt8} (hc : blkB c = true) (h : blk1 (a :: l) = 0) : blk1 (a :: l ++ c :: R) = 0 := by
  obtain ⟨h1, h2, h3, h4⟩ := blk_not hc
  have hp := pre2_sep (x := 47) (a := a) (l := l) (R := R) h3
  rw [List.cons_append] at hp ⊢
  rw [blk1] at h ⊢
  rw [hp]
  split at h
  · rename_i hn
    rw [if_pos hn]
    have := note_pos hn
    omega
  · rename_i hn
    rw [if_neg hn]; exact h
theorem blk1_nl {a : UInt8} {l R : List UInt8} : blk1 (a :: l ++ 10 :: R) = blk1 (a :: l) := by
  have hp := pre2_sep (x := 47) (y := 47) (a := a) (l := l) (R := R) (c := 10) (by decide)
  have hs := span_sep (q := nlB) (c := 10) (by decide) (a :: l) R
  rw [List.cons_append] at hp hs ⊢
  rw [blk1, blk1, hp, hs]
theorem span_take {q : UInt8 → Bool} : ∀ (l : List UInt8), spanN q (l.take (spanN q l)) = spanN q l
  | [] => rfl
  | a :: l => by
    rw [spanN_cons]
    split
    · rename_i h
      rw [List.take_succ_cons, spanN_cons, if_pos h, span_take l]
    · rfl
theorem take_take_self {α : Type} (l : List α) (n : Nat) : (l.take n).take n = l.take n := by rw [List.take_take, Nat.min_self]
theorem pre2_self {x y : UInt8} {l : List UInt8} (h : ([x, y] : List UInt8).isPrefixOf l = true) : ∃ r, l = x :: y :: r := by
  obtain ⟨r, hr⟩ := List.isPrefixOf_iff_prefix.1 h
  exact ⟨r, hr.symm⟩
theorem pre2_one {x y a : UInt8} : ([x, y] : List UInt8).isPrefixOf [a] = false := by simp [List.isPrefixOf]
theorem signN_take {a : UInt8} {l : List UInt8} (h : signN (a :: l) ≠ 0) : signN ((a :: l).take (signN (a :: l))) = signN (a :: l) := by
  by_cases hp : (([61, 61] : List UInt8).isPrefixOf (a :: l) || ([33, 61] : List UInt8).isPrefixOf (a :: l) || ([60, 61] : List UInt8).isPrefixOf (a :: l)) = true
  · have e : signN (a :: l) = 2 := by rw [signN, if_pos hp]
    rw [e]
    simp only [Bool.or_eq_true] at hp
    rcases hp with (hp | hp) | hp <;>
    · obtain ⟨r, hr⟩ := pre2_self hp
      rw [hr]
      simp [signN, List.isPrefixOf]
  · have e : signN (a :: l) = if signs1.contains a then 1 else 0 := by rw [signN, if_neg hp]
    by_cases hs : signs1.contains a = true
    · rw [if_pos hs] at e
      rw [e, List.take_succ_cons, List.take_zero, signN, pre2_one, pre2_one, pre2_one]
      simpa using hs
    · rw [if_neg hs] at e
      exact absurd e h
/-- A token's text is that token. -/
theorem tokR_take {a : UInt8} {l : List UInt8} (h : (tokR (a :: l)).2.2.2 = true) : tokR ((a :: l).take (tokR (a :: l)).2.1) = tokR (a :: l) := by
  cases ha : alnB a with
  | true =>
    have hs := span_pos (l := l) ha
    have e : (tokR (a :: l)).2.1 = spanN alnB (a :: l) := by rw [tokR_aln ha]
    obtain ⟨n, hn⟩ : ∃ n, spanN alnB (a :: l) = n + 1 := ⟨spanN alnB (a :: l) - 1, by omega⟩
    have ht : (a :: l).take (spanN alnB (a :: l)) = a :: l.take n := by rw [hn, List.take_succ_cons]
    have hsp := span_take (q := alnB) (a :: l)
    have htt := take_take_self (a :: l) (spanN alnB (a :: l))
    rw [ht] at hsp htt
    rw [e, ht, tokR_aln ha, tokR_aln ha, hsp, htt, ht]
  | false =>
    by_cases hq : a = 35
    · subst hq
      have e : (tokR (35 :: l)).2.1 = spanN alnB l + 1 := by rw [tokR_real]
      rw [e, List.take_succ_cons, tokR_real, tokR_real, span_take, take_take_self]
    · have e : (tokR (a :: l)).2.1 = signN (a :: l) := by rw [tokR_sign ha hq]
      have h0 : signN (a :: l) ≠ 0 := by
        rw [tokR_sign ha hq] at h
        simpa using h
      have hs := signN_take h0
      obtain ⟨n, hn⟩ : ∃ n, signN (a :: l) = n + 1 := ⟨signN (a :: l) - 1, by omega⟩
      have ht : (a :: l).take (signN (a :: l)) = a :: l.take n := by rw [hn, List.take_succ_cons]
      rw [ht] at hs
      rw [e, ht, tokR_sign ha hq, tokR_sign ha hq, hs]
theorem blk1_take {a : UInt8} {l : List UInt8} {n : Nat} (h : blk1 (a :: l) = 0) : blk1 (a :: l.take n) = 0 := by
  have hne : ¬ (([47, 47] : List UInt8).isPrefixOf (a :: l) = true) := fun hn => by
    rw [blk1, if_pos hn] at h
    have := note_pos hn
    omega
  rw [blk1, if_neg hne] at h
  rw [blk1, if_neg ?_]
  · exact h
  · intro hn
    obtain ⟨r, hr⟩ := pre2_self hn
    apply hne
    cases l with
    | nil => simp at hr
    | cons b l =>
      cases n with
      | zero => simp at hr
      | succ n =>
        rw [List.take_succ_cons] at hr
        obtain ⟨rfl, h2⟩ := List.cons.inj hr
        obtain ⟨rfl, h3⟩ := List.cons.inj h2
        simp [List.isPrefixOf]
/-- A token whose text is lexed to it. -/
structure Tk (t : Tok) : Prop where
  ex : ∃ a l, t.text = a :: l ∧ blk1 (a :: l) = 0 ∧ tokR (a :: l) = (t.kind, (a :: l).length, t.n, true)
theorem tk_at {a : UInt8} {l : List UInt8} (hb : blk1 (a :: l) = 0) (h : (tokR (a :: l)).2.2.2 = true) (p : Nat × Nat) : Tk (tokAt (a :: l) p) := by
  have hpos := tokR_pos h
  obtain ⟨n, hn⟩ : ∃ n, (tokR (a :: l)).2.1 = n + 1 := ⟨(tokR (a :: l)).2.1 - 1, by omega⟩
  have hle := tokR_le a l
  have ht := tokR_take h
  refine ⟨a, l.take n, by unfold tokAt; rw [hn, List.take_succ_cons], blk1_take hb, ?_⟩
  rw [hn, List.take_succ_cons] at ht
  have hlen : (a :: l.take n).length = (tokR (a :: l)).2.1 := by
    rw [hn]
    simp only [List.length_cons, List.length_take] at hle ⊢
    omega
  rw [ht, hlen]
  unfold tokAt
  rw [← h]
/-- A text's tokens: such, and the end. -/
theorem lexL_shape : ∀ (k : Nat) (rest : List UInt8) (p : Nat × Nat), rest.length = k → ∀ ts, lexL rest p = .ok ts → ∃ t0, (∀ t ∈ t0, Tk t) ∧ ts = t0 ++ [⟨0, [], 0, adv rest p⟩] := by
  intro k
  induction k using Nat.strongRecOn with
  | ind k ih =>
    intro rest p hk ts h
    cases rest with
    | nil =>
      rw [lexL_nil] at h
      obtain rfl := LR.ok.inj h
      exact ⟨[], by simp, rfl⟩
    | cons c l =>
      by_cases hb : blk1 (c :: l) = 0
      · cases ht : (tokR (c :: l)).2.2.2 with
        | false => rw [lexL_err hb ht] at h; cases h
        | true =>
          rw [lexL_tok hb ht] at h
          have hpos := tokR_pos ht
          have hdl : ((c :: l).drop (tokR (c :: l)).2.1).length = (c :: l).length - (tokR (c :: l)).2.1 := List.length_drop ..
          cases hr : lexL ((c :: l).drop (tokR (c :: l)).2.1) (adv ((c :: l).take (tokR (c :: l)).2.1) p) with
          | err q => rw [hr] at h; cases h
          | ok ts' =>
            rw [hr] at h
            obtain rfl := LR.ok.inj h
            obtain ⟨t0, h1, h2⟩ := ih _ (by simp only [List.length_cons] at hdl hk; omega) _ _ rfl ts' hr
            refine ⟨tokAt (c :: l) p :: t0, ?_, ?_⟩
            · intro t hm
              rcases List.mem_cons.1 hm with rfl | hm
              · exact tk_at hb ht p
              · exact h1 t hm
            · rw [h2, List.cons_append, ← adv_append, List.take_append_drop]
      · rw [lexL_blank hb] at h
        have hdl : ((c :: l).drop (blk1 (c :: l))).length = (c :: l).length - blk1 (c :: l) := List.length_drop ..
        obtain ⟨t0, h1, h2⟩ := ih _ (by simp only [List.length_cons] at hdl hk; omega) _ _ rfl ts h
        exact ⟨t0, h1, by rw [h2, ← adv_append, List.take_append_drop]⟩
/-- A blank is over. -/
theorem lexL_sep {c : UInt8} (hc : blkB c = true) (R : List UInt8) (p : Nat × Nat) : lexL (c :: R) p = lexL R (adv [c] p) := by
  have hb : blk1 (c :: R) = 1 := by
    rw [blk1, if_neg, if_pos hc]
    intro hn
    obtain ⟨r, hr⟩ := pre2_self hn
    exact (blk_not hc).2.2.1 (List.cons.inj hr).1
  rw [lexL_blank (by omega), hb]
  rfl
/-- A token, a blank, and what is behind. -/
theorem lexL_tk {t : Tok} (h : Tk t) {c : UInt8} (hc : blkB c = true) (R : List UInt8) (p : Nat × Nat) : lexL (t.text ++ c :: R) p = (lexL R (adv (t.text ++ [c]) p)).cons ⟨t.kind, t.text, t.n, p⟩ := by
  obtain ⟨a, l, h1, h2, h3⟩ := h.ex
  have ht := tokR_sep (a := a) (l := l) (R := R) hc
  have hb := blk1_sep (R := R) hc h2
  rw [h3] at ht
  rw [h1]
  rw [List.cons_append] at hb ht ⊢
  rw [lexL_tok hb (by rw [ht]), tokAt, ht]
  dsimp only
  rw [← List.cons_append, List.take_left, List.drop_left, lexL_sep hc, List.cons_append, ← List.cons_append, adv_append]
/-- A note is over. -/
theorem lexL_note {n : List UInt8} (hn : ∀ c ∈ n, c ≠ 10) (R : List UInt8) (p : Nat × Nat) : lexL (47 :: 47 :: (n ++ 10 :: R)) p = lexL R (adv (47 :: 47 :: (n ++ [10])) p) := by
  have hs : spanN nlB (47 :: 47 :: (n ++ 10 :: R)) = (47 :: 47 :: n).length := by
    have e : 47 :: 47 :: (n ++ 10 :: R) = (47 :: 47 :: n) ++ 10 :: R := rfl
    rw [e, span_sep (by decide)]
    apply span_full
    simp only [List.all_cons, List.all_eq_true, Bool.and_eq_true]
    exact ⟨by decide, by decide, fun c hc => by simpa [nlB] using hn c hc⟩
  have hb : blk1 (47 :: 47 :: (n ++ 10 :: R)) = (47 :: 47 :: n).length := by
    rw [blk1, if_pos (by simp [List.isPrefixOf]), hs]
  have e : 47 :: 47 :: (n ++ 10 :: R) = (47 :: 47 :: n) ++ 10 :: R := rfl
  rw [lexL_blank (by rw [hb]; simp), hb, e, List.take_left, List.drop_left, lexL_sep (by decide), ← adv_append]
  rfl
theorem tk_no10 {t : Tok} (h : Tk t) : ∀ c ∈ t.text, c ≠ 10 := by
  obtain ⟨a, l, h1, h2, h3⟩ := h.ex
  rw [h1]
  intro c hc
  cases ha : alnB a with
  | true =>
    rw [tokR_aln ha] at h3
    simp only [Prod.mk.injEq] at h3
    have := span_all alnB (a :: l) c (by rw [h3.2.1, List.take_length]; exact hc)
    rintro rfl
    revert this; decide
  | false =>
    by_cases hq : a = 35
    · subst hq
      rw [tokR_real] at h3
      simp only [Prod.mk.injEq, List.length_cons] at h3
      rcases List.mem_cons.1 hc with rfl | hc
      · decide
      · have := span_all alnB l c (by rw [show spanN alnB l = l.length by omega, List.take_length]; exact hc)
        rintro rfl
        revert this; decide
    · rw [tokR_sign ha hq] at h3
      simp only [Prod.mk.injEq] at h3
      have h4 := h3.2.1
      have h5 : signN (a :: l) ≠ 0 := by rw [h4]; simp
      by_cases hp : (([61, 61] : List UInt8).isPrefixOf (a :: l) || ([33, 61] : List UInt8).isPrefixOf (a :: l) || ([60, 61] : List UInt8).isPrefixOf (a :: l)) = true
      · have e : signN (a :: l) = 2 := by rw [signN, if_pos hp]
        have hl : l.length = 1 := by rw [e] at h4; simpa using h4.symm
        obtain ⟨b, rfl⟩ := List.length_eq_one_iff.1 hl
        simp only [Bool.or_eq_true] at hp
        rcases hp with (hp | hp) | hp <;>
        · obtain ⟨r, hr⟩ := pre2_self hp
          obtain ⟨rfl, h7⟩ := List.cons.inj hr
          obtain ⟨rfl, _⟩ := List.cons.inj h7
          simp only [List.mem_cons, List.not_mem_nil, or_false] at hc
          rcases hc with rfl | rfl <;> decide
      · have e : signN (a :: l) = if signs1.contains a then 1 else 0 := by rw [signN, if_neg hp]
        by_cases hs : signs1.contains a = true
        · rw [if_pos hs] at e
          have hl : l = [] := by rw [e] at h4; simpa using h4.symm
          subst hl
          rw [List.mem_singleton] at hc
          subst hc
          rintro rfl
          revert hs; decide
        · rw [if_neg hs] at e
          exact absurd e h5
end Go.Proofs.YtbbaalimilcppaaDoor.S

/- The lexer: tokens put one behind the other; texts put one behind the other; places. No condition. -/
namespace Go.Proofs.YtbbaalimilcppaaDoor.S
open Go Go.AM Go.Proofs
set_option linter.unusedVariables false
set_option linter.unusedSimpArgs false
/-- What a token is, but for its place. -/
def Tok.bare (t : Tok) : Nat × List UInt8 × Nat := (t.kind, t.text, t.n)
/-! ### tokens, one a line -/
def btext : List Tok → List UInt8
  | [] => []
  | t :: r => t.text ++ 10 :: btext r
def bk : List Tok → Nat → List Tok
  | [], k => [⟨0, [], 0, (k + 1, 1)⟩]
  | t :: r, k => ⟨t.kind, t.text, t.n, (k, 1)⟩ :: bk r (k + 1)
theorem btext_append (a b : List Tok) : btext (a ++ b) = btext a ++ btext b := by
  induction a with
  | nil => rfl
  | cons t a ih => simp only [List.cons_append, btext, ih, List.append_assoc]
theorem bk_lex : ∀ {t0 : List Tok} (_ : ∀ t ∈ t0, Tk t) (k : Nat), lexL (btext t0 ++ [10]) (k, 1) = .ok (bk t0 k)
  | [], _, k => by
    show lexL [10] (k, 1) = _
    rw [lexL_sep (by decide), lexL_nil]
    rfl
  | t :: r, h, k => by
    have ht := h t (by simp)
    rw [btext, List.append_assoc, List.cons_append, lexL_tk ht (by decide), adv_append, adv_no10 _ _ (tk_no10 ht)]
    show (lexL (btext r ++ [10]) (k + 1, 1)).cons _ = _
    rw [bk_lex (fun t hm => h t (by simp [hm])) (k + 1)]
    rfl
theorem bk_bare : ∀ (t0 : List Tok) (k : Nat) (q : Nat × Nat), (bk t0 k).map Tok.bare = (t0 ++ [(⟨0, [], 0, q⟩ : Tok)]).map Tok.bare
  | [], k, q => rfl
  | t :: r, k, q => by
    rw [bk, List.map_cons, bk_bare r (k + 1) q]
    rfl
theorem bk_len : ∀ (t0 : List Tok) (k : Nat), (bk t0 k).length = t0.length + 1
  | [], k => rfl
  | t :: r, k => by rw [bk, List.length_cons, bk_len r]; rfl
theorem bk_place : ∀ (t0 : List Tok) (k i : Nat) (h : i < (bk t0 k).length), i < t0.length → ((bk t0 k)[i]).p = (k + i, 1)
  | [], k, i, h, hi => by simp at hi
  | t :: r, k, 0, h, hi => rfl
  | t :: r, k, i + 1, h, hi => by
    have := bk_place r (k + 1) i (by simpa [bk] using h) (by simpa using hi)
    simp only [bk, List.getElem_cons_succ]
    rw [this, Prod.mk.injEq]
    exact ⟨by omega, rfl⟩
theorem lexT_ok {l : List UInt8} {ts : List Tok} (hl : l.length ≤ 8192) (h : lexL l (1, 1) = .ok ts) : lexT l = ts ∧ lexF l = (0, 0, 0) := by
  rw [lexT, lexF, if_neg (by omega), if_neg (by omega), h]; exact ⟨rfl, rfl⟩
theorem lexT_err {l : List UInt8} {q : Nat × Nat} (hl : l.length ≤ 8192) (h : lexL l (1, 1) = .err q) : lexT l = [] ∧ lexF l = (3, q.1, q.2) := by
  rw [lexT, lexF, if_neg (by omega), if_neg (by omega), h]; exact ⟨rfl, rfl⟩
/-- Tokens, one a line, are the same tokens, each in its line. -/
theorem back_law {l : List UInt8} {ts : List Tok} (h : lexL l (1, 1) = .ok ts) (hb : (btext ts).length ≤ 8192) :
    ∃ ms, lexT (btext ts) = ms ∧ lexF (btext ts) = (0, 0, 0) ∧ ms.map Tok.bare = ts.map Tok.bare ∧ ∀ i (hi : i < ms.length), i + 1 < ts.length → (ms[i]).p = (i + 1, 1) := by
  obtain ⟨t0, h1, rfl⟩ := lexL_shape l.length l (1, 1) rfl ts h
  have hk := bk_lex h1 1
  have e : btext (t0 ++ [⟨0, [], 0, adv l (1, 1)⟩]) = btext t0 ++ [10] := by rw [btext_append]; rfl
  rw [e] at hb ⊢
  refine ⟨bk t0 1, (lexT_ok hb hk).1, (lexT_ok hb hk).2, bk_bare t0 1 _, fun i hi h2 => ?_⟩
  rw [bk_place t0 1 i hi (by simpa using h2), Prod.mk.injEq]
  exact ⟨by omega, rfl⟩
/-! ### tokens, with blanks and notes between -/
def gap (note : List UInt8) (i : Nat) : List UInt8 := 32 :: if i % 3 = 0 then 9 :: 47 :: 47 :: (note ++ [10]) else []
def ntext (note : List UInt8) : List Tok → Nat → List UInt8
  | [], _ => []
  | t :: r, i => t.text ++ (gap note i ++ ntext note r (i + 1))
theorem ntext_append (note : List UInt8) : ∀ (a b : List Tok) (i : Nat), ntext note (a ++ b) i = ntext note a i ++ ntext note b (i + a.length)
  | [], b, i => rfl
  | t :: a, b, i => by
    simp only [List.cons_append, ntext, ntext_append note a b (i + 1), List.append_assoc, List.length_cons]
    rw [show i + 1 + a.length = i + (a.length + 1) by omega]
theorem gap_lex {note : List UInt8} (hn : ∀ c ∈ note, c ≠ 10) (i : Nat) (R : List UInt8) (p : Nat × Nat) : ∃ q, lexL ((gap note i).drop 1 ++ R) p = lexL R q := by
  unfold gap
  split
  · have e : (32 :: 9 :: 47 :: 47 :: (note ++ [10])).drop 1 ++ R = 9 :: 47 :: 47 :: (note ++ 10 :: R) := by simp
    rw [e, lexL_sep (by decide), lexL_note hn]
    exact ⟨_, rfl⟩
  · exact ⟨p, rfl⟩
theorem gap_cons (note : List UInt8) (i : Nat) : gap note i = 32 :: (gap note i).drop 1 := rfl
theorem notes_lex {note : List UInt8} (hn : ∀ c ∈ note, c ≠ 10) : ∀ {t0 : List Tok} (_ : ∀ t ∈ t0, Tk t) (i : Nat) (p q : Nat × Nat), ∃ ms, lexL (ntext note (t0 ++ [⟨0, [], 0, q⟩]) i) p = .ok ms ∧ ms.map Tok.bare = (t0 ++ [(⟨0, [], 0, q⟩ : Tok)]).map Tok.bare
  | [], _, i, p, q => by
    obtain ⟨q', hq⟩ := gap_lex hn i [] (adv [32] p)
    refine ⟨[⟨0, [], 0, q'⟩], ?_, rfl⟩
    rw [List.nil_append, ntext, ntext, List.nil_append, gap_cons, List.cons_append, lexL_sep (by decide), hq, lexL_nil]
  | t :: r, h, i, p, q => by
    have ht := h t (by simp)
    obtain ⟨q', hq⟩ := gap_lex hn i (ntext note (r ++ [⟨0, [], 0, q⟩]) (i + 1)) (adv (t.text ++ [32]) p)
    obtain ⟨ms, h1, h2⟩ := notes_lex hn (fun t hm => h t (by simp [hm])) (t0 := r) (i + 1) q' q
    refine ⟨⟨t.kind, t.text, t.n, p⟩ :: ms, ?_, ?_⟩
    · rw [List.cons_append, ntext, gap_cons, List.cons_append, lexL_tk ht (by decide), hq, h1]
      rfl
    · rw [List.map_cons, h2]
      rfl
theorem notes_law {l note : List UInt8} {ts : List Tok} (hn : ∀ c ∈ note, c ≠ 10) (h : lexL l (1, 1) = .ok ts) (hb : (ntext note ts 0).length ≤ 8192) :
    ∃ ms, lexT (ntext note ts 0) = ms ∧ lexF (ntext note ts 0) = (0, 0, 0) ∧ ms.map Tok.bare = ts.map Tok.bare := by
  obtain ⟨t0, h1, rfl⟩ := lexL_shape l.length l (1, 1) rfl ts h
  obtain ⟨ms, h2, h3⟩ := notes_lex hn h1 0 (1, 1) (adv l (1, 1))
  exact ⟨ms, (lexT_ok hb h2).1, (lexT_ok hb h2).2, h3⟩
/-! ### two texts -/
def down (d : Nat) (t : Tok) : Tok := { t with p := (t.p.1 + d, t.p.2) }
def LR.down (d : Nat) : LR → LR
  | .ok ts => .ok (ts.map (S.down d))
  | .err q => .err (q.1 + d, q.2)
def LR.pre (a : List Tok) : LR → LR
  | .ok ts => .ok (a ++ ts)
  | .err q => .err q
theorem adv_down (d : Nat) : ∀ (l : List UInt8) (p : Nat × Nat), adv l (p.1 + d, p.2) = ((adv l p).1 + d, (adv l p).2)
  | [], p => rfl
  | c :: l, p => by
    rw [adv, adv]
    split
    · rw [show p.1 + d + 1 = p.1 + 1 + d by omega]
      exact adv_down d l (p.1 + 1, 1)
    · exact adv_down d l (p.1, p.2 + 1)
theorem lexL_down (d : Nat) : ∀ (k : Nat) (rest : List UInt8) (p : Nat × Nat), rest.length = k → lexL rest (p.1 + d, p.2) = (lexL rest p).down d := by
  intro k
  induction k using Nat.strongRecOn with
  | ind k ih =>
    intro rest p hk
    cases rest with
    | nil => rw [lexL_nil, lexL_nil]; rfl
    | cons c l =>
      by_cases hb : blk1 (c :: l) = 0
      · cases ht : (tokR (c :: l)).2.2.2 with
        | false => rw [lexL_err hb ht, lexL_err hb ht]; rfl
        | true =>
          have hpos := tokR_pos ht
          have hdl : ((c :: l).drop (tokR (c :: l)).2.1).length = (c :: l).length - (tokR (c :: l)).2.1 := List.length_drop ..
          rw [lexL_tok hb ht, lexL_tok hb ht, adv_down, ih _ (by simp only [List.length_cons] at hdl hk; omega) _ _ rfl]
          cases lexL ((c :: l).drop (tokR (c :: l)).2.1) (adv ((c :: l).take (tokR (c :: l)).2.1) p) <;> rfl
      · have hdl : ((c :: l).drop (blk1 (c :: l))).length = (c :: l).length - blk1 (c :: l) := List.length_drop ..
        rw [lexL_blank hb, lexL_blank hb, adv_down, ih _ (by simp only [List.length_cons] at hdl hk; omega) _ _ rfl]
theorem drop_nl {a b : List UInt8} {n : Nat} (h : n ≤ a.length) : (a ++ 10 :: b).drop n = a.drop n ++ 10 :: b := List.drop_append_of_le_length h
theorem lexL_join (b : List UInt8) : ∀ (k : Nat) (a : List UInt8) (p : Nat × Nat), a.length = k →
    lexL (a ++ 10 :: b) p = match lexL a p with | .err q => .err q | .ok ts => (lexL b (adv (a ++ [10]) p)).pre ts.dropLast := by
  intro k
  induction k using Nat.strongRecOn with
  | ind k ih =>
    intro a p hk
    cases a with
    | nil =>
      rw [lexL_nil, List.nil_append, lexL_sep (by decide)]
      show _ = (lexL b (adv ([] ++ [10]) p)).pre []
      rw [List.nil_append]
      cases lexL b (adv [10] p) <;> rfl
    | cons c l =>
      have hbn := blk1_nl (a := c) (l := l) (R := b)
      have htn := tokR_sep (a := c) (l := l) (R := b) (c := 10) (by decide)
      by_cases hb : blk1 (c :: l) = 0
      · cases ht : (tokR (c :: l)).2.2.2 with
        | false =>
          rw [List.cons_append] at hbn htn ⊢
          rw [lexL_err (by rw [hbn]; exact hb) (by rw [htn]; exact ht), lexL_err hb ht]
        | true =>
          have hpos := tokR_pos ht
          have hle := tokR_le c l
          have hdl : ((c :: l).drop (tokR (c :: l)).2.1).length = (c :: l).length - (tokR (c :: l)).2.1 := List.length_drop ..
          have hdn := drop_nl (b := b) hle
          have htk := take_sep (R := b) 10 hle
          rw [List.cons_append] at hbn htn hdn htk ⊢
          rw [lexL_tok (by rw [hbn]; exact hb) (by rw [htn]; exact ht), lexL_tok hb ht, tokAt, tokAt, htn, hdn, htk, ih _ (by simp only [List.length_cons] at hdl hk; omega) _ _ rfl]
          have ea : adv ((c :: l).drop (tokR (c :: l)).2.1 ++ [10]) (adv ((c :: l).take (tokR (c :: l)).2.1) p) = adv (c :: l ++ [10]) p := by
            rw [← adv_append, ← List.append_assoc, List.take_append_drop]
          rw [ea]
          cases hr : lexL ((c :: l).drop (tokR (c :: l)).2.1) (adv ((c :: l).take (tokR (c :: l)).2.1) p) with
          | err q => rfl
          | ok ts =>
            obtain ⟨t0, _, rfl⟩ := lexL_shape _ _ _ rfl ts hr
            simp only [LR.cons]
            rw [← List.cons_append, List.dropLast_concat, List.dropLast_concat]
            cases lexL b (adv (c :: l ++ [10]) p) <;> rfl
      · have hle := blk1_le (c :: l)
        have hdl : ((c :: l).drop (blk1 (c :: l))).length = (c :: l).length - blk1 (c :: l) := List.length_drop ..
        have hdn := drop_nl (b := b) hle
        have htk := take_sep (R := b) 10 hle
        rw [lexL_blank (by rw [hbn]; exact hb), lexL_blank hb, hbn, hdn, htk, ih _ (by simp only [List.length_cons] at hdl hk; omega) _ _ rfl]
        have ea : adv ((c :: l).drop (blk1 (c :: l)) ++ [10]) (adv ((c :: l).take (blk1 (c :: l))) p) = adv (c :: l ++ [10]) p := by
          rw [← adv_append, ← List.append_assoc, List.take_append_drop]
        rw [ea]
theorem adv_nl (l : List UInt8) (p : Nat × Nat) : adv (l ++ [10]) p = ((adv l p).1 + 1, 1) := by rw [adv_append]; rfl
theorem lexL_low {M : Nat} : ∀ (k : Nat) (rest : List UInt8) (p : Nat × Nat), rest.length = k → 1 ≤ p.2 → p.1 + rest.length < M → ∀ ts, lexL rest p = .ok ts → ∀ t ∈ ts, t.p.1 < M := by
  intro k
  induction k using Nat.strongRecOn with
  | ind k ih =>
    intro rest p hk hp hM ts h
    have bnd : ∀ n, n ≤ rest.length → 0 < n → 1 ≤ (adv (rest.take n) p).2 ∧ (adv (rest.take n) p).1 + (rest.drop n).length < M ∧ (rest.drop n).length < k := fun n hn h0 => by
      have := adv_bnd (rest.take n) p hp
      have h2 : (rest.take n).length = n := by rw [List.length_take]; omega
      have h3 : (rest.drop n).length = rest.length - n := List.length_drop ..
      omega
    cases rest with
    | nil =>
      rw [lexL_nil] at h
      obtain rfl := LR.ok.inj h
      intro t ht
      rw [List.mem_singleton] at ht
      subst ht
      simpa using hM
    | cons c l =>
      by_cases hb : blk1 (c :: l) = 0
      · cases ht : (tokR (c :: l)).2.2.2 with
        | false => rw [lexL_err hb ht] at h; cases h
        | true =>
          rw [lexL_tok hb ht] at h
          obtain ⟨b1, b2, b3⟩ := bnd _ (tokR_le c l) (tokR_pos ht)
          cases hr : lexL ((c :: l).drop (tokR (c :: l)).2.1) (adv ((c :: l).take (tokR (c :: l)).2.1) p) with
          | err q => rw [hr] at h; cases h
          | ok ts' =>
            rw [hr] at h
            obtain rfl := LR.ok.inj h
            intro t hm
            rcases List.mem_cons.1 hm with rfl | hm
            · show p.1 < M
              omega
            · exact ih _ b3 _ _ rfl b1 b2 ts' hr t hm
      · rw [lexL_blank hb] at h
        obtain ⟨b1, b2, b3⟩ := bnd _ (blk1_le (c :: l)) (by omega)
        exact ih _ b3 _ _ rfl b1 b2 ts h
/-- Two texts, a line feed between. -/
theorem joins_law {a b : List UInt8} (ha : a.length ≤ 4096) (hb : b.length < 4096) :
    (∃ q, lexL a (1, 1) = .err q ∧ lexT a = [] ∧ lexF a = (3, q.1, q.2) ∧ lexT (a ++ 10 :: b) = [] ∧ lexF (a ++ 10 :: b) = (3, q.1, q.2)) ∨
    (∃ t0 q0 e, lexT a = t0 ++ [⟨0, [], 0, q0⟩] ∧ lexF a = (0, 0, 0) ∧ lexT b = [] ∧ lexF b = (3, e) ∧ lexT (a ++ 10 :: b) = [] ∧ ∃ q, lexF (a ++ 10 :: b) = (3, q)) ∨
    (∃ t0 q0 ts, q0.1 < 100000 ∧ lexT a = t0 ++ [⟨0, [], 0, q0⟩] ∧ lexF a = (0, 0, 0) ∧ lexT b = ts ∧ (∀ t ∈ ts, t.p.1 < 100000) ∧ lexF b = (0, 0, 0) ∧ lexT (a ++ 10 :: b) = t0 ++ ts.map (down q0.1) ∧ lexF (a ++ 10 :: b) = (0, 0, 0)) := by
  have hl : (a ++ 10 :: b).length ≤ 8192 := by simp only [List.length_append, List.length_cons]; omega
  have hj := lexL_join b a.length a (1, 1) rfl
  cases hx : lexL a (1, 1) with
  | err q =>
    rw [hx] at hj
    exact .inl ⟨q, rfl, (lexT_err (by omega) hx).1, (lexT_err (by omega) hx).2, (lexT_err hl hj).1, (lexT_err hl hj).2⟩
  | ok xs =>
    rw [hx] at hj
    obtain ⟨t0, h1, rfl⟩ := lexL_shape _ _ _ rfl xs hx
    have hq := adv_bnd a (1, 1) (by simp)
    have hd := lexL_down (adv a (1, 1)).1 b.length b (1, 1) rfl
    simp only [List.dropLast_concat] at hj
    have e1 : (1 + (adv a (1, 1)).1, 1) = adv (a ++ [10]) (1, 1) := by rw [adv_nl, Nat.add_comm]
    simp only at hd
    rw [e1] at hd
    rw [hd] at hj
    cases hy : lexL b (1, 1) with
    | err q =>
      rw [hy] at hj
      exact .inr (.inl ⟨t0, adv a (1, 1), q, (lexT_ok (by omega) hx).1, (lexT_ok (by omega) hx).2, (lexT_err (by omega) hy).1, (lexT_err (by omega) hy).2, (lexT_err hl hj).1, _, (lexT_err hl hj).2⟩)
    | ok ts =>
      rw [hy] at hj
      refine .inr (.inr ⟨t0, adv a (1, 1), ts, by simp only at hq; omega, (lexT_ok (by omega) hx).1, (lexT_ok (by omega) hx).2, (lexT_ok (by omega) hy).1, ?_, (lexT_ok (by omega) hy).2, (lexT_ok hl hj).1, (lexT_ok hl hj).2⟩)
      exact lexL_low (M := 100000) b.length b (1, 1) rfl (by simp) (by simp only; omega) ts hy
end Go.Proofs.YtbbaalimilcppaaDoor.S

/- The lexer: where tokens stand. No condition. -/
namespace Go.Proofs.YtbbaalimilcppaaDoor.S
open Go Go.AM Go.Proofs
set_option linter.unusedVariables false
set_option linter.unusedSimpArgs false
theorem tokR_kind {c : UInt8} {l : List UInt8} (h : (tokR (c :: l)).2.2.2 = true) : (tokR (c :: l)).1 ≠ 0 := by
  cases ha : alnB c with
  | true =>
    rw [tokR_aln ha]
    show (wordR _).1 ≠ 0
    unfold wordR
    split
    · exact Nat.succ_ne_zero _
    · split
      · exact Nat.succ_ne_zero _
      · exact Nat.succ_ne_zero _
  | false =>
    by_cases hc : c = 35
    · subst hc; rw [tokR_real]; exact Nat.succ_ne_zero _
    · rw [tokR_sign ha hc]; exact Nat.succ_ne_zero _
/-- Letters lead further. -/
theorem adv_gt : ∀ (l : List UInt8) (p : Nat × Nat), l ≠ [] → p.1 < (adv l p).1 ∨ (p.1 = (adv l p).1 ∧ p.2 < (adv l p).2)
  | [], p, h => absurd rfl h
  | c :: l, p, _ => by
    rw [adv]
    by_cases hl : l = []
    · subst hl
      show p.1 < (if c = 10 then (p.1 + 1, 1) else (p.1, p.2 + 1)).1 ∨ _
      split
      · left; exact Nat.lt_succ_self _
      · right; exact ⟨rfl, Nat.lt_succ_self _⟩
    · split
      · have := adv_gt l (p.1 + 1, 1) hl
        simp only at this
        omega
      · have := adv_gt l (p.1, p.2 + 1) hl
        simp only at this
        omega
theorem adv_ne {l : List UInt8} {p : Nat × Nat} (h : l ≠ []) : adv l p ≠ p := by
  intro e
  have := adv_gt l p h
  rw [e] at this
  omega
theorem lexL_head : ∀ (k : Nat) (rest : List UInt8) (p : Nat × Nat), rest.length = k → ∀ u us, lexL rest p = .ok (u :: us) → ∃ e, e ≤ rest.length ∧ u.p = adv (rest.take e) p := by
  intro k
  induction k using Nat.strongRecOn with
  | ind k ih =>
    intro rest p hk u us h
    cases rest with
    | nil =>
      rw [lexL_nil] at h
      obtain ⟨rfl, _⟩ := List.cons.inj (LR.ok.inj h)
      exact ⟨0, Nat.le_refl _, rfl⟩
    | cons c l =>
      by_cases hb : blk1 (c :: l) = 0
      · cases ht : (tokR (c :: l)).2.2.2 with
        | false => rw [lexL_err hb ht] at h; cases h
        | true =>
          rw [lexL_tok hb ht] at h
          cases hr : lexL ((c :: l).drop (tokR (c :: l)).2.1) (adv ((c :: l).take (tokR (c :: l)).2.1) p) with
          | err q => rw [hr] at h; cases h
          | ok ts' =>
            rw [hr] at h
            obtain ⟨rfl, _⟩ := List.cons.inj (LR.ok.inj h)
            exact ⟨0, Nat.zero_le _, rfl⟩
      · rw [lexL_blank hb] at h
        have hle := blk1_le (c :: l)
        have hdl : ((c :: l).drop (blk1 (c :: l))).length = (c :: l).length - blk1 (c :: l) := List.length_drop ..
        obtain ⟨e, h1, h2⟩ := ih _ (by simp only [List.length_cons] at hdl hk; omega) _ _ rfl u us h
        refine ⟨blk1 (c :: l) + e, by omega, ?_⟩
        rw [h2, ← adv_append]
        congr 1
        rw [List.take_add]
/-- What is left, some letters ahead of where tokens go on. -/
def Ahead (rest : List UInt8) (p : Nat × Nat) (us : List Tok) : Prop := ∃ d, d ≤ rest.length ∧ lexL (rest.drop d) (adv (rest.take d) p) = .ok us
theorem ahead_nil {p : Nat × Nat} {us : List Tok} (h : Ahead [] p us) : us = [⟨0, [], 0, p⟩] := by
  obtain ⟨d, hd, h⟩ := h
  obtain rfl : d = 0 := by simpa using hd
  exact (LR.ok.inj ((lexL_nil p).symm.trans h)).symm
theorem ahead_ne {rest : List UInt8} {p : Nat × Nat} {us : List Tok} (h : Ahead rest p us) : ∃ u us', us = u :: us' := by
  obtain ⟨d, hd, h⟩ := h
  obtain ⟨t0, _, rfl⟩ := lexL_shape _ _ _ rfl us h
  cases t0 with
  | nil => exact ⟨_, _, rfl⟩
  | cons a t0 => exact ⟨_, _, rfl⟩
theorem ahead_later {c : UInt8} {l : List UInt8} {p : Nat × Nat} {us : List Tok} {d : Nat} (hd : d ≤ (c :: l).length) (h0 : 0 < d) (h : lexL ((c :: l).drop d) (adv ((c :: l).take d) p) = .ok us) : Ahead l (adv [c] p) us ∧ ∀ u us', us = u :: us' → u.p ≠ p := by
  obtain ⟨n, rfl⟩ : ∃ n, d = n + 1 := ⟨d - 1, by omega⟩
  refine ⟨⟨n, by simp only [List.length_cons] at hd; omega, ?_⟩, fun u us' e => ?_⟩
  · rw [← adv_append]
    exact h
  · subst e
    obtain ⟨e, _, h2⟩ := lexL_head _ _ _ rfl u us' h
    rw [h2, ← adv_append]
    apply adv_ne
    simp
/-- One letter on: a token begins at it, or none does. -/
theorem ahead_step {c : UInt8} {l : List UInt8} {p : Nat × Nat} {u : Tok} {us : List Tok} (h : Ahead (c :: l) p (u :: us)) :
    (u.p = p ∧ u.kind ≠ 0 ∧ u.text ≠ [] ∧ u.text.length ≤ (c :: l).length ∧ (c :: l).take u.text.length = u.text ∧ Ahead l (adv [c] p) us) ∨
    ((u.p ≠ p ∨ u.kind = 0) ∧ Ahead l (adv [c] p) (u :: us)) := by
  obtain ⟨d, hd, h⟩ := h
  by_cases h0 : d = 0
  · subst h0
    rw [List.drop_zero, List.take_zero] at h
    have h : lexL (c :: l) p = .ok (u :: us) := h
    by_cases hb : blk1 (c :: l) = 0
    · cases ht : (tokR (c :: l)).2.2.2 with
      | false => rw [lexL_err hb ht] at h; cases h
      | true =>
        rw [lexL_tok hb ht] at h
        have hpos := tokR_pos ht
        have hle := tokR_le c l
        have hkd := tokR_kind ht
        cases hr : lexL ((c :: l).drop (tokR (c :: l)).2.1) (adv ((c :: l).take (tokR (c :: l)).2.1) p) with
        | err q => rw [hr] at h; cases h
        | ok ts' =>
          rw [hr] at h
          obtain ⟨rfl, rfl⟩ := List.cons.inj (LR.ok.inj h)
          have hlen : ((c :: l).take (tokR (c :: l)).2.1).length = (tokR (c :: l)).2.1 := by rw [List.length_take]; omega
          refine .inl ⟨rfl, hkd, ?_, ?_, ?_, (ahead_later hle hpos hr).1⟩
          · intro e
            have e : (c :: l).take (tokR (c :: l)).2.1 = [] := e
            rw [e] at hlen
            simp at hlen
            omega
          · show ((c :: l).take (tokR (c :: l)).2.1).length ≤ _
            omega
          · show (c :: l).take ((c :: l).take (tokR (c :: l)).2.1).length = (c :: l).take (tokR (c :: l)).2.1
            rw [hlen]
    · have hle := blk1_le (c :: l)
      rw [lexL_blank hb] at h
      have := ahead_later hle (by omega) h
      exact .inr ⟨.inl (this.2 u us rfl), this.1⟩
  · have := ahead_later hd (by omega) h
    exact .inr ⟨.inl (this.2 u us rfl), this.1⟩
end Go.Proofs.YtbbaalimilcppaaDoor.S

/- The lexer: LexBack. No condition. -/
namespace Go.Proofs.YtbbaalimilcppaaDoor.S
open Go Go.AM Go.Proofs
set_option linter.unusedVariables false
set_option linter.unusedSimpArgs false
theorem sadd {P : Program} {cst : Bool} {t : TypeId} {a b : List UInt8} (h : a.length + b.length < 4611686018427387904) : aBin P cst .add t (str a) (str b) = some (str (a ++ b)) := by
  rw [str_add _ _ _ _ _ (by rw [bs_size, bs_size]; omega), bs_append]
/-- How many letters tokens have. -/
def txl : List Tok → Nat
  | [] => 0
  | t :: r => t.text.length + txl r
theorem lexL_txl : ∀ (k : Nat) (rest : List UInt8) (p : Nat × Nat), rest.length = k → ∀ ts, lexL rest p = .ok ts → txl ts ≤ rest.length ∧ ts.length ≤ rest.length + 1 := by
  intro k
  induction k using Nat.strongRecOn with
  | ind k ih =>
    intro rest p hk ts h
    cases rest with
    | nil =>
      rw [lexL_nil] at h
      obtain rfl := LR.ok.inj h
      exact ⟨Nat.le_refl _, Nat.le_refl _⟩
    | cons c l =>
      by_cases hb : blk1 (c :: l) = 0
      · cases ht : (tokR (c :: l)).2.2.2 with
        | false => rw [lexL_err hb ht] at h; cases h
        | true =>
          rw [lexL_tok hb ht] at h
          have hpos := tokR_pos ht
          have hle := tokR_le c l
          have hdl : ((c :: l).drop (tokR (c :: l)).2.1).length = (c :: l).length - (tokR (c :: l)).2.1 := List.length_drop ..
          have htl : ((c :: l).take (tokR (c :: l)).2.1).length = (tokR (c :: l)).2.1 := by rw [List.length_take]; omega
          cases hr : lexL ((c :: l).drop (tokR (c :: l)).2.1) (adv ((c :: l).take (tokR (c :: l)).2.1) p) with
          | err q => rw [hr] at h; cases h
          | ok ts' =>
            rw [hr] at h
            obtain rfl := LR.ok.inj h
            have := ih _ (by simp only [List.length_cons] at hdl hk; omega) _ _ rfl ts' hr
            simp only [txl, tokAt, List.length_cons] at this hdl htl hle ⊢
            omega
      · rw [lexL_blank hb] at h
        have hle := blk1_le (c :: l)
        have hdl : ((c :: l).drop (blk1 (c :: l))).length = (c :: l).length - blk1 (c :: l) := List.length_drop ..
        have := ih _ (by simp only [List.length_cons] at hdl hk; omega) _ _ rfl ts h
        omega
theorem btext_len : ∀ ts : List Tok, (btext ts).length = txl ts + ts.length
  | [] => rfl
  | t :: r => by simp only [btext, txl, List.length_append, List.length_cons, btext_len r]; omega
theorem bare_len {a b : List Tok} (h : a.map Tok.bare = b.map Tok.bare) : a.length = b.length := by
  have := congrArg List.length h
  simpa using this
theorem bare_at {a b : List Tok} (h : a.map Tok.bare = b.map Tok.bare) {i : Nat} (ha : i < a.length) (hb : i < b.length) : a[i].kind = b[i].kind ∧ a[i].text = b[i].text ∧ a[i].n = b[i].n := by
  have h1 : (a.map Tok.bare)[i]? = (b.map Tok.bare)[i]? := by rw [h]
  rw [List.getElem?_map, List.getElem?_map, List.getElem?_eq_getElem ha, List.getElem?_eq_getElem hb] at h1
  simpa [Tok.bare] using h1
theorem back_loop {ts : List Tok} (hM : (btext ts).length < 1000000) (hlen : ts.length < 1000000) (f : Nat × Nat × Nat) {X : St} {N T Lb : Nat} (hN : X.stk.length = N) (hT : X.tk.length = T) (hL : X.lp.length = Lb) : ∀ (b a : List Tok), ts = a ++ b →
    itE (S5.b0 (E L) itE N Lb) [.v (.bool false), .sl (toksE ts) .dead, str (btext a), .sl (toksE ts) .dead, .v (.int .i64 (ts.length : Int)), .v (.int .i64 (a.length : Int))] (X.app [⟨fltC f, []⟩] [] []) = some (.exit 0, [.v (.bool false), .sl (toksE ts) .dead, str (btext ts), .sl (toksE ts) .dead, .v (.int .i64 (ts.length : Int)), .v (.int .i64 (ts.length : Int))], X.app [⟨fltC f, []⟩] [] []) := by
  intro b
  induction b with
  | nil =>
    intro a h
    rw [List.append_nil] at h
    subst h
    apply it_exit
    simp [S5.b0, canon_v, canon_sl, canon_clo, canon_ptr, need_refl, elems_sl, sf_v, sf_sl, sf_ptr, sf_ptrh, sf_clo, sf_dead, sf_nil, sf_full, sf_fr, need_true, ibeq, beq_ba, nbeq, nble, nblt, AM.nth, List.getD_cons_succ, List.getD_cons_zero, Option.bind_some, Option.bind_none, Option.map_some, onBool, AM.onG, onFn, seqK, retK, Ex.outOf, cond_true, cond_false, bin_lss, bin_leq, bin_gtr, bin_geq, bin_eql, bin_neq, bin_add, bin_sub, bin_mul, un_not, str_eql, str_neq, app_push, load_fp, AM.ownPut, AM.cellsOf, AM.shift, aPick, beq_true, okSz, List.length_cons, List.length_nil, Nat.zero_add, Nat.add_zero, Nat.reduceAdd, decide_true, decide_false, Bool.and_true, Bool.true_and, Bool.and_self, Bool.not_true, Bool.not_false, List.getElem?_cons_zero, List.getElem?_cons_succ, List.nil_append, List.cons_append, max_int, min_int, modify_concat, part1, List.take_succ_cons, List.take_left, List.take_zero, List.take_nil, app_stk, app_tk, app_lp, set_stk, set_tk, set_lp, set_set, n_load, n_load0, n_old, n_store, n_store0, n_store_old, n_leave, n_leave0, n_fin_v, n_fin_sl, n_fin_u, n_back, n_next, n_blk, n_blk0, n_set, n_set0, n_set_old, bs_size, bs_inj, mk_bs, noPan, onRet, hN, hT, hL, List.toList_toArray, aNilCheck, AM.aExtract, canon, canonA, canonC, List.map_cons, List.map_nil, List.modify_zero_cons, List.modify_succ_cons, AM.part, List.drop_zero, List.drop_succ_cons, List.drop_nil, n_fin_tup, n_fin_agg, flatA, flatA.flatD, AM.flatC, List.all_cons, List.all_nil, isIter]
  | cons t b ih =>
    intro a h
    have hlt : a.length < ts.length := by rw [h]; simp
    have hlt' : (a.length : Int) < (ts.length : Int) := by omega
    have hx := ia23 (c := .dead) .i64 hlt
    have hat : ts[a.length] = t := by simp [h]
    rw [hat] at hx
    have w1 : IntKind.i64.wrap ((a.length : Int) + 1) = ((a.length + 1 : Nat) : Int) := by rw [IntWalk.i64_in _ (by omega)]; omega
    have hb : (btext a).length + (t.text.length + 1) ≤ (btext ts).length := by rw [h, btext_append]; simp [btext]
    have s1 : ∀ cst, aBin Tryd.prog cst .add 9 (str (btext a)) (str t.text) = some (str (btext a ++ t.text)) := fun cst => sadd (by omega)
    have s2 : ∀ cst, aBin Tryd.prog cst .add 9 (str (btext a ++ t.text)) (str [10]) = some (str (btext (a ++ [t]))) := fun cst => by
      rw [sadd (by simp only [List.length_append, List.length_singleton]; omega), btext_append]
      simp [btext]
    rw [it_step (vs' := [.v (.bool false), .sl (toksE ts) .dead, str (btext (a ++ [t])), .sl (toksE ts) .dead, .v (.int .i64 (ts.length : Int)), .v (.int .i64 ((a ++ [t]).length : Int))]) (st' := X.app [⟨fltC f, []⟩] [] [])]
    · exact ih (a ++ [t]) (by rw [h]; simp)
    · rw [List.length_append, List.length_singleton]
      generalize ((a.length + 1 : Nat) : Int) = j at w1 ⊢
      simp only [Tok.c, tokC] at hx
      simp [S5.b0, canon_v, canon_sl, canon_clo, canon_ptr, need_refl, elems_sl, sf_v, sf_sl, sf_ptr, sf_ptrh, sf_clo, sf_dead, sf_nil, sf_full, sf_fr, need_true, ibeq, beq_ba, nbeq, nble, nblt, AM.nth, List.getD_cons_succ, List.getD_cons_zero, Option.bind_some, Option.bind_none, Option.map_some, onBool, AM.onG, onFn, seqK, retK, Ex.outOf, cond_true, cond_false, bin_lss, bin_leq, bin_gtr, bin_geq, bin_eql, bin_neq, bin_add, bin_sub, bin_mul, un_not, str_eql, str_neq, app_push, load_fp, AM.ownPut, AM.cellsOf, AM.shift, aPick, beq_true, okSz, List.length_cons, List.length_nil, Nat.zero_add, Nat.add_zero, Nat.reduceAdd, decide_true, decide_false, Bool.and_true, Bool.true_and, Bool.and_self, Bool.not_true, Bool.not_false, List.getElem?_cons_zero, List.getElem?_cons_succ, List.nil_append, List.cons_append, max_int, min_int, modify_concat, part1, List.take_succ_cons, List.take_left, List.take_zero, List.take_nil, app_stk, app_tk, app_lp, set_stk, set_tk, set_lp, set_set, n_load, n_load0, n_old, n_store, n_store0, n_store_old, n_leave, n_leave0, n_fin_v, n_fin_sl, n_fin_u, n_back, n_next, n_blk, n_blk0, n_set, n_set0, n_set_old, bs_size, bs_inj, mk_bs, noPan, onRet, hN, hT, hL, List.toList_toArray, aNilCheck, AM.aExtract, canon, canonA, canonC, List.map_cons, List.map_nil, List.modify_zero_cons, List.modify_succ_cons, AM.part, List.drop_zero, List.drop_succ_cons, List.drop_nil, n_fin_tup, n_fin_agg, flatA, flatA.flatD, AM.flatC, List.all_cons, List.all_nil, hlt', hx, w1, s1, s2, laid, okCells, isIter, sf_v]
theorem back_loop2 {ts ms : List Tok} (hlen : ts.length < 1000000) (hm : ms.length = ts.length) (hs : ms.map Tok.bare = ts.map Tok.bare) (hp : ∀ i (hi : i < ms.length), i + 1 < ts.length → (ms[i]).p = (i + 1, 1)) {X : St} {N T Lb : Nat} (hN : X.stk.length = N) (hT : X.tk.length = T) (hL : X.lp.length = Lb) (Y : St) : ∀ (k i : Nat), ts.length - i = k → i ≤ ts.length →
    itE (S5.b1 (E L) itE N Lb) [.v (.bool false), .sl (toksE ts) .dead, .sl (toksE ms) .dead, .v (.int .i64 (ts.length : Int)), .v (.int .i64 (i : Int))] Y = some (.exit 2, [.v (.bool false), .sl (toksE ts) .dead, .sl (toksE ms) .dead, .v (.int .i64 (ts.length : Int)), .v (.int .i64 (ts.length : Int))], Y) := by
  intro k
  induction k with
  | zero =>
    intro i hk hi
    obtain rfl : i = ts.length := by omega
    apply it_exit
    simp [S5.b1, canon_v, canon_sl, canon_clo, canon_ptr, need_refl, elems_sl, sf_v, sf_sl, sf_ptr, sf_ptrh, sf_clo, sf_dead, sf_nil, sf_full, sf_fr, need_true, ibeq, beq_ba, nbeq, nble, nblt, AM.nth, List.getD_cons_succ, List.getD_cons_zero, Option.bind_some, Option.bind_none, Option.map_some, onBool, AM.onG, onFn, seqK, retK, Ex.outOf, cond_true, cond_false, bin_lss, bin_leq, bin_gtr, bin_geq, bin_eql, bin_neq, bin_add, bin_sub, bin_mul, un_not, str_eql, str_neq, app_push, load_fp, AM.ownPut, AM.cellsOf, AM.shift, aPick, beq_true, okSz, List.length_cons, List.length_nil, Nat.zero_add, Nat.add_zero, Nat.reduceAdd, decide_true, decide_false, Bool.and_true, Bool.true_and, Bool.and_self, Bool.not_true, Bool.not_false, List.getElem?_cons_zero, List.getElem?_cons_succ, List.nil_append, List.cons_append, max_int, min_int, modify_concat, part1, List.take_succ_cons, List.take_left, List.take_zero, List.take_nil, app_stk, app_tk, app_lp, set_stk, set_tk, set_lp, set_set, n_load, n_load0, n_old, n_store, n_store0, n_store_old, n_leave, n_leave0, n_fin_v, n_fin_sl, n_fin_u, n_back, n_next, n_blk, n_blk0, n_set, n_set0, n_set_old, bs_size, bs_inj, mk_bs, noPan, onRet, hN, hT, hL, List.toList_toArray, aNilCheck, AM.aExtract, canon, canonA, canonC, List.map_cons, List.map_nil, List.modify_zero_cons, List.modify_succ_cons, AM.part, List.drop_zero, List.drop_succ_cons, List.drop_nil, n_fin_tup, n_fin_agg, flatA, flatA.flatD, AM.flatC, List.all_cons, List.all_nil, isIter]
  | succ k ih =>
    intro i hk hi
    have hlt : i < ts.length := by omega
    have hlt2 : i < ms.length := by omega
    have hlt' : (i : Int) < (ts.length : Int) := by omega
    have hx := ia23 (c := .dead) .i64 hlt
    have hx2 := ia23 (c := .dead) .i64 hlt2
    obtain ⟨q1, q2, q3⟩ := bare_at hs hlt2 hlt
    have q4 := hp i hlt2
    have w1 : IntKind.i64.wrap ((i : Int) + 1) = ((i + 1 : Nat) : Int) := by rw [IntWalk.i64_in _ (by omega)]; omega
    have hll := toksE_len ts
    rw [it_step (vs' := [.v (.bool false), .sl (toksE ts) .dead, .sl (toksE ms) .dead, .v (.int .i64 (ts.length : Int)), .v (.int .i64 ((i + 1 : Nat) : Int))]) (st' := Y)]
    · exact ih (i + 1) (by omega) (by omega)
    · generalize ts[i] = t at *
      generalize ms[i] = m at *
      simp only [Tok.c, tokC, q1, q2, q3] at hx hx2
      by_cases hl : i + 1 < ts.length
      · have q4 := q4 hl
        have hl' : ((i + 1 : Nat) : Int) < (ts.length : Int) := by omega
        rw [q4] at hx2
        simp only at hx2
        generalize ((i + 1 : Nat) : Int) = j at *
        generalize toksE ts = es at *
        generalize toksE ms = es2 at *
        simp [S5.b1, canon_v, canon_sl, canon_clo, canon_ptr, need_refl, elems_sl, sf_v, sf_sl, sf_ptr, sf_ptrh, sf_clo, sf_dead, sf_nil, sf_full, sf_fr, need_true, ibeq, beq_ba, nbeq, nble, nblt, AM.nth, List.getD_cons_succ, List.getD_cons_zero, Option.bind_some, Option.bind_none, Option.map_some, onBool, AM.onG, onFn, seqK, retK, Ex.outOf, cond_true, cond_false, bin_lss, bin_leq, bin_gtr, bin_geq, bin_eql, bin_neq, bin_add, bin_sub, bin_mul, un_not, str_eql, str_neq, app_push, load_fp, AM.ownPut, AM.cellsOf, AM.shift, aPick, beq_true, okSz, List.length_cons, List.length_nil, Nat.zero_add, Nat.add_zero, Nat.reduceAdd, decide_true, decide_false, Bool.and_true, Bool.true_and, Bool.and_self, Bool.not_true, Bool.not_false, List.getElem?_cons_zero, List.getElem?_cons_succ, List.nil_append, List.cons_append, max_int, min_int, modify_concat, part1, List.take_succ_cons, List.take_left, List.take_zero, List.take_nil, app_stk, app_tk, app_lp, set_stk, set_tk, set_lp, set_set, n_load, n_load0, n_old, n_store, n_store0, n_store_old, n_leave, n_leave0, n_fin_v, n_fin_sl, n_fin_u, n_back, n_next, n_blk, n_blk0, n_set, n_set0, n_set_old, bs_size, bs_inj, mk_bs, noPan, onRet, hN, hT, hL, List.toList_toArray, aNilCheck, AM.aExtract, canon, canonA, canonC, List.map_cons, List.map_nil, List.modify_zero_cons, List.modify_succ_cons, AM.part, List.drop_zero, List.drop_succ_cons, List.drop_nil, n_fin_tup, n_fin_agg, flatA, flatA.flatD, AM.flatC, List.all_cons, List.all_nil, hlt', hx, hx2, w1, hl', len_23, hll, laid, okCells, isIter, sf_v]
      · have hl' : ¬ (((i + 1 : Nat) : Int) < (ts.length : Int)) := by omega
        generalize ((i + 1 : Nat) : Int) = j at *
        generalize toksE ts = es at *
        generalize toksE ms = es2 at *
        simp [S5.b1, canon_v, canon_sl, canon_clo, canon_ptr, need_refl, elems_sl, sf_v, sf_sl, sf_ptr, sf_ptrh, sf_clo, sf_dead, sf_nil, sf_full, sf_fr, need_true, ibeq, beq_ba, nbeq, nble, nblt, AM.nth, List.getD_cons_succ, List.getD_cons_zero, Option.bind_some, Option.bind_none, Option.map_some, onBool, AM.onG, onFn, seqK, retK, Ex.outOf, cond_true, cond_false, bin_lss, bin_leq, bin_gtr, bin_geq, bin_eql, bin_neq, bin_add, bin_sub, bin_mul, un_not, str_eql, str_neq, app_push, load_fp, AM.ownPut, AM.cellsOf, AM.shift, aPick, beq_true, okSz, List.length_cons, List.length_nil, Nat.zero_add, Nat.add_zero, Nat.reduceAdd, decide_true, decide_false, Bool.and_true, Bool.true_and, Bool.and_self, Bool.not_true, Bool.not_false, List.getElem?_cons_zero, List.getElem?_cons_succ, List.nil_append, List.cons_append, max_int, min_int, modify_concat, part1, List.take_succ_cons, List.take_left, List.take_zero, List.take_nil, app_stk, app_tk, app_lp, set_stk, set_tk, set_lp, set_set, n_load, n_load0, n_old, n_store, n_store0, n_store_old, n_leave, n_leave0, n_fin_v, n_fin_sl, n_fin_u, n_back, n_next, n_blk, n_blk0, n_set, n_set0, n_set_old, bs_size, bs_inj, mk_bs, noPan, onRet, hN, hT, hL, List.toList_toArray, aNilCheck, AM.aExtract, canon, canonA, canonC, List.map_cons, List.map_nil, List.modify_zero_cons, List.modify_succ_cons, AM.part, List.drop_zero, List.drop_succ_cons, List.drop_nil, n_fin_tup, n_fin_agg, flatA, flatA.flatD, AM.flatC, List.all_cons, List.all_nil, hlt', hx, hx2, w1, hl', len_23, hll, laid, okCells, isIter, sf_v]
section
attribute [local congr] bind_stop
set_option maxRecDepth 100000
set_option maxHeartbeats 1000000
theorem LexBack_ev (s : ByteArray) (st : St) : E L (.func 5) [.v (.string s)] st = some (.v (.bool true), st) := by
  obtain ⟨l, rfl⟩ : ∃ l, s = bs l := ⟨s.data.toList, (bs_toList s).symm⟩
  rw [S5_eq]
  obtain ⟨N, hN⟩ : ∃ q, st.stk.length = q := ⟨_, rfl⟩
  obtain ⟨T, hT⟩ : ∃ q, st.tk.length = q := ⟨_, rfl⟩
  obtain ⟨Lb, hL⟩ : ∃ q, st.lp.length = q := ⟨_, rfl⟩
  conv => lhs; rw [← app_nil (st)]
  by_cases hl : 8192 < l.length
  · have hl' : (8192 : Int) < (l.length : Int) := by omega
    simp [S5, canon_v, canon_sl, canon_clo, canon_ptr, need_refl, elems_sl, sf_v, sf_sl, sf_ptr, sf_ptrh, sf_clo, sf_dead, sf_nil, sf_full, sf_fr, need_true, ibeq, beq_ba, nbeq, nble, nblt, AM.nth, List.getD_cons_succ, List.getD_cons_zero, bind_step, Option.bind_none, Option.map_some, onBool, AM.onG, onFn, seqK, retK, Ex.outOf, cond_true, cond_false, bin_lss, bin_leq, bin_gtr, bin_geq, bin_eql, bin_neq, bin_add, bin_sub, bin_mul, un_not, str_eql, str_neq, app_push, load_fp, AM.ownPut, AM.cellsOf, AM.shift, aPick, beq_true, okSz, List.length_cons, List.length_nil, Nat.zero_add, Nat.add_zero, Nat.reduceAdd, decide_true, decide_false, Bool.and_true, Bool.true_and, Bool.and_self, Bool.not_true, Bool.not_false, List.getElem?_cons_zero, List.getElem?_cons_succ, List.nil_append, List.cons_append, max_int, min_int, modify_concat, part1, List.take_succ_cons, List.take_left, List.take_zero, List.take_nil, app_stk, app_tk, app_lp, set_stk, set_tk, set_lp, set_set, n_load, n_load0, n_old, n_store, n_store0, n_store_old, n_leave, n_leave0, n_fin_v, n_fin_sl, n_fin_u, n_back, n_next, n_blk, n_blk0, n_set, n_set0, n_set_old, bs_size, bs_inj, mk_bs, noPan, onRet, hN, hT, hL, List.toList_toArray, aNilCheck, AM.aExtract, canon, canonA, canonC, List.map_cons, List.map_nil, List.modify_zero_cons, List.modify_succ_cons, AM.part, List.drop_zero, List.drop_succ_cons, List.drop_nil, n_fin_tup, n_fin_agg, flatA, flatA.flatD, AM.flatC, List.all_cons, List.all_nil, -Option.bind_some, F9_ev, len_9, hl']
  have hl' : ¬ ((8192 : Int) < (l.length : Int)) := by omega
  have e10 : ∀ X, E L (.func 10) [str l] X = _ := F10_ev (by omega)
  cases hx : lexL l (1, 1) with
  | err q =>
    obtain ⟨h1, h2⟩ := lexT_err (by omega) hx
    rw [h1, h2] at e10
    simp only [fltC, toksE, List.map_nil] at e10
    simp [S5, canon_v, canon_sl, canon_clo, canon_ptr, need_refl, elems_sl, sf_v, sf_sl, sf_ptr, sf_ptrh, sf_clo, sf_dead, sf_nil, sf_full, sf_fr, need_true, ibeq, beq_ba, nbeq, nble, nblt, AM.nth, List.getD_cons_succ, List.getD_cons_zero, bind_step, Option.bind_none, Option.map_some, onBool, AM.onG, onFn, seqK, retK, Ex.outOf, cond_true, cond_false, bin_lss, bin_leq, bin_gtr, bin_geq, bin_eql, bin_neq, bin_add, bin_sub, bin_mul, un_not, str_eql, str_neq, app_push, load_fp, AM.ownPut, AM.cellsOf, AM.shift, aPick, beq_true, okSz, List.length_cons, List.length_nil, Nat.zero_add, Nat.add_zero, Nat.reduceAdd, decide_true, decide_false, Bool.and_true, Bool.true_and, Bool.and_self, Bool.not_true, Bool.not_false, List.getElem?_cons_zero, List.getElem?_cons_succ, List.nil_append, List.cons_append, max_int, min_int, modify_concat, part1, List.take_succ_cons, List.take_left, List.take_zero, List.take_nil, app_stk, app_tk, app_lp, set_stk, set_tk, set_lp, set_set, n_load, n_load0, n_old, n_store, n_store0, n_store_old, n_leave, n_leave0, n_fin_v, n_fin_sl, n_fin_u, n_back, n_next, n_blk, n_blk0, n_set, n_set0, n_set_old, bs_size, bs_inj, mk_bs, noPan, onRet, hN, hT, hL, List.toList_toArray, aNilCheck, AM.aExtract, canon, canonA, canonC, List.map_cons, List.map_nil, List.modify_zero_cons, List.modify_succ_cons, AM.part, List.drop_zero, List.drop_succ_cons, List.drop_nil, n_fin_tup, n_fin_agg, flatA, flatA.flatD, AM.flatC, List.all_cons, List.all_nil, -Option.bind_some, F9_ev, len_9, hl', e10, len_23, stne_26, rBuild, fillP, laid, okCells]
  | ok ts =>
    obtain ⟨h1, h2⟩ := lexT_ok (by omega) hx
    rw [h1, h2] at e10
    have hc := lexL_txl _ _ _ rfl ts hx
    have hbl := btext_len ts
    have hit := back_loop (ts := ts) (by omega) (by omega) (0, 0, 0) hN hT hL ts [] rfl
    have hll := toksE_len ts
    simp only [fltC, btext, List.length_nil, Int.natCast_zero] at e10 hit
    by_cases hb : 8192 < (btext ts).length
    · have hb' : (8192 : Int) < ((btext ts).length : Int) := by omega
      generalize ts.length = n at *
      generalize toksE ts = es at *
      simp [S5, canon_v, canon_sl, canon_clo, canon_ptr, need_refl, elems_sl, sf_v, sf_sl, sf_ptr, sf_ptrh, sf_clo, sf_dead, sf_nil, sf_full, sf_fr, need_true, ibeq, beq_ba, nbeq, nble, nblt, AM.nth, List.getD_cons_succ, List.getD_cons_zero, bind_step, Option.bind_none, Option.map_some, onBool, AM.onG, onFn, seqK, retK, Ex.outOf, cond_true, cond_false, bin_lss, bin_leq, bin_gtr, bin_geq, bin_eql, bin_neq, bin_add, bin_sub, bin_mul, un_not, str_eql, str_neq, app_push, load_fp, AM.ownPut, AM.cellsOf, AM.shift, aPick, beq_true, okSz, List.length_cons, List.length_nil, Nat.zero_add, Nat.add_zero, Nat.reduceAdd, decide_true, decide_false, Bool.and_true, Bool.true_and, Bool.and_self, Bool.not_true, Bool.not_false, List.getElem?_cons_zero, List.getElem?_cons_succ, List.nil_append, List.cons_append, max_int, min_int, modify_concat, part1, List.take_succ_cons, List.take_left, List.take_zero, List.take_nil, app_stk, app_tk, app_lp, set_stk, set_tk, set_lp, set_set, n_load, n_load0, n_old, n_store, n_store0, n_store_old, n_leave, n_leave0, n_fin_v, n_fin_sl, n_fin_u, n_back, n_next, n_blk, n_blk0, n_set, n_set0, n_set_old, bs_size, bs_inj, mk_bs, noPan, onRet, hN, hT, hL, List.toList_toArray, aNilCheck, AM.aExtract, canon, canonA, canonC, List.map_cons, List.map_nil, List.modify_zero_cons, List.modify_succ_cons, AM.part, List.drop_zero, List.drop_succ_cons, List.drop_nil, n_fin_tup, n_fin_agg, flatA, flatA.flatD, AM.flatC, List.all_cons, List.all_nil, -Option.bind_some, F9_ev, len_9, hl', hb', e10, hit, len_23, hll, stne_26, rBuild, fillP, laid, okCells]
    · have hb' : ¬ ((8192 : Int) < ((btext ts).length : Int)) := by omega
      obtain ⟨ms, g1, g2, g3, g4⟩ := back_law hx (by omega)
      have e10' : ∀ X, E L (.func 10) [str (btext ts)] X = _ := F10_ev (by omega)
      rw [g1, g2] at e10'
      have hml := bare_len g3
      have hll2 := toksE_len ms
      have hit2 := fun Y => back_loop2 (by omega) hml g3 g4 hN hT hL Y ts.length 0 rfl (by omega)
      simp only [fltC, Int.natCast_zero] at e10' hit2
      rw [hml] at hll2
      generalize btext ts = bt at *
      generalize ts.length = n at *
      generalize toksE ts = es at *
      generalize toksE ms = es2 at *
      simp [S5, canon_v, canon_sl, canon_clo, canon_ptr, need_refl, elems_sl, sf_v, sf_sl, sf_ptr, sf_ptrh, sf_clo, sf_dead, sf_nil, sf_full, sf_fr, need_true, ibeq, beq_ba, nbeq, nble, nblt, AM.nth, List.getD_cons_succ, List.getD_cons_zero, bind_step, Option.bind_none, Option.map_some, onBool, AM.onG, onFn, seqK, retK, Ex.outOf, cond_true, cond_false, bin_lss, bin_leq, bin_gtr, bin_geq, bin_eql, bin_neq, bin_add, bin_sub, bin_mul, un_not, str_eql, str_neq, app_push, load_fp, AM.ownPut, AM.cellsOf, AM.shift, aPick, beq_true, okSz, List.length_cons, List.length_nil, Nat.zero_add, Nat.add_zero, Nat.reduceAdd, decide_true, decide_false, Bool.and_true, Bool.true_and, Bool.and_self, Bool.not_true, Bool.not_false, List.getElem?_cons_zero, List.getElem?_cons_succ, List.nil_append, List.cons_append, max_int, min_int, modify_concat, part1, List.take_succ_cons, List.take_left, List.take_zero, List.take_nil, app_stk, app_tk, app_lp, set_stk, set_tk, set_lp, set_set, n_load, n_load0, n_old, n_store, n_store0, n_store_old, n_leave, n_leave0, n_fin_v, n_fin_sl, n_fin_u, n_back, n_next, n_blk, n_blk0, n_set, n_set0, n_set_old, bs_size, bs_inj, mk_bs, noPan, onRet, hN, hT, hL, List.toList_toArray, aNilCheck, AM.aExtract, canon, canonA, canonC, List.map_cons, List.map_nil, List.modify_zero_cons, List.modify_succ_cons, AM.part, List.drop_zero, List.drop_succ_cons, List.drop_nil, n_fin_tup, n_fin_agg, flatA, flatA.flatD, AM.flatC, List.all_cons, List.all_nil, -Option.bind_some, F9_ev, len_9, hl', hb', e10, e10', hit, hit2, len_23, hll, hll2, stne_26, rBuild, fillP, laid, okCells]
end
end Go.Proofs.YtbbaalimilcppaaDoor.S

/- The lexer: LexPlaces. No condition. -/
namespace Go.Proofs.YtbbaalimilcppaaDoor.S
open Go Go.AM Go.Proofs
set_option linter.unusedVariables false
set_option linter.unusedSimpArgs false
section
attribute [local congr] bind_stop
set_option maxRecDepth 100000
set_option maxHeartbeats 1000000
theorem places_loop {l : List UInt8} {ts : List Tok} (hl : l.length < 1000000) (hts : ts.length < 1000000) {X : St} {N T Lb : Nat} (hN : X.stk.length = N) (hT : X.tk.length = T) (hL : X.lp.length = Lb) (Y : St) : ∀ (rest dn : List UInt8) (p : Nat × Nat) (us0 us : List Tok), l = dn ++ rest → ts = us0 ++ us → Ahead rest p us → p.1 + rest.length < 2000000 → p.2 + rest.length < 2000000 →
    ∃ q t0, ts = t0 ++ [⟨0, [], 0, q⟩] ∧ itE (S6.b0 (E L) itE N Lb) [str l, .v (.bool false), .sl (toksE ts) .dead, .v (.int .i64 (p.1 : Int)), .v (.int .i64 (p.2 : Int)), .v (.int .i64 (us0.length : Int)), .v (.int .i64 (dn.length : Int))] Y =
      some (.exit 0, [str l, .v (.bool false), .sl (toksE ts) .dead, .v (.int .i64 (q.1 : Int)), .v (.int .i64 (q.2 : Int)), .v (.int .i64 (t0.length : Int)), .v (.int .i64 (l.length : Int))], Y) := by
  intro rest
  induction rest with
  | nil =>
    intro dn p us0 us h1 h2 ha hp1 hp2
    rw [List.append_nil] at h1
    subst h1
    obtain rfl := ahead_nil ha
    refine ⟨p, us0, h2, ?_⟩
    apply it_exit
    simp [S6.b0, canon_v, canon_sl, canon_clo, canon_ptr, need_refl, elems_sl, sf_v, sf_sl, sf_ptr, sf_ptrh, sf_clo, sf_dead, sf_nil, sf_full, sf_fr, need_true, ibeq, beq_ba, nbeq, nble, nblt, AM.nth, List.getD_cons_succ, List.getD_cons_zero, bind_step, Option.bind_none, Option.map_some, onBool, AM.onG, onFn, seqK, retK, Ex.outOf, cond_true, cond_false, bin_lss, bin_leq, bin_gtr, bin_geq, bin_eql, bin_neq, bin_add, bin_sub, bin_mul, un_not, str_eql, str_neq, app_push, load_fp, AM.ownPut, AM.cellsOf, AM.shift, aPick, beq_true, okSz, List.length_cons, List.length_nil, Nat.zero_add, Nat.add_zero, Nat.reduceAdd, decide_true, decide_false, Bool.and_true, Bool.true_and, Bool.and_self, Bool.not_true, Bool.not_false, List.getElem?_cons_zero, List.getElem?_cons_succ, List.nil_append, List.cons_append, max_int, min_int, modify_concat, part1, List.take_succ_cons, List.take_left, List.take_zero, List.take_nil, app_stk, app_tk, app_lp, set_stk, set_tk, set_lp, set_set, n_load, n_load0, n_old, n_store, n_store0, n_store_old, n_leave, n_leave0, n_fin_v, n_fin_sl, n_fin_u, n_back, n_next, n_blk, n_blk0, n_set, n_set0, n_set_old, bs_size, bs_inj, mk_bs, noPan, onRet, hN, hT, hL, List.toList_toArray, aNilCheck, AM.aExtract, canon, canonA, canonC, List.map_cons, List.map_nil, List.modify_zero_cons, List.modify_succ_cons, AM.part, List.drop_zero, List.drop_succ_cons, List.drop_nil, n_fin_tup, n_fin_agg, flatA, flatA.flatD, AM.flatC, List.all_cons, List.all_nil, -Option.bind_some, isIter, len_9]
  | cons c rest ih =>
    intro dn p us0 us h1 h2 ha hp1 hp2
    obtain ⟨u, us', rfl⟩ := ahead_ne ha
    have hdl : dn.length < l.length := by rw [h1]; simp
    have hul : us0.length < ts.length := by rw [h2]; simp
    have hdl' : (dn.length : Int) < (l.length : Int) := by omega
    have hul' : (us0.length : Int) < (ts.length : Int) := by omega
    have hx := ia23 (c := .dead) .i64 hul
    have hat : ts[us0.length] = u := by simp [h2]
    rw [hat] at hx
    have hc := ix_9 .i64 hdl
    have hca : l[dn.length] = c := by simp [h1]
    rw [hca] at hc
    have hll := toksE_len ts
    have wi : IntKind.i64.wrap ((dn.length : Int) + 1) = (((dn ++ [c]).length : Nat) : Int) := by rw [IntWalk.i64_in _ (by omega), List.length_append, List.length_singleton]; omega
    have wu : IntKind.i64.wrap ((us0.length : Int) + 1) = (((us0 ++ [u]).length : Nat) : Int) := by rw [IntWalk.i64_in _ (by omega), List.length_append, List.length_singleton]; omega
    have wc : IntKind.i64.wrap ((p.2 : Int) + 1) = ((p.2 + 1 : Nat) : Int) := by rw [IntWalk.i64_in _ (by simp only [List.length_cons] at hp2; omega)]; omega
    have wl : IntKind.i64.wrap ((p.1 : Int) + 1) = ((p.1 + 1 : Nat) : Int) := by rw [IntWalk.i64_in _ (by simp only [List.length_cons] at hp1; omega)]; omega
    have e10 : ((c.toNat : Int) = 10) = (c = 10) := u8_eq c 10 (by omega)
    have ea : adv [c] p = if c = 10 then (p.1 + 1, 1) else (p.1, p.2 + 1) := rfl
    have b1 : (adv [c] p).1 + rest.length < 2000000 ∧ (adv [c] p).2 + rest.length < 2000000 := by
      simp only [List.length_cons] at hp1 hp2
      rw [ea]; split <;> constructor <;> simp only <;> omega
    have dn1 : l = (dn ++ [c]) ++ rest := by rw [h1]; simp
    rcases ahead_step ha with ⟨a1, a2, a3, a4, a5, a6⟩ | ⟨a1, a2⟩
    · obtain ⟨q, t0, r1, r2⟩ := ih (dn ++ [c]) (adv [c] p) (us0 ++ [u]) us' dn1 (by rw [h2]; simp) a6 b1.1 b1.2
      refine ⟨q, t0, r1, ?_⟩
      rw [it_step (vs' := [str l, .v (.bool false), .sl (toksE ts) .dead, .v (.int .i64 ((adv [c] p).1 : Int)), .v (.int .i64 ((adv [c] p).2 : Int)), .v (.int .i64 ((us0 ++ [u]).length : Int)), .v (.int .i64 ((dn ++ [c]).length : Int))]) (st' := Y) ?_]
      · exact r2
      · have hn0 : ¬ ((u.kind : Int) = 0) := by omega
        have hle : dn.length + u.text.length ≤ l.length := by rw [h1, List.length_append]; omega
        have wt : IntKind.i64.wrap ((dn.length : Int) + (u.text.length : Int)) = ((dn.length + u.text.length : Nat) : Int) := by rw [IntWalk.i64_in _ (by omega)]; omega
        have hs := slc_9 (l := l) (lo := dn.length) (hi := dn.length + u.text.length) .i64 .i64 (by omega) hle
        have hst : (l.take (dn.length + u.text.length)).drop dn.length = u.text := by
          rw [h1, List.take_append, List.drop_append]
          simp only [List.length_take, Nat.add_sub_cancel_left]
          rw [List.drop_eq_nil_of_le (by simp only [List.length_take]; omega), List.nil_append, a5, show dn.length - min (dn.length + u.text.length) dn.length = 0 by omega]
          rfl
        rw [hst] at hs
        have hg : ¬ ((l.length : Int) < ((dn.length + u.text.length : Nat) : Int)) := by omega
        clear ih r2 ha h1 h2 hst hle a5 a4 dn1 hca hat a6
        generalize ((dn.length + u.text.length : Nat) : Int) = j2 at *
        generalize ((us0 ++ [u]).length : Int) = j3 at *
        generalize ((dn ++ [c]).length : Int) = j4 at *
        simp only [Tok.c, tokC, a1] at hx
        rw [ea]
        by_cases hc10 : c = 10
        · subst hc10
          simp only [if_pos]
          generalize ((p.1 + 1 : Nat) : Int) = j5 at *
          generalize toksE ts = es at *
          simp [S6.b0, canon_v, canon_sl, canon_clo, canon_ptr, need_refl, elems_sl, sf_v, sf_sl, sf_ptr, sf_ptrh, sf_clo, sf_dead, sf_nil, sf_full, sf_fr, need_true, ibeq, beq_ba, nbeq, nble, nblt, AM.nth, List.getD_cons_succ, List.getD_cons_zero, bind_step, Option.bind_none, Option.map_some, onBool, AM.onG, onFn, seqK, retK, Ex.outOf, cond_true, cond_false, bin_lss, bin_leq, bin_gtr, bin_geq, bin_eql, bin_neq, bin_add, bin_sub, bin_mul, un_not, str_eql, str_neq, app_push, load_fp, AM.ownPut, AM.cellsOf, AM.shift, aPick, beq_true, okSz, List.length_cons, List.length_nil, Nat.zero_add, Nat.add_zero, Nat.reduceAdd, decide_true, decide_false, Bool.and_true, Bool.true_and, Bool.and_self, Bool.not_true, Bool.not_false, List.getElem?_cons_zero, List.getElem?_cons_succ, List.nil_append, List.cons_append, max_int, min_int, modify_concat, part1, List.take_succ_cons, List.take_left, List.take_zero, List.take_nil, app_stk, app_tk, app_lp, set_stk, set_tk, set_lp, set_set, n_load, n_load0, n_old, n_store, n_store0, n_store_old, n_leave, n_leave0, n_fin_v, n_fin_sl, n_fin_u, n_back, n_next, n_blk, n_blk0, n_set, n_set0, n_set_old, bs_size, bs_inj, mk_bs, noPan, onRet, hN, hT, hL, List.toList_toArray, aNilCheck, AM.aExtract, canon, canonA, canonC, List.map_cons, List.map_nil, List.modify_zero_cons, List.modify_succ_cons, AM.part, List.drop_zero, List.drop_succ_cons, List.drop_nil, n_fin_tup, n_fin_agg, flatA, flatA.flatD, AM.flatC, List.all_cons, List.all_nil, -Option.bind_some, hdl', hul', hx, hc, len_9, len_23, hll, wi, wu, wc, wl, wt, hs, hg, hn0, a2, a3, isIter, sf_v]
        · simp only [if_neg hc10]
          generalize ((p.2 + 1 : Nat) : Int) = j5 at *
          generalize toksE ts = es at *
          simp [S6.b0, canon_v, canon_sl, canon_clo, canon_ptr, need_refl, elems_sl, sf_v, sf_sl, sf_ptr, sf_ptrh, sf_clo, sf_dead, sf_nil, sf_full, sf_fr, need_true, ibeq, beq_ba, nbeq, nble, nblt, AM.nth, List.getD_cons_succ, List.getD_cons_zero, bind_step, Option.bind_none, Option.map_some, onBool, AM.onG, onFn, seqK, retK, Ex.outOf, cond_true, cond_false, bin_lss, bin_leq, bin_gtr, bin_geq, bin_eql, bin_neq, bin_add, bin_sub, bin_mul, un_not, str_eql, str_neq, app_push, load_fp, AM.ownPut, AM.cellsOf, AM.shift, aPick, beq_true, okSz, List.length_cons, List.length_nil, Nat.zero_add, Nat.add_zero, Nat.reduceAdd, decide_true, decide_false, Bool.and_true, Bool.true_and, Bool.and_self, Bool.not_true, Bool.not_false, List.getElem?_cons_zero, List.getElem?_cons_succ, List.nil_append, List.cons_append, max_int, min_int, modify_concat, part1, List.take_succ_cons, List.take_left, List.take_zero, List.take_nil, app_stk, app_tk, app_lp, set_stk, set_tk, set_lp, set_set, n_load, n_load0, n_old, n_store, n_store0, n_store_old, n_leave, n_leave0, n_fin_v, n_fin_sl, n_fin_u, n_back, n_next, n_blk, n_blk0, n_set, n_set0, n_set_old, bs_size, bs_inj, mk_bs, noPan, onRet, hN, hT, hL, List.toList_toArray, aNilCheck, AM.aExtract, canon, canonA, canonC, List.map_cons, List.map_nil, List.modify_zero_cons, List.modify_succ_cons, AM.part, List.drop_zero, List.drop_succ_cons, List.drop_nil, n_fin_tup, n_fin_agg, flatA, flatA.flatD, AM.flatC, List.all_cons, List.all_nil, -Option.bind_some, hdl', hul', hx, hc, len_9, len_23, hll, wi, wu, wc, wl, wt, hs, hg, hn0, a2, a3, isIter, sf_v, e10, hc10]
    · obtain ⟨q, t0, r1, r2⟩ := ih (dn ++ [c]) (adv [c] p) us0 (u :: us') dn1 h2 a2 b1.1 b1.2
      refine ⟨q, t0, r1, ?_⟩
      rw [it_step (vs' := [str l, .v (.bool false), .sl (toksE ts) .dead, .v (.int .i64 ((adv [c] p).1 : Int)), .v (.int .i64 ((adv [c] p).2 : Int)), .v (.int .i64 (us0.length : Int)), .v (.int .i64 ((dn ++ [c]).length : Int))]) (st' := Y) ?_]
      · exact r2
      · clear ih r2 ha h1 h2 dn1 hca hat a2
        generalize ((dn ++ [c]).length : Int) = j4 at *
        simp only [Tok.c, tokC] at hx
        have a1 : ¬ ((u.p.1 : Int) = (p.1 : Int)) ∨ ((u.p.1 : Int) = (p.1 : Int) ∧ ¬ ((u.p.2 : Int) = (p.2 : Int))) ∨ ((u.p.1 : Int) = (p.1 : Int) ∧ ((u.p.2 : Int) = (p.2 : Int)) ∧ ((u.kind : Int) = 0)) := by
          by_cases g1 : u.p.1 = p.1
          · by_cases g2 : u.p.2 = p.2
            · have g3 : u.kind = 0 := by
                rcases a1 with a1 | a1
                · exact absurd (Prod.ext g1 g2) a1
                · exact a1
              omega
            · omega
          · omega
        rw [ea]
        by_cases hc10 : c = 10
        · subst hc10
          simp only [if_pos]
          generalize ((p.1 + 1 : Nat) : Int) = j5 at *
          generalize toksE ts = es at *
          rcases a1 with a1 | ⟨a1, a2⟩ | ⟨a1, a2, a3⟩
          · simp [S6.b0, canon_v, canon_sl, canon_clo, canon_ptr, need_refl, elems_sl, sf_v, sf_sl, sf_ptr, sf_ptrh, sf_clo, sf_dead, sf_nil, sf_full, sf_fr, need_true, ibeq, beq_ba, nbeq, nble, nblt, AM.nth, List.getD_cons_succ, List.getD_cons_zero, bind_step, Option.bind_none, Option.map_some, onBool, AM.onG, onFn, seqK, retK, Ex.outOf, cond_true, cond_false, bin_lss, bin_leq, bin_gtr, bin_geq, bin_eql, bin_neq, bin_add, bin_sub, bin_mul, un_not, str_eql, str_neq, app_push, load_fp, AM.ownPut, AM.cellsOf, AM.shift, aPick, beq_true, okSz, List.length_cons, List.length_nil, Nat.zero_add, Nat.add_zero, Nat.reduceAdd, decide_true, decide_false, Bool.and_true, Bool.true_and, Bool.and_self, Bool.not_true, Bool.not_false, List.getElem?_cons_zero, List.getElem?_cons_succ, List.nil_append, List.cons_append, max_int, min_int, modify_concat, part1, List.take_succ_cons, List.take_left, List.take_zero, List.take_nil, app_stk, app_tk, app_lp, set_stk, set_tk, set_lp, set_set, n_load, n_load0, n_old, n_store, n_store0, n_store_old, n_leave, n_leave0, n_fin_v, n_fin_sl, n_fin_u, n_back, n_next, n_blk, n_blk0, n_set, n_set0, n_set_old, bs_size, bs_inj, mk_bs, noPan, onRet, hN, hT, hL, List.toList_toArray, aNilCheck, AM.aExtract, canon, canonA, canonC, List.map_cons, List.map_nil, List.modify_zero_cons, List.modify_succ_cons, AM.part, List.drop_zero, List.drop_succ_cons, List.drop_nil, n_fin_tup, n_fin_agg, flatA, flatA.flatD, AM.flatC, List.all_cons, List.all_nil, -Option.bind_some, hdl', hul', hx, hc, len_9, len_23, hll, wi, wc, wl, a1, isIter, sf_v]
          · simp [S6.b0, canon_v, canon_sl, canon_clo, canon_ptr, need_refl, elems_sl, sf_v, sf_sl, sf_ptr, sf_ptrh, sf_clo, sf_dead, sf_nil, sf_full, sf_fr, need_true, ibeq, beq_ba, nbeq, nble, nblt, AM.nth, List.getD_cons_succ, List.getD_cons_zero, bind_step, Option.bind_none, Option.map_some, onBool, AM.onG, onFn, seqK, retK, Ex.outOf, cond_true, cond_false, bin_lss, bin_leq, bin_gtr, bin_geq, bin_eql, bin_neq, bin_add, bin_sub, bin_mul, un_not, str_eql, str_neq, app_push, load_fp, AM.ownPut, AM.cellsOf, AM.shift, aPick, beq_true, okSz, List.length_cons, List.length_nil, Nat.zero_add, Nat.add_zero, Nat.reduceAdd, decide_true, decide_false, Bool.and_true, Bool.true_and, Bool.and_self, Bool.not_true, Bool.not_false, List.getElem?_cons_zero, List.getElem?_cons_succ, List.nil_append, List.cons_append, max_int, min_int, modify_concat, part1, List.take_succ_cons, List.take_left, List.take_zero, List.take_nil, app_stk, app_tk, app_lp, set_stk, set_tk, set_lp, set_set, n_load, n_load0, n_old, n_store, n_store0, n_store_old, n_leave, n_leave0, n_fin_v, n_fin_sl, n_fin_u, n_back, n_next, n_blk, n_blk0, n_set, n_set0, n_set_old, bs_size, bs_inj, mk_bs, noPan, onRet, hN, hT, hL, List.toList_toArray, aNilCheck, AM.aExtract, canon, canonA, canonC, List.map_cons, List.map_nil, List.modify_zero_cons, List.modify_succ_cons, AM.part, List.drop_zero, List.drop_succ_cons, List.drop_nil, n_fin_tup, n_fin_agg, flatA, flatA.flatD, AM.flatC, List.all_cons, List.all_nil, -Option.bind_some, hdl', hul', hx, hc, len_9, len_23, hll, wi, wc, wl, a1, a2, isIter, sf_v]
          · simp [S6.b0, canon_v, canon_sl, canon_clo, canon_ptr, need_refl, elems_sl, sf_v, sf_sl, sf_ptr, sf_ptrh, sf_clo, sf_dead, sf_nil, sf_full, sf_fr, need_true, ibeq, beq_ba, nbeq, nble, nblt, AM.nth, List.getD_cons_succ, List.getD_cons_zero, bind_step, Option.bind_none, Option.map_some, onBool, AM.onG, onFn, seqK, retK, Ex.outOf, cond_true, cond_false, bin_lss, bin_leq, bin_gtr, bin_geq, bin_eql, bin_neq, bin_add, bin_sub, bin_mul, un_not, str_eql, str_neq, app_push, load_fp, AM.ownPut, AM.cellsOf, AM.shift, aPick, beq_true, okSz, List.length_cons, List.length_nil, Nat.zero_add, Nat.add_zero, Nat.reduceAdd, decide_true, decide_false, Bool.and_true, Bool.true_and, Bool.and_self, Bool.not_true, Bool.not_false, List.getElem?_cons_zero, List.getElem?_cons_succ, List.nil_append, List.cons_append, max_int, min_int, modify_concat, part1, List.take_succ_cons, List.take_left, List.take_zero, List.take_nil, app_stk, app_tk, app_lp, set_stk, set_tk, set_lp, set_set, n_load, n_load0, n_old, n_store, n_store0, n_store_old, n_leave, n_leave0, n_fin_v, n_fin_sl, n_fin_u, n_back, n_next, n_blk, n_blk0, n_set, n_set0, n_set_old, bs_size, bs_inj, mk_bs, noPan, onRet, hN, hT, hL, List.toList_toArray, aNilCheck, AM.aExtract, canon, canonA, canonC, List.map_cons, List.map_nil, List.modify_zero_cons, List.modify_succ_cons, AM.part, List.drop_zero, List.drop_succ_cons, List.drop_nil, n_fin_tup, n_fin_agg, flatA, flatA.flatD, AM.flatC, List.all_cons, List.all_nil, -Option.bind_some, hdl', hul', hx, hc, len_9, len_23, hll, wi, wc, wl, a1, a2, a3, isIter, sf_v]
        · simp only [if_neg hc10]
          generalize ((p.2 + 1 : Nat) : Int) = j5 at *
          generalize toksE ts = es at *
          rcases a1 with a1 | ⟨a1, a2⟩ | ⟨a1, a2, a3⟩
          · simp [S6.b0, canon_v, canon_sl, canon_clo, canon_ptr, need_refl, elems_sl, sf_v, sf_sl, sf_ptr, sf_ptrh, sf_clo, sf_dead, sf_nil, sf_full, sf_fr, need_true, ibeq, beq_ba, nbeq, nble, nblt, AM.nth, List.getD_cons_succ, List.getD_cons_zero, bind_step, Option.bind_none, Option.map_some, onBool, AM.onG, onFn, seqK, retK, Ex.outOf, cond_true, cond_false, bin_lss, bin_leq, bin_gtr, bin_geq, bin_eql, bin_neq, bin_add, bin_sub, bin_mul, un_not, str_eql, str_neq, app_push, load_fp, AM.ownPut, AM.cellsOf, AM.shift, aPick, beq_true, okSz, List.length_cons, List.length_nil, Nat.zero_add, Nat.add_zero, Nat.reduceAdd, decide_true, decide_false, Bool.and_true, Bool.true_and, Bool.and_self, Bool.not_true, Bool.not_false, List.getElem?_cons_zero, List.getElem?_cons_succ, List.nil_append, List.cons_append, max_int, min_int, modify_concat, part1, List.take_succ_cons, List.take_left, List.take_zero, List.take_nil, app_stk, app_tk, app_lp, set_stk, set_tk, set_lp, set_set, n_load, n_load0, n_old, n_store, n_store0, n_store_old, n_leave, n_leave0, n_fin_v, n_fin_sl, n_fin_u, n_back, n_next, n_blk, n_blk0, n_set, n_set0, n_set_old, bs_size, bs_inj, mk_bs, noPan, onRet, hN, hT, hL, List.toList_toArray, aNilCheck, AM.aExtract, canon, canonA, canonC, List.map_cons, List.map_nil, List.modify_zero_cons, List.modify_succ_cons, AM.part, List.drop_zero, List.drop_succ_cons, List.drop_nil, n_fin_tup, n_fin_agg, flatA, flatA.flatD, AM.flatC, List.all_cons, List.all_nil, -Option.bind_some, hdl', hul', hx, hc, len_9, len_23, hll, wi, wc, wl, a1, isIter, sf_v, e10, hc10]
          · simp [S6.b0, canon_v, canon_sl, canon_clo, canon_ptr, need_refl, elems_sl, sf_v, sf_sl, sf_ptr, sf_ptrh, sf_clo, sf_dead, sf_nil, sf_full, sf_fr, need_true, ibeq, beq_ba, nbeq, nble, nblt, AM.nth, List.getD_cons_succ, List.getD_cons_zero, bind_step, Option.bind_none, Option.map_some, onBool, AM.onG, onFn, seqK, retK, Ex.outOf, cond_true, cond_false, bin_lss, bin_leq, bin_gtr, bin_geq, bin_eql, bin_neq, bin_add, bin_sub, bin_mul, un_not, str_eql, str_neq, app_push, load_fp, AM.ownPut, AM.cellsOf, AM.shift, aPick, beq_true, okSz, List.length_cons, List.length_nil, Nat.zero_add, Nat.add_zero, Nat.reduceAdd, decide_true, decide_false, Bool.and_true, Bool.true_and, Bool.and_self, Bool.not_true, Bool.not_false, List.getElem?_cons_zero, List.getElem?_cons_succ, List.nil_append, List.cons_append, max_int, min_int, modify_concat, part1, List.take_succ_cons, List.take_left, List.take_zero, List.take_nil, app_stk, app_tk, app_lp, set_stk, set_tk, set_lp, set_set, n_load, n_load0, n_old, n_store, n_store0, n_store_old, n_leave, n_leave0, n_fin_v, n_fin_sl, n_fin_u, n_back, n_next, n_blk, n_blk0, n_set, n_set0, n_set_old, bs_size, bs_inj, mk_bs, noPan, onRet, hN, hT, hL, List.toList_toArray, aNilCheck, AM.aExtract, canon, canonA, canonC, List.map_cons, List.map_nil, List.modify_zero_cons, List.modify_succ_cons, AM.part, List.drop_zero, List.drop_succ_cons, List.drop_nil, n_fin_tup, n_fin_agg, flatA, flatA.flatD, AM.flatC, List.all_cons, List.all_nil, -Option.bind_some, hdl', hul', hx, hc, len_9, len_23, hll, wi, wc, wl, a1, a2, isIter, sf_v, e10, hc10]
          · simp [S6.b0, canon_v, canon_sl, canon_clo, canon_ptr, need_refl, elems_sl, sf_v, sf_sl, sf_ptr, sf_ptrh, sf_clo, sf_dead, sf_nil, sf_full, sf_fr, need_true, ibeq, beq_ba, nbeq, nble, nblt, AM.nth, List.getD_cons_succ, List.getD_cons_zero, bind_step, Option.bind_none, Option.map_some, onBool, AM.onG, onFn, seqK, retK, Ex.outOf, cond_true, cond_false, bin_lss, bin_leq, bin_gtr, bin_geq, bin_eql, bin_neq, bin_add, bin_sub, bin_mul, un_not, str_eql, str_neq, app_push, load_fp, AM.ownPut, AM.cellsOf, AM.shift, aPick, beq_true, okSz, List.length_cons, List.length_nil, Nat.zero_add, Nat.add_zero, Nat.reduceAdd, decide_true, decide_false, Bool.and_true, Bool.true_and, Bool.and_self, Bool.not_true, Bool.not_false, List.getElem?_cons_zero, List.getElem?_cons_succ, List.nil_append, List.cons_append, max_int, min_int, modify_concat, part1, List.take_succ_cons, List.take_left, List.take_zero, List.take_nil, app_stk, app_tk, app_lp, set_stk, set_tk, set_lp, set_set, n_load, n_load0, n_old, n_store, n_store0, n_store_old, n_leave, n_leave0, n_fin_v, n_fin_sl, n_fin_u, n_back, n_next, n_blk, n_blk0, n_set, n_set0, n_set_old, bs_size, bs_inj, mk_bs, noPan, onRet, hN, hT, hL, List.toList_toArray, aNilCheck, AM.aExtract, canon, canonA, canonC, List.map_cons, List.map_nil, List.modify_zero_cons, List.modify_succ_cons, AM.part, List.drop_zero, List.drop_succ_cons, List.drop_nil, n_fin_tup, n_fin_agg, flatA, flatA.flatD, AM.flatC, List.all_cons, List.all_nil, -Option.bind_some, hdl', hul', hx, hc, len_9, len_23, hll, wi, wc, wl, a1, a2, a3, isIter, sf_v, e10, hc10]
theorem LexPlaces_ev (s : ByteArray) (st : St) : E L (.func 6) [.v (.string s)] st = some (.v (.bool true), st) := by
  obtain ⟨l, rfl⟩ : ∃ l, s = bs l := ⟨s.data.toList, (bs_toList s).symm⟩
  rw [S6_eq]
  obtain ⟨N, hN⟩ : ∃ q, st.stk.length = q := ⟨_, rfl⟩
  obtain ⟨T, hT⟩ : ∃ q, st.tk.length = q := ⟨_, rfl⟩
  obtain ⟨Lb, hL⟩ : ∃ q, st.lp.length = q := ⟨_, rfl⟩
  conv => lhs; rw [← app_nil (st)]
  by_cases hl : 8192 < l.length
  · have hl' : (8192 : Int) < (l.length : Int) := by omega
    simp [S6, canon_v, canon_sl, canon_clo, canon_ptr, need_refl, elems_sl, sf_v, sf_sl, sf_ptr, sf_ptrh, sf_clo, sf_dead, sf_nil, sf_full, sf_fr, need_true, ibeq, beq_ba, nbeq, nble, nblt, AM.nth, List.getD_cons_succ, List.getD_cons_zero, bind_step, Option.bind_none, Option.map_some, onBool, AM.onG, onFn, seqK, retK, Ex.outOf, cond_true, cond_false, bin_lss, bin_leq, bin_gtr, bin_geq, bin_eql, bin_neq, bin_add, bin_sub, bin_mul, un_not, str_eql, str_neq, app_push, load_fp, AM.ownPut, AM.cellsOf, AM.shift, aPick, beq_true, okSz, List.length_cons, List.length_nil, Nat.zero_add, Nat.add_zero, Nat.reduceAdd, decide_true, decide_false, Bool.and_true, Bool.true_and, Bool.and_self, Bool.not_true, Bool.not_false, List.getElem?_cons_zero, List.getElem?_cons_succ, List.nil_append, List.cons_append, max_int, min_int, modify_concat, part1, List.take_succ_cons, List.take_left, List.take_zero, List.take_nil, app_stk, app_tk, app_lp, set_stk, set_tk, set_lp, set_set, n_load, n_load0, n_old, n_store, n_store0, n_store_old, n_leave, n_leave0, n_fin_v, n_fin_sl, n_fin_u, n_back, n_next, n_blk, n_blk0, n_set, n_set0, n_set_old, bs_size, bs_inj, mk_bs, noPan, onRet, hN, hT, hL, List.toList_toArray, aNilCheck, AM.aExtract, canon, canonA, canonC, List.map_cons, List.map_nil, List.modify_zero_cons, List.modify_succ_cons, AM.part, List.drop_zero, List.drop_succ_cons, List.drop_nil, n_fin_tup, n_fin_agg, flatA, flatA.flatD, AM.flatC, List.all_cons, List.all_nil, -Option.bind_some, F9_ev, len_9, hl']
  have hl' : ¬ ((8192 : Int) < (l.length : Int)) := by omega
  have e10 : ∀ X, E L (.func 10) [str l] X = _ := F10_ev (by omega)
  cases hx : lexL l (1, 1) with
  | err q =>
    obtain ⟨h1, h2⟩ := lexT_err (by omega) hx
    rw [h1, h2] at e10
    simp only [fltC, toksE, List.map_nil] at e10
    have hit : ∀ Y, itE (S6.b0 (E L) itE N Lb) [str l, .v (.bool false), .sl [] .dead, .v (.int .i64 1), .v (.int .i64 1), .v (.int .i64 0), .v (.int .i64 0)] Y = some (.exit 0, [str l, .v (.bool false), .sl [] .dead, .v (.int .i64 1), .v (.int .i64 1), .v (.int .i64 0), .v (.int .i64 0)], Y) := fun Y => by
      apply it_exit
      by_cases h1 : 0 < l.length
      · simp [S6.b0, canon_v, canon_sl, canon_clo, canon_ptr, need_refl, elems_sl, sf_v, sf_sl, sf_ptr, sf_ptrh, sf_clo, sf_dead, sf_nil, sf_full, sf_fr, need_true, ibeq, beq_ba, nbeq, nble, nblt, AM.nth, List.getD_cons_succ, List.getD_cons_zero, bind_step, Option.bind_none, Option.map_some, onBool, AM.onG, onFn, seqK, retK, Ex.outOf, cond_true, cond_false, bin_lss, bin_leq, bin_gtr, bin_geq, bin_eql, bin_neq, bin_add, bin_sub, bin_mul, un_not, str_eql, str_neq, app_push, load_fp, AM.ownPut, AM.cellsOf, AM.shift, aPick, beq_true, okSz, List.length_cons, List.length_nil, Nat.zero_add, Nat.add_zero, Nat.reduceAdd, decide_true, decide_false, Bool.and_true, Bool.true_and, Bool.and_self, Bool.not_true, Bool.not_false, List.getElem?_cons_zero, List.getElem?_cons_succ, List.nil_append, List.cons_append, max_int, min_int, modify_concat, part1, List.take_succ_cons, List.take_left, List.take_zero, List.take_nil, app_stk, app_tk, app_lp, set_stk, set_tk, set_lp, set_set, n_load, n_load0, n_old, n_store, n_store0, n_store_old, n_leave, n_leave0, n_fin_v, n_fin_sl, n_fin_u, n_back, n_next, n_blk, n_blk0, n_set, n_set0, n_set_old, bs_size, bs_inj, mk_bs, noPan, onRet, hN, hT, hL, List.toList_toArray, aNilCheck, AM.aExtract, canon, canonA, canonC, List.map_cons, List.map_nil, List.modify_zero_cons, List.modify_succ_cons, AM.part, List.drop_zero, List.drop_succ_cons, List.drop_nil, n_fin_tup, n_fin_agg, flatA, flatA.flatD, AM.flatC, List.all_cons, List.all_nil, -Option.bind_some, isIter, len_9, len_23, h1]
      · simp [S6.b0, canon_v, canon_sl, canon_clo, canon_ptr, need_refl, elems_sl, sf_v, sf_sl, sf_ptr, sf_ptrh, sf_clo, sf_dead, sf_nil, sf_full, sf_fr, need_true, ibeq, beq_ba, nbeq, nble, nblt, AM.nth, List.getD_cons_succ, List.getD_cons_zero, bind_step, Option.bind_none, Option.map_some, onBool, AM.onG, onFn, seqK, retK, Ex.outOf, cond_true, cond_false, bin_lss, bin_leq, bin_gtr, bin_geq, bin_eql, bin_neq, bin_add, bin_sub, bin_mul, un_not, str_eql, str_neq, app_push, load_fp, AM.ownPut, AM.cellsOf, AM.shift, aPick, beq_true, okSz, List.length_cons, List.length_nil, Nat.zero_add, Nat.add_zero, Nat.reduceAdd, decide_true, decide_false, Bool.and_true, Bool.true_and, Bool.and_self, Bool.not_true, Bool.not_false, List.getElem?_cons_zero, List.getElem?_cons_succ, List.nil_append, List.cons_append, max_int, min_int, modify_concat, part1, List.take_succ_cons, List.take_left, List.take_zero, List.take_nil, app_stk, app_tk, app_lp, set_stk, set_tk, set_lp, set_set, n_load, n_load0, n_old, n_store, n_store0, n_store_old, n_leave, n_leave0, n_fin_v, n_fin_sl, n_fin_u, n_back, n_next, n_blk, n_blk0, n_set, n_set0, n_set_old, bs_size, bs_inj, mk_bs, noPan, onRet, hN, hT, hL, List.toList_toArray, aNilCheck, AM.aExtract, canon, canonA, canonC, List.map_cons, List.map_nil, List.modify_zero_cons, List.modify_succ_cons, AM.part, List.drop_zero, List.drop_succ_cons, List.drop_nil, n_fin_tup, n_fin_agg, flatA, flatA.flatD, AM.flatC, List.all_cons, List.all_nil, -Option.bind_some, isIter, len_9, len_23, h1]
    simp [S6, canon_v, canon_sl, canon_clo, canon_ptr, need_refl, elems_sl, sf_v, sf_sl, sf_ptr, sf_ptrh, sf_clo, sf_dead, sf_nil, sf_full, sf_fr, need_true, ibeq, beq_ba, nbeq, nble, nblt, AM.nth, List.getD_cons_succ, List.getD_cons_zero, bind_step, Option.bind_none, Option.map_some, onBool, AM.onG, onFn, seqK, retK, Ex.outOf, cond_true, cond_false, bin_lss, bin_leq, bin_gtr, bin_geq, bin_eql, bin_neq, bin_add, bin_sub, bin_mul, un_not, str_eql, str_neq, app_push, load_fp, AM.ownPut, AM.cellsOf, AM.shift, aPick, beq_true, okSz, List.length_cons, List.length_nil, Nat.zero_add, Nat.add_zero, Nat.reduceAdd, decide_true, decide_false, Bool.and_true, Bool.true_and, Bool.and_self, Bool.not_true, Bool.not_false, List.getElem?_cons_zero, List.getElem?_cons_succ, List.nil_append, List.cons_append, max_int, min_int, modify_concat, part1, List.take_succ_cons, List.take_left, List.take_zero, List.take_nil, app_stk, app_tk, app_lp, set_stk, set_tk, set_lp, set_set, n_load, n_load0, n_old, n_store, n_store0, n_store_old, n_leave, n_leave0, n_fin_v, n_fin_sl, n_fin_u, n_back, n_next, n_blk, n_blk0, n_set, n_set0, n_set_old, bs_size, bs_inj, mk_bs, noPan, onRet, hN, hT, hL, List.toList_toArray, aNilCheck, AM.aExtract, canon, canonA, canonC, List.map_cons, List.map_nil, List.modify_zero_cons, List.modify_succ_cons, AM.part, List.drop_zero, List.drop_succ_cons, List.drop_nil, n_fin_tup, n_fin_agg, flatA, flatA.flatD, AM.flatC, List.all_cons, List.all_nil, -Option.bind_some, F9_ev, len_9, hl', e10, hit, len_23, rBuild, fillP, laid, okCells]
  | ok ts =>
    obtain ⟨h1, h2⟩ := lexT_ok (by omega) hx
    rw [h1, h2] at e10
    have hc := lexL_txl _ _ _ rfl ts hx
    obtain ⟨q, t0, r1, _⟩ := places_loop (l := l) (ts := ts) (by omega) (by omega) hN hT hL st l [] (1, 1) [] ts rfl rfl ⟨0, Nat.zero_le _, hx⟩ (by simp only; omega) (by simp only; omega)
    have hit : ∀ Y, itE (S6.b0 (E L) itE N Lb) [str l, .v (.bool false), .sl (toksE ts) .dead, .v (.int .i64 1), .v (.int .i64 1), .v (.int .i64 0), .v (.int .i64 0)] Y = some (.exit 0, [str l, .v (.bool false), .sl (toksE ts) .dead, .v (.int .i64 (q.1 : Int)), .v (.int .i64 (q.2 : Int)), .v (.int .i64 (t0.length : Int)), .v (.int .i64 (l.length : Int))], Y) := fun Y => by
      obtain ⟨q', t0', r1', r2⟩ := places_loop (l := l) (ts := ts) (by omega) (by omega) hN hT hL Y l [] (1, 1) [] ts rfl rfl ⟨0, Nat.zero_le _, hx⟩ (by simp only; omega) (by simp only; omega)
      have := List.append_inj_right' (r1.symm.trans r1') rfl
      have ht := List.append_inj_left' (r1.symm.trans r1') rfl
      subst ht
      simp only [List.cons.injEq, Tok.mk.injEq, true_and, and_true] at this
      subst this
      exact r2
    have hll := toksE_len ts
    have hlen : ts.length = t0.length + 1 := by rw [r1]; simp
    have hlt : t0.length < ts.length := by omega
    have hx := ia23 (c := .dead) .i64 hlt
    have hat : ts[t0.length] = ⟨0, [], 0, q⟩ := by simp [r1]
    rw [hat] at hx
    simp only [Tok.c, tokC, Int.natCast_zero] at hx
    have w1 : IntKind.i64.wrap ((ts.length : Int) - 1) = (t0.length : Int) := by rw [IntWalk.i64_in _ (by omega)]; omega
    have hn0 : ¬ ((ts.length : Int) = 0) := by omega
    simp only [fltC, Int.natCast_zero] at e10
    clear r1 hc hat hlen
    generalize toksE ts = es at *
    rw [← hll] at w1 hn0
    have hne : ¬ (es = []) := fun e => by rw [e] at hn0; exact hn0 rfl
    simp [S6, canon_v, canon_sl, canon_clo, canon_ptr, need_refl, elems_sl, sf_v, sf_sl, sf_ptr, sf_ptrh, sf_clo, sf_dead, sf_nil, sf_full, sf_fr, need_true, ibeq, beq_ba, nbeq, nble, nblt, AM.nth, List.getD_cons_succ, List.getD_cons_zero, bind_step, Option.bind_none, Option.map_some, onBool, AM.onG, onFn, seqK, retK, Ex.outOf, cond_true, cond_false, bin_lss, bin_leq, bin_gtr, bin_geq, bin_eql, bin_neq, bin_add, bin_sub, bin_mul, un_not, str_eql, str_neq, app_push, load_fp, AM.ownPut, AM.cellsOf, AM.shift, aPick, beq_true, okSz, List.length_cons, List.length_nil, Nat.zero_add, Nat.add_zero, Nat.reduceAdd, decide_true, decide_false, Bool.and_true, Bool.true_and, Bool.and_self, Bool.not_true, Bool.not_false, List.getElem?_cons_zero, List.getElem?_cons_succ, List.nil_append, List.cons_append, max_int, min_int, modify_concat, part1, List.take_succ_cons, List.take_left, List.take_zero, List.take_nil, app_stk, app_tk, app_lp, set_stk, set_tk, set_lp, set_set, n_load, n_load0, n_old, n_store, n_store0, n_store_old, n_leave, n_leave0, n_fin_v, n_fin_sl, n_fin_u, n_back, n_next, n_blk, n_blk0, n_set, n_set0, n_set_old, bs_size, bs_inj, mk_bs, noPan, onRet, hN, hT, hL, List.toList_toArray, aNilCheck, AM.aExtract, canon, canonA, canonC, List.map_cons, List.map_nil, List.modify_zero_cons, List.modify_succ_cons, AM.part, List.drop_zero, List.drop_succ_cons, List.drop_nil, n_fin_tup, n_fin_agg, flatA, flatA.flatD, AM.flatC, List.all_cons, List.all_nil, -Option.bind_some, F9_ev, len_9, hl', e10, hit, hx, len_23, w1, hne, rBuild, fillP, laid, okCells]
end
end Go.Proofs.YtbbaalimilcppaaDoor.S

/- The lexer: LexJoins. No condition. -/
namespace Go.Proofs.YtbbaalimilcppaaDoor.S
open Go Go.AM Go.Proofs
set_option linter.unusedVariables false
set_option linter.unusedSimpArgs false
section
attribute [local congr] bind_stop
set_option maxRecDepth 100000
set_option maxHeartbeats 1000000
theorem joins_loop {t0 ts : List Tok} {q0 : Nat × Nat} (h0 : t0.length < 1000000) (h1 : ts.length < 1000000) (hq : q0.1 < 1000000) (hp : ∀ t ∈ ts, t.p.1 < 1000000) (f1 f2 f3 : Nat × Nat × Nat) {X : St} {N T Lb : Nat} (hN : X.stk.length = N) (hT : X.tk.length = T) (hL : X.lp.length = Lb) :
    ∀ (k i : Nat), (t0 ++ ts.map (down q0.1)).length - i = k → i ≤ (t0 ++ ts.map (down q0.1)).length →
    itE (S7.b0 (E L) itE N Lb) [.v (.bool false), .sl (toksE (t0 ++ [⟨0, [], 0, q0⟩])) .dead, .sl (toksE ts) .dead, .v (.int .i64 (q0.1 : Int)), .sl (toksE (t0 ++ ts.map (down q0.1))) .dead, .v (.int .i64 ((t0 ++ ts.map (down q0.1)).length : Int)), .v (.int .i64 (i : Int))] (X.app [⟨fltC f1, []⟩, ⟨fltC f2, []⟩, ⟨fltC f3, []⟩] [] []) =
      some (.exit 0, [.v (.bool false), .sl (toksE (t0 ++ [⟨0, [], 0, q0⟩])) .dead, .sl (toksE ts) .dead, .v (.int .i64 (q0.1 : Int)), .sl (toksE (t0 ++ ts.map (down q0.1))) .dead, .v (.int .i64 ((t0 ++ ts.map (down q0.1)).length : Int)), .v (.int .i64 ((t0 ++ ts.map (down q0.1)).length : Int))], X.app [⟨fltC f1, []⟩, ⟨fltC f2, []⟩, ⟨fltC f3, []⟩] [] []) := by
  intro k
  have hzl : (t0 ++ ts.map (down q0.1)).length = t0.length + ts.length := by simp
  have hxl : (t0 ++ [(⟨0, [], 0, q0⟩ : Tok)]).length = t0.length + 1 := by simp
  have hzi : ∀ i (h : i < t0.length) (h' : i < (t0 ++ ts.map (down q0.1)).length), (t0 ++ ts.map (down q0.1))[i] = t0[i] := fun i h h' => List.getElem_append_left h
  have hzj : ∀ j (h : j < ts.length) (h' : t0.length + j < (t0 ++ ts.map (down q0.1)).length), (t0 ++ ts.map (down q0.1))[t0.length + j] = down q0.1 ts[j] := fun j h h' => by
    rw [List.getElem_append_right (by omega)]
    simp
  have hxi : ∀ i (h : i < t0.length) (h' : i < (t0 ++ [(⟨0, [], 0, q0⟩ : Tok)]).length), (t0 ++ [(⟨0, [], 0, q0⟩ : Tok)])[i] = t0[i] := fun i h h' => List.getElem_append_left h
  generalize t0 ++ ts.map (down q0.1) = zs at *
  generalize t0 ++ [(⟨0, [], 0, q0⟩ : Tok)] = xs at *
  induction k with
  | zero =>
    intro i hk hi
    obtain rfl : i = zs.length := by omega
    apply it_exit
    simp [S7.b0, canon_v, canon_sl, canon_clo, canon_ptr, need_refl, elems_sl, sf_v, sf_sl, sf_ptr, sf_ptrh, sf_clo, sf_dead, sf_nil, sf_full, sf_fr, need_true, ibeq, beq_ba, nbeq, nble, nblt, AM.nth, List.getD_cons_succ, List.getD_cons_zero, bind_step, Option.bind_none, Option.map_some, onBool, AM.onG, onFn, seqK, retK, Ex.outOf, cond_true, cond_false, bin_lss, bin_leq, bin_gtr, bin_geq, bin_eql, bin_neq, bin_add, bin_sub, bin_mul, un_not, str_eql, str_neq, app_push, load_fp, AM.ownPut, AM.cellsOf, AM.shift, aPick, beq_true, okSz, List.length_cons, List.length_nil, Nat.zero_add, Nat.add_zero, Nat.reduceAdd, decide_true, decide_false, Bool.and_true, Bool.true_and, Bool.and_self, Bool.not_true, Bool.not_false, List.getElem?_cons_zero, List.getElem?_cons_succ, List.nil_append, List.cons_append, max_int, min_int, modify_concat, part1, List.take_succ_cons, List.take_left, List.take_zero, List.take_nil, app_stk, app_tk, app_lp, set_stk, set_tk, set_lp, set_set, n_load, n_load0, n_old, n_store, n_store0, n_store_old, n_leave, n_leave0, n_fin_v, n_fin_sl, n_fin_u, n_back, n_next, n_blk, n_blk0, n_set, n_set0, n_set_old, bs_size, bs_inj, mk_bs, noPan, onRet, hN, hT, hL, List.toList_toArray, aNilCheck, AM.aExtract, canon, canonA, canonC, List.map_cons, List.map_nil, List.modify_zero_cons, List.modify_succ_cons, AM.part, List.drop_zero, List.drop_succ_cons, List.drop_nil, n_fin_tup, n_fin_agg, flatA, flatA.flatD, AM.flatC, List.all_cons, List.all_nil, -Option.bind_some, isIter]
  | succ k ih =>
    intro i hk hi
    have hlt : i < zs.length := by omega
    have hlt' : (i : Int) < (zs.length : Int) := by omega
    have hz := ia23 (c := .dead) .i64 hlt
    have hll := toksE_len xs
    have w1 : IntKind.i64.wrap ((i : Int) + 1) = ((i + 1 : Nat) : Int) := by rw [IntWalk.i64_in _ (by omega)]; omega
    have wx : IntKind.i64.wrap (((toksE xs).length : Int) - 1) = (t0.length : Int) := by rw [hll, IntWalk.i64_in _ (by omega)]; omega
    rw [it_step (vs' := [.v (.bool false), .sl (toksE xs) .dead, .sl (toksE ts) .dead, .v (.int .i64 (q0.1 : Int)), .sl (toksE zs) .dead, .v (.int .i64 (zs.length : Int)), .v (.int .i64 ((i + 1 : Nat) : Int))]) (st' := X.app [⟨fltC f1, []⟩, ⟨fltC f2, []⟩, ⟨fltC f3, []⟩] [] [])]
    · exact ih (i + 1) (by omega) (by omega)
    · by_cases hi0 : i < t0.length
      · have hx := ia23 (c := .dead) (ts := xs) (i := i) .i64 (by omega)
        rw [hxi i hi0] at hx
        rw [hzi i hi0] at hz
        generalize ((i + 1 : Nat) : Int) = j at w1 ⊢
        generalize t0[i] = t at *
        simp only [Tok.c, tokC] at hx hz
        clear ih hzi hzj hxi
        generalize toksE xs = e1 at *
        generalize toksE ts = e2 at *
        generalize toksE zs = e3 at *
        have hi0' : (i : Int) < (t0.length : Int) := by omega
        clear hll
        simp [S7.b0, canon_v, canon_sl, canon_clo, canon_ptr, need_refl, elems_sl, sf_v, sf_sl, sf_ptr, sf_ptrh, sf_clo, sf_dead, sf_nil, sf_full, sf_fr, need_true, ibeq, beq_ba, nbeq, nble, nblt, AM.nth, List.getD_cons_succ, List.getD_cons_zero, bind_step, Option.bind_none, Option.map_some, onBool, AM.onG, onFn, seqK, retK, Ex.outOf, cond_true, cond_false, bin_lss, bin_leq, bin_gtr, bin_geq, bin_eql, bin_neq, bin_add, bin_sub, bin_mul, un_not, str_eql, str_neq, app_push, load_fp, AM.ownPut, AM.cellsOf, AM.shift, aPick, beq_true, okSz, List.length_cons, List.length_nil, Nat.zero_add, Nat.add_zero, Nat.reduceAdd, decide_true, decide_false, Bool.and_true, Bool.true_and, Bool.and_self, Bool.not_true, Bool.not_false, List.getElem?_cons_zero, List.getElem?_cons_succ, List.nil_append, List.cons_append, max_int, min_int, modify_concat, part1, List.take_succ_cons, List.take_left, List.take_zero, List.take_nil, app_stk, app_tk, app_lp, set_stk, set_tk, set_lp, set_set, n_load, n_load0, n_old, n_store, n_store0, n_store_old, n_leave, n_leave0, n_fin_v, n_fin_sl, n_fin_u, n_back, n_next, n_blk, n_blk0, n_set, n_set0, n_set_old, bs_size, bs_inj, mk_bs, noPan, onRet, hN, hT, hL, List.toList_toArray, aNilCheck, AM.aExtract, canon, canonA, canonC, List.map_cons, List.map_nil, List.modify_zero_cons, List.modify_succ_cons, AM.part, List.drop_zero, List.drop_succ_cons, List.drop_nil, n_fin_tup, n_fin_agg, flatA, flatA.flatD, AM.flatC, List.all_cons, List.all_nil, -Option.bind_some, hlt', hx, hz, w1, wx, hi0, hi0', len_23, stne_35, rBuild, fillP, laid, okCells, isIter, sf_v]
      · obtain ⟨j0, hj0⟩ : ∃ j0, i = t0.length + j0 := ⟨i - t0.length, by omega⟩
        have hjl : j0 < ts.length := by omega
        have hy := ia23 (c := .dead) (ts := ts) (i := j0) .i64 hjl
        subst hj0
        rw [hzj j0 hjl] at hz
        have hpt := hp _ (List.getElem_mem hjl)
        have wy : IntKind.i64.wrap (((t0.length + j0 : Nat) : Int) - ((toksE xs).length : Int)) = (j0 : Int) - 1 := by rw [hll, IntWalk.i64_in _ (by omega)]; omega
        have wz : IntKind.i64.wrap (j0 : Int) = (j0 : Int) := by rw [IntWalk.i64_in _ (by omega)]
        generalize ((t0.length + j0 + 1 : Nat) : Int) = j at w1 ⊢
        generalize ts[j0] = t at *
        have wl : IntKind.i64.wrap ((t.p.1 : Int) + (q0.1 : Int)) = ((t.p.1 + q0.1 : Nat) : Int) := by rw [IntWalk.i64_in _ (by omega)]; omega
        simp only [Tok.c, tokC, down] at hy hz
        clear ih hzi hzj hxi
        have hi0' : ¬ (((t0.length + j0 : Nat) : Int) < (t0.length : Int)) := by omega
        generalize ((t.p.1 + q0.1 : Nat) : Int) = j5 at *
        generalize ((t0.length + j0 : Nat) : Int) = j6 at *
        generalize toksE xs = e1 at *
        generalize toksE ts = e2 at *
        generalize toksE zs = e3 at *
        clear hll
        simp [S7.b0, canon_v, canon_sl, canon_clo, canon_ptr, need_refl, elems_sl, sf_v, sf_sl, sf_ptr, sf_ptrh, sf_clo, sf_dead, sf_nil, sf_full, sf_fr, need_true, ibeq, beq_ba, nbeq, nble, nblt, AM.nth, List.getD_cons_succ, List.getD_cons_zero, bind_step, Option.bind_none, Option.map_some, onBool, AM.onG, onFn, seqK, retK, Ex.outOf, cond_true, cond_false, bin_lss, bin_leq, bin_gtr, bin_geq, bin_eql, bin_neq, bin_add, bin_sub, bin_mul, un_not, str_eql, str_neq, app_push, load_fp, AM.ownPut, AM.cellsOf, AM.shift, aPick, beq_true, okSz, List.length_cons, List.length_nil, Nat.zero_add, Nat.add_zero, Nat.reduceAdd, decide_true, decide_false, Bool.and_true, Bool.true_and, Bool.and_self, Bool.not_true, Bool.not_false, List.getElem?_cons_zero, List.getElem?_cons_succ, List.nil_append, List.cons_append, max_int, min_int, modify_concat, part1, List.take_succ_cons, List.take_left, List.take_zero, List.take_nil, app_stk, app_tk, app_lp, set_stk, set_tk, set_lp, set_set, n_load, n_load0, n_old, n_store, n_store0, n_store_old, n_leave, n_leave0, n_fin_v, n_fin_sl, n_fin_u, n_back, n_next, n_blk, n_blk0, n_set, n_set0, n_set_old, bs_size, bs_inj, mk_bs, noPan, onRet, hN, hT, hL, List.toList_toArray, aNilCheck, AM.aExtract, canon, canonA, canonC, List.map_cons, List.map_nil, List.modify_zero_cons, List.modify_succ_cons, AM.part, List.drop_zero, List.drop_succ_cons, List.drop_nil, n_fin_tup, n_fin_agg, flatA, flatA.flatD, AM.flatC, List.all_cons, List.all_nil, -Option.bind_some, hlt', hy, hz, w1, wx, wy, wz, wl, hi0', len_23, stne_35, rBuild, fillP, laid, okCells, isIter, sf_v]
theorem LexJoins_ev (s s2 : ByteArray) (st : St) : E L (.func 7) [.v (.string s), .v (.string s2)] st = some (.v (.bool true), st) := by
  obtain ⟨a, rfl⟩ : ∃ l, s = bs l := ⟨s.data.toList, (bs_toList s).symm⟩
  obtain ⟨b, rfl⟩ : ∃ l, s2 = bs l := ⟨s2.data.toList, (bs_toList s2).symm⟩
  rw [S7_eq]
  obtain ⟨N, hN⟩ : ∃ q, st.stk.length = q := ⟨_, rfl⟩
  obtain ⟨T, hT⟩ : ∃ q, st.tk.length = q := ⟨_, rfl⟩
  obtain ⟨Lb, hL⟩ : ∃ q, st.lp.length = q := ⟨_, rfl⟩
  conv => lhs; rw [← app_nil (st)]
  by_cases hl : 4096 < a.length
  · have hl' : (4096 : Int) < (a.length : Int) := by omega
    simp [S7, canon_v, canon_sl, canon_clo, canon_ptr, need_refl, elems_sl, sf_v, sf_sl, sf_ptr, sf_ptrh, sf_clo, sf_dead, sf_nil, sf_full, sf_fr, need_true, ibeq, beq_ba, nbeq, nble, nblt, AM.nth, List.getD_cons_succ, List.getD_cons_zero, bind_step, Option.bind_none, Option.map_some, onBool, AM.onG, onFn, seqK, retK, Ex.outOf, cond_true, cond_false, bin_lss, bin_leq, bin_gtr, bin_geq, bin_eql, bin_neq, bin_add, bin_sub, bin_mul, un_not, str_eql, str_neq, app_push, load_fp, AM.ownPut, AM.cellsOf, AM.shift, aPick, beq_true, okSz, List.length_cons, List.length_nil, Nat.zero_add, Nat.add_zero, Nat.reduceAdd, decide_true, decide_false, Bool.and_true, Bool.true_and, Bool.and_self, Bool.not_true, Bool.not_false, List.getElem?_cons_zero, List.getElem?_cons_succ, List.nil_append, List.cons_append, max_int, min_int, modify_concat, part1, List.take_succ_cons, List.take_left, List.take_zero, List.take_nil, app_stk, app_tk, app_lp, set_stk, set_tk, set_lp, set_set, n_load, n_load0, n_old, n_store, n_store0, n_store_old, n_leave, n_leave0, n_fin_v, n_fin_sl, n_fin_u, n_back, n_next, n_blk, n_blk0, n_set, n_set0, n_set_old, bs_size, bs_inj, mk_bs, noPan, onRet, hN, hT, hL, List.toList_toArray, aNilCheck, AM.aExtract, canon, canonA, canonC, List.map_cons, List.map_nil, List.modify_zero_cons, List.modify_succ_cons, AM.part, List.drop_zero, List.drop_succ_cons, List.drop_nil, n_fin_tup, n_fin_agg, flatA, flatA.flatD, AM.flatC, List.all_cons, List.all_nil, -Option.bind_some, F9_ev, len_9, hl']
  have hl' : ¬ ((4096 : Int) < (a.length : Int)) := by omega
  by_cases hb : 4096 ≤ b.length
  · have hb' : (4096 : Int) ≤ (b.length : Int) := by omega
    simp [S7, canon_v, canon_sl, canon_clo, canon_ptr, need_refl, elems_sl, sf_v, sf_sl, sf_ptr, sf_ptrh, sf_clo, sf_dead, sf_nil, sf_full, sf_fr, need_true, ibeq, beq_ba, nbeq, nble, nblt, AM.nth, List.getD_cons_succ, List.getD_cons_zero, bind_step, Option.bind_none, Option.map_some, onBool, AM.onG, onFn, seqK, retK, Ex.outOf, cond_true, cond_false, bin_lss, bin_leq, bin_gtr, bin_geq, bin_eql, bin_neq, bin_add, bin_sub, bin_mul, un_not, str_eql, str_neq, app_push, load_fp, AM.ownPut, AM.cellsOf, AM.shift, aPick, beq_true, okSz, List.length_cons, List.length_nil, Nat.zero_add, Nat.add_zero, Nat.reduceAdd, decide_true, decide_false, Bool.and_true, Bool.true_and, Bool.and_self, Bool.not_true, Bool.not_false, List.getElem?_cons_zero, List.getElem?_cons_succ, List.nil_append, List.cons_append, max_int, min_int, modify_concat, part1, List.take_succ_cons, List.take_left, List.take_zero, List.take_nil, app_stk, app_tk, app_lp, set_stk, set_tk, set_lp, set_set, n_load, n_load0, n_old, n_store, n_store0, n_store_old, n_leave, n_leave0, n_fin_v, n_fin_sl, n_fin_u, n_back, n_next, n_blk, n_blk0, n_set, n_set0, n_set_old, bs_size, bs_inj, mk_bs, noPan, onRet, hN, hT, hL, List.toList_toArray, aNilCheck, AM.aExtract, canon, canonA, canonC, List.map_cons, List.map_nil, List.modify_zero_cons, List.modify_succ_cons, AM.part, List.drop_zero, List.drop_succ_cons, List.drop_nil, n_fin_tup, n_fin_agg, flatA, flatA.flatD, AM.flatC, List.all_cons, List.all_nil, -Option.bind_some, F9_ev, len_9, hl', hb']
  have hb' : ¬ ((4096 : Int) ≤ (b.length : Int)) := by omega
  have hcl : (a ++ 10 :: b).length < 1000000 := by simp only [List.length_append, List.length_cons]; omega
  have ea : ∀ X, E L (.func 10) [str a] X = _ := F10_ev (by omega)
  have eb : ∀ X, E L (.func 10) [str b] X = _ := F10_ev (by omega)
  have ec : ∀ X, E L (.func 10) [str (a ++ 10 :: b)] X = _ := F10_ev hcl
  have s1 : ∀ cst, aBin Tryd.prog cst .add 9 (str a) (str [10]) = some (str (a ++ [10])) := fun cst => sadd (by simp only [List.length_singleton]; omega)
  have s2 : ∀ cst, aBin Tryd.prog cst .add 9 (str (a ++ [10])) (str b) = some (str (a ++ 10 :: b)) := fun cst => by
    rw [sadd (by simp only [List.length_append, List.length_singleton]; omega)]
    simp
  have hla := lexT_len a
  have hlb := lexT_len b
  rcases joins_law (a := a) (b := b) (by omega) (by omega) with ⟨q, _, h1, h2, h3, h4⟩ | ⟨t0, q0, e, h1, h2, h3, h4, h5, q, h6⟩ | ⟨t0, q0, ts, hq, h1, h2, h3, hp, h4, h5, h6⟩
  · rw [h1, h2] at ea
    rw [h3, h4] at ec
    generalize a ++ 10 :: b = c at *
    generalize lexF b = f2 at *
    generalize toksE (lexT b) = e2 at *
    generalize a ++ [10] = a1 at *
    simp only [fltC, toksE, List.map_nil] at ea eb ec
    simp [S7, canon_v, canon_sl, canon_clo, canon_ptr, need_refl, elems_sl, sf_v, sf_sl, sf_ptr, sf_ptrh, sf_clo, sf_dead, sf_nil, sf_full, sf_fr, need_true, ibeq, beq_ba, nbeq, nble, nblt, AM.nth, List.getD_cons_succ, List.getD_cons_zero, bind_step, Option.bind_none, Option.map_some, onBool, AM.onG, onFn, seqK, retK, Ex.outOf, cond_true, cond_false, bin_lss, bin_leq, bin_gtr, bin_geq, bin_eql, bin_neq, bin_add, bin_sub, bin_mul, un_not, str_eql, str_neq, app_push, load_fp, AM.ownPut, AM.cellsOf, AM.shift, aPick, beq_true, okSz, List.length_cons, List.length_nil, Nat.zero_add, Nat.add_zero, Nat.reduceAdd, decide_true, decide_false, Bool.and_true, Bool.true_and, Bool.and_self, Bool.not_true, Bool.not_false, List.getElem?_cons_zero, List.getElem?_cons_succ, List.nil_append, List.cons_append, max_int, min_int, modify_concat, part1, List.take_succ_cons, List.take_left, List.take_zero, List.take_nil, app_stk, app_tk, app_lp, set_stk, set_tk, set_lp, set_set, n_load, n_load0, n_old, n_store, n_store0, n_store_old, n_leave, n_leave0, n_fin_v, n_fin_sl, n_fin_u, n_back, n_next, n_blk, n_blk0, n_set, n_set0, n_set_old, bs_size, bs_inj, mk_bs, noPan, onRet, hN, hT, hL, List.toList_toArray, aNilCheck, AM.aExtract, canon, canonA, canonC, List.map_cons, List.map_nil, List.modify_zero_cons, List.modify_succ_cons, AM.part, List.drop_zero, List.drop_succ_cons, List.drop_nil, n_fin_tup, n_fin_agg, flatA, flatA.flatD, AM.flatC, List.all_cons, List.all_nil, -Option.bind_some, F9_ev, len_9, hl', hb', ea, eb, ec, s1, s2, len_23, stne_26, steq_26, rBuild, fillP, laid, okCells]
  · rw [h1, h2] at ea
    rw [h3, h4] at eb
    rw [h5, h6] at ec
    generalize a ++ 10 :: b = c at *
    generalize a ++ [10] = a1 at *
    generalize toksE (t0 ++ [⟨0, [], 0, q0⟩]) = e1 at *
    simp only [fltC, toksE, List.map_nil] at ea eb ec
    simp [S7, canon_v, canon_sl, canon_clo, canon_ptr, need_refl, elems_sl, sf_v, sf_sl, sf_ptr, sf_ptrh, sf_clo, sf_dead, sf_nil, sf_full, sf_fr, need_true, ibeq, beq_ba, nbeq, nble, nblt, AM.nth, List.getD_cons_succ, List.getD_cons_zero, bind_step, Option.bind_none, Option.map_some, onBool, AM.onG, onFn, seqK, retK, Ex.outOf, cond_true, cond_false, bin_lss, bin_leq, bin_gtr, bin_geq, bin_eql, bin_neq, bin_add, bin_sub, bin_mul, un_not, str_eql, str_neq, app_push, load_fp, AM.ownPut, AM.cellsOf, AM.shift, aPick, beq_true, okSz, List.length_cons, List.length_nil, Nat.zero_add, Nat.add_zero, Nat.reduceAdd, decide_true, decide_false, Bool.and_true, Bool.true_and, Bool.and_self, Bool.not_true, Bool.not_false, List.getElem?_cons_zero, List.getElem?_cons_succ, List.nil_append, List.cons_append, max_int, min_int, modify_concat, part1, List.take_succ_cons, List.take_left, List.take_zero, List.take_nil, app_stk, app_tk, app_lp, set_stk, set_tk, set_lp, set_set, n_load, n_load0, n_old, n_store, n_store0, n_store_old, n_leave, n_leave0, n_fin_v, n_fin_sl, n_fin_u, n_back, n_next, n_blk, n_blk0, n_set, n_set0, n_set_old, bs_size, bs_inj, mk_bs, noPan, onRet, hN, hT, hL, List.toList_toArray, aNilCheck, AM.aExtract, canon, canonA, canonC, List.map_cons, List.map_nil, List.modify_zero_cons, List.modify_succ_cons, AM.part, List.drop_zero, List.drop_succ_cons, List.drop_nil, n_fin_tup, n_fin_agg, flatA, flatA.flatD, AM.flatC, List.all_cons, List.all_nil, -Option.bind_some, F9_ev, len_9, hl', hb', ea, eb, ec, s1, s2, len_23, stne_26, steq_26, rBuild, fillP, laid, okCells]
  · rw [h1, h2] at ea
    rw [h3, h4] at eb
    rw [h5, h6] at ec
    have hit := joins_loop (t0 := t0) (ts := ts) (q0 := q0) (by rw [h1] at hla; simp at hla; omega) (by rw [h3] at hlb; omega) (by omega) (fun t ht => by have := hp t ht; omega) (0, 0, 0) (0, 0, 0) (0, 0, 0) hN hT hL _ 0 rfl (Nat.zero_le _)
    have hxl : (toksE (t0 ++ [(⟨0, [], 0, q0⟩ : Tok)])).length = t0.length + 1 := by rw [toksE_len]; simp
    have hzl : (toksE (t0 ++ ts.map (down q0.1))).length = t0.length + ts.length := by rw [toksE_len]; simp
    have hzl' : (t0 ++ ts.map (down q0.1)).length = t0.length + ts.length := by simp
    have hyl := toksE_len ts
    have hx := ia23 (c := .dead) (ts := t0 ++ [(⟨0, [], 0, q0⟩ : Tok)]) (i := t0.length) .i64 (by simp)
    rw [List.getElem_concat_length rfl] at hx
    rw [hzl'] at hit
    rw [h1] at hla
    rw [h3] at hlb
    simp only [List.length_append, List.length_singleton] at hla
    have w1 : IntKind.i64.wrap (((t0.length + 1 : Nat) : Int) - 1) = (t0.length : Int) := by rw [IntWalk.i64_in _ (by omega)]; omega
    have w2 : IntKind.i64.wrap ((t0.length : Int) + (ts.length : Int)) = ((t0.length + ts.length : Nat) : Int) := by rw [IntWalk.i64_in _ (by omega)]; omega
    have hn0 : ¬ ((t0.length + 1 : Nat) : Int) = 0 := by omega
    simp only [fltC, Tok.c, tokC, Int.natCast_zero] at ea eb ec hit hx
    rw [← hxl] at w1 hn0
    rw [← hzl] at w2 hit
    rw [← hyl] at w2
    generalize toksE (t0 ++ [⟨0, [], 0, q0⟩]) = e1 at *
    generalize toksE (t0 ++ ts.map (down q0.1)) = e3 at *
    generalize toksE ts = e2 at *
    have hne : ¬ (e1 = []) := fun e => by rw [e] at hxl; cases hxl
    generalize a ++ 10 :: b = c at *
    generalize a ++ [10] = a1 at *
    clear hxl hzl hyl
    simp [S7, canon_v, canon_sl, canon_clo, canon_ptr, need_refl, elems_sl, sf_v, sf_sl, sf_ptr, sf_ptrh, sf_clo, sf_dead, sf_nil, sf_full, sf_fr, need_true, ibeq, beq_ba, nbeq, nble, nblt, AM.nth, List.getD_cons_succ, List.getD_cons_zero, bind_step, Option.bind_none, Option.map_some, onBool, AM.onG, onFn, seqK, retK, Ex.outOf, cond_true, cond_false, bin_lss, bin_leq, bin_gtr, bin_geq, bin_eql, bin_neq, bin_add, bin_sub, bin_mul, un_not, str_eql, str_neq, app_push, load_fp, AM.ownPut, AM.cellsOf, AM.shift, aPick, beq_true, okSz, List.length_cons, List.length_nil, Nat.zero_add, Nat.add_zero, Nat.reduceAdd, decide_true, decide_false, Bool.and_true, Bool.true_and, Bool.and_self, Bool.not_true, Bool.not_false, List.getElem?_cons_zero, List.getElem?_cons_succ, List.nil_append, List.cons_append, max_int, min_int, modify_concat, part1, List.take_succ_cons, List.take_left, List.take_zero, List.take_nil, app_stk, app_tk, app_lp, set_stk, set_tk, set_lp, set_set, n_load, n_load0, n_old, n_store, n_store0, n_store_old, n_leave, n_leave0, n_fin_v, n_fin_sl, n_fin_u, n_back, n_next, n_blk, n_blk0, n_set, n_set0, n_set_old, bs_size, bs_inj, mk_bs, noPan, onRet, hN, hT, hL, List.toList_toArray, aNilCheck, AM.aExtract, canon, canonA, canonC, List.map_cons, List.map_nil, List.modify_zero_cons, List.modify_succ_cons, AM.part, List.drop_zero, List.drop_succ_cons, List.drop_nil, n_fin_tup, n_fin_agg, flatA, flatA.flatD, AM.flatC, List.all_cons, List.all_nil, -Option.bind_some, F9_ev, len_9, hl', hb', ea, eb, ec, s1, s2, hit, hx, w1, w2, hne, len_23, stne_26, steq_26, rBuild, fillP, laid, okCells]
end
end Go.Proofs.YtbbaalimilcppaaDoor.S

/- The lexer: LexNotes. No condition. -/
namespace Go.Proofs.YtbbaalimilcppaaDoor.S
open Go Go.AM Go.Proofs
set_option linter.unusedVariables false
set_option linter.unusedSimpArgs false
theorem rem3 (P : Program) (c : Bool) (t : TypeId) (i : Nat) : aBin P c .rem t (.v (.int .i64 (i : Int))) (.v (.int .i64 3)) = some (.v (.int .i64 ((i % 3 : Nat) : Int))) := by
  show flatRes (pureIn P (Op.intDiv .rem .i64 (i : Int) 3)) = _
  have e : ((i : Int).tmod 3) = ((i % 3 : Nat) : Int) := by rw [Int.tmod_eq_emod_of_nonneg (by omega)]; omega
  simp only [Op.intDiv, show ¬ ((3 : Int) = 0) by omega, if_false, e]
  exact flat_pure P (.int .i64 ((i % 3 : Nat) : Int)) rfl
section
attribute [local congr] bind_stop
set_option maxRecDepth 100000
set_option maxHeartbeats 1000000
/-- The loop that looks for a line feed in the note. -/
theorem nlf_loop {a : PV} {note : List UInt8} (hl : note.length < 1000000) {X : St} {N T Lb : Nat} (hN : X.stk.length = N) (hT : X.tk.length = T) (hL : X.lp.length = Lb) (Y : St) : ∀ (rest dn : List UInt8), note = dn ++ rest →
    (∃ i, itE (S8.b0 (E L) itE N Lb) [a, str note, .v (.bool false), .v (.int .i64 (dn.length : Int))] Y = some (.ret, [a, str note, .v (.bool true), .v (.int .i64 i)], Y)) ∨
    ((∀ c ∈ rest, c ≠ 10) ∧ itE (S8.b0 (E L) itE N Lb) [a, str note, .v (.bool false), .v (.int .i64 (dn.length : Int))] Y = some (.exit 0, [a, str note, .v (.bool false), .v (.int .i64 (note.length : Int))], Y)) := by
  intro rest
  induction rest with
  | nil =>
    intro dn h
    rw [List.append_nil] at h
    subst h
    refine .inr ⟨by simp, ?_⟩
    apply it_exit
    simp [S8.b0, canon_v, canon_sl, canon_clo, canon_ptr, need_refl, elems_sl, sf_v, sf_sl, sf_ptr, sf_ptrh, sf_clo, sf_dead, sf_nil, sf_full, sf_fr, need_true, ibeq, beq_ba, nbeq, nble, nblt, AM.nth, List.getD_cons_succ, List.getD_cons_zero, bind_step, Option.bind_none, Option.map_some, onBool, AM.onG, onFn, seqK, retK, Ex.outOf, cond_true, cond_false, bin_lss, bin_leq, bin_gtr, bin_geq, bin_eql, bin_neq, bin_add, bin_sub, bin_mul, un_not, str_eql, str_neq, app_push, load_fp, AM.ownPut, AM.cellsOf, AM.shift, aPick, beq_true, okSz, List.length_cons, List.length_nil, Nat.zero_add, Nat.add_zero, Nat.reduceAdd, decide_true, decide_false, Bool.and_true, Bool.true_and, Bool.and_self, Bool.not_true, Bool.not_false, List.getElem?_cons_zero, List.getElem?_cons_succ, List.nil_append, List.cons_append, max_int, min_int, modify_concat, part1, List.take_succ_cons, List.take_left, List.take_zero, List.take_nil, app_stk, app_tk, app_lp, set_stk, set_tk, set_lp, set_set, n_load, n_load0, n_old, n_store, n_store0, n_store_old, n_leave, n_leave0, n_fin_v, n_fin_sl, n_fin_u, n_back, n_next, n_blk, n_blk0, n_set, n_set0, n_set_old, bs_size, bs_inj, mk_bs, noPan, onRet, hN, hT, hL, List.toList_toArray, aNilCheck, AM.aExtract, canon, canonA, canonC, List.map_cons, List.map_nil, List.modify_zero_cons, List.modify_succ_cons, AM.part, List.drop_zero, List.drop_succ_cons, List.drop_nil, n_fin_tup, n_fin_agg, flatA, flatA.flatD, AM.flatC, List.all_cons, List.all_nil, -Option.bind_some, isIter, len_9]
  | cons c rest ih =>
    intro dn h
    have hdl : dn.length < note.length := by rw [h]; simp
    have hdl' : (dn.length : Int) < (note.length : Int) := by omega
    have hc := ix_9 .i64 hdl
    have hca : note[dn.length] = c := by simp [h]
    rw [hca] at hc
    have e10 : ((c.toNat : Int) = 10) = (c = 10) := u8_eq c 10 (by omega)
    have wi : IntKind.i64.wrap ((dn.length : Int) + 1) = (((dn ++ [c]).length : Nat) : Int) := by rw [IntWalk.i64_in _ (by omega), List.length_append, List.length_singleton]; omega
    by_cases hc10 : c = 10
    · subst hc10
      refine .inl ⟨(dn.length : Int), ?_⟩
      apply it_ret
      simp [S8.b0, canon_v, canon_sl, canon_clo, canon_ptr, need_refl, elems_sl, sf_v, sf_sl, sf_ptr, sf_ptrh, sf_clo, sf_dead, sf_nil, sf_full, sf_fr, need_true, ibeq, beq_ba, nbeq, nble, nblt, AM.nth, List.getD_cons_succ, List.getD_cons_zero, bind_step, Option.bind_none, Option.map_some, onBool, AM.onG, onFn, seqK, retK, Ex.outOf, cond_true, cond_false, bin_lss, bin_leq, bin_gtr, bin_geq, bin_eql, bin_neq, bin_add, bin_sub, bin_mul, un_not, str_eql, str_neq, app_push, load_fp, AM.ownPut, AM.cellsOf, AM.shift, aPick, beq_true, okSz, List.length_cons, List.length_nil, Nat.zero_add, Nat.add_zero, Nat.reduceAdd, decide_true, decide_false, Bool.and_true, Bool.true_and, Bool.and_self, Bool.not_true, Bool.not_false, List.getElem?_cons_zero, List.getElem?_cons_succ, List.nil_append, List.cons_append, max_int, min_int, modify_concat, part1, List.take_succ_cons, List.take_left, List.take_zero, List.take_nil, app_stk, app_tk, app_lp, set_stk, set_tk, set_lp, set_set, n_load, n_load0, n_old, n_store, n_store0, n_store_old, n_leave, n_leave0, n_fin_v, n_fin_sl, n_fin_u, n_back, n_next, n_blk, n_blk0, n_set, n_set0, n_set_old, bs_size, bs_inj, mk_bs, noPan, onRet, hN, hT, hL, List.toList_toArray, aNilCheck, AM.aExtract, canon, canonA, canonC, List.map_cons, List.map_nil, List.modify_zero_cons, List.modify_succ_cons, AM.part, List.drop_zero, List.drop_succ_cons, List.drop_nil, n_fin_tup, n_fin_agg, flatA, flatA.flatD, AM.flatC, List.all_cons, List.all_nil, -Option.bind_some, isIter, len_9, hdl', hc]
    · have hst : S8.b0 (E L) itE N Lb [a, str note, .v (.bool false), .v (.int .i64 (dn.length : Int))] Y = some (.normal, [a, str note, .v (.bool false), .v (.int .i64 ((dn ++ [c]).length : Int))], Y) := by
        generalize ((dn ++ [c]).length : Int) = j at *
        simp [S8.b0, canon_v, canon_sl, canon_clo, canon_ptr, need_refl, elems_sl, sf_v, sf_sl, sf_ptr, sf_ptrh, sf_clo, sf_dead, sf_nil, sf_full, sf_fr, need_true, ibeq, beq_ba, nbeq, nble, nblt, AM.nth, List.getD_cons_succ, List.getD_cons_zero, bind_step, Option.bind_none, Option.map_some, onBool, AM.onG, onFn, seqK, retK, Ex.outOf, cond_true, cond_false, bin_lss, bin_leq, bin_gtr, bin_geq, bin_eql, bin_neq, bin_add, bin_sub, bin_mul, un_not, str_eql, str_neq, app_push, load_fp, AM.ownPut, AM.cellsOf, AM.shift, aPick, beq_true, okSz, List.length_cons, List.length_nil, Nat.zero_add, Nat.add_zero, Nat.reduceAdd, decide_true, decide_false, Bool.and_true, Bool.true_and, Bool.and_self, Bool.not_true, Bool.not_false, List.getElem?_cons_zero, List.getElem?_cons_succ, List.nil_append, List.cons_append, max_int, min_int, modify_concat, part1, List.take_succ_cons, List.take_left, List.take_zero, List.take_nil, app_stk, app_tk, app_lp, set_stk, set_tk, set_lp, set_set, n_load, n_load0, n_old, n_store, n_store0, n_store_old, n_leave, n_leave0, n_fin_v, n_fin_sl, n_fin_u, n_back, n_next, n_blk, n_blk0, n_set, n_set0, n_set_old, bs_size, bs_inj, mk_bs, noPan, onRet, hN, hT, hL, List.toList_toArray, aNilCheck, AM.aExtract, canon, canonA, canonC, List.map_cons, List.map_nil, List.modify_zero_cons, List.modify_succ_cons, AM.part, List.drop_zero, List.drop_succ_cons, List.drop_nil, n_fin_tup, n_fin_agg, flatA, flatA.flatD, AM.flatC, List.all_cons, List.all_nil, -Option.bind_some, isIter, len_9, hdl', hc, e10, hc10, wi]
      rw [it_step hst]
      rcases ih (dn ++ [c]) (by rw [h]; simp) with ⟨i, h1⟩ | ⟨h1, h2⟩
      · exact .inl ⟨i, h1⟩
      · refine .inr ⟨?_, h2⟩
        intro x hx
        rcases List.mem_cons.1 hx with rfl | hx
        · exact hc10
        · exact h1 x hx
theorem ntext_len (note : List UInt8) : ∀ (ts : List Tok) (i : Nat), (ntext note ts i).length ≤ txl ts + ts.length * (note.length + 5)
  | [], i => Nat.zero_le _
  | t :: r, i => by
    have := ntext_len note r (i + 1)
    have hg : (gap note i).length ≤ note.length + 5 := by
      unfold gap
      split <;> simp
    simp only [ntext, txl, List.length_append, List.length_cons, Nat.add_mul, Nat.one_mul]
    omega
theorem notes_loop {ts : List Tok} {note : List UInt8} (hM : (ntext note ts 0).length < 1000000) (hlen : ts.length < 1000000) (f : Nat × Nat × Nat) {X : St} {N T Lb : Nat} (hN : X.stk.length = N) (hT : X.tk.length = T) (hL : X.lp.length = Lb) : ∀ (b a : List Tok), ts = a ++ b →
    itE (S8.b1 (E L) itE N Lb) [str note, .v (.bool false), .sl (toksE ts) .dead, str (ntext note a 0), .sl (toksE ts) .dead, .v (.int .i64 (ts.length : Int)), .v (.int .i64 (a.length : Int))] (X.app [⟨fltC f, []⟩] [] []) = some (.exit 2, [str note, .v (.bool false), .sl (toksE ts) .dead, str (ntext note ts 0), .sl (toksE ts) .dead, .v (.int .i64 (ts.length : Int)), .v (.int .i64 (ts.length : Int))], X.app [⟨fltC f, []⟩] [] []) := by
  intro b
  induction b with
  | nil =>
    intro a h
    rw [List.append_nil] at h
    subst h
    apply it_exit
    simp [S8.b1, canon_v, canon_sl, canon_clo, canon_ptr, need_refl, elems_sl, sf_v, sf_sl, sf_ptr, sf_ptrh, sf_clo, sf_dead, sf_nil, sf_full, sf_fr, need_true, ibeq, beq_ba, nbeq, nble, nblt, AM.nth, List.getD_cons_succ, List.getD_cons_zero, bind_step, Option.bind_none, Option.map_some, onBool, AM.onG, onFn, seqK, retK, Ex.outOf, cond_true, cond_false, bin_lss, bin_leq, bin_gtr, bin_geq, bin_eql, bin_neq, bin_add, bin_sub, bin_mul, un_not, str_eql, str_neq, app_push, load_fp, AM.ownPut, AM.cellsOf, AM.shift, aPick, beq_true, okSz, List.length_cons, List.length_nil, Nat.zero_add, Nat.add_zero, Nat.reduceAdd, decide_true, decide_false, Bool.and_true, Bool.true_and, Bool.and_self, Bool.not_true, Bool.not_false, List.getElem?_cons_zero, List.getElem?_cons_succ, List.nil_append, List.cons_append, max_int, min_int, modify_concat, part1, List.take_succ_cons, List.take_left, List.take_zero, List.take_nil, app_stk, app_tk, app_lp, set_stk, set_tk, set_lp, set_set, n_load, n_load0, n_old, n_store, n_store0, n_store_old, n_leave, n_leave0, n_fin_v, n_fin_sl, n_fin_u, n_back, n_next, n_blk, n_blk0, n_set, n_set0, n_set_old, bs_size, bs_inj, mk_bs, noPan, onRet, hN, hT, hL, List.toList_toArray, aNilCheck, AM.aExtract, canon, canonA, canonC, List.map_cons, List.map_nil, List.modify_zero_cons, List.modify_succ_cons, AM.part, List.drop_zero, List.drop_succ_cons, List.drop_nil, n_fin_tup, n_fin_agg, flatA, flatA.flatD, AM.flatC, List.all_cons, List.all_nil, -Option.bind_some, isIter]
  | cons t b ih =>
    intro a h
    have hlt : a.length < ts.length := by rw [h]; simp
    have hlt' : (a.length : Int) < (ts.length : Int) := by omega
    have hx := ia23 (c := .dead) .i64 hlt
    have hat : ts[a.length] = t := by simp [h]
    rw [hat] at hx
    have w1 : IntKind.i64.wrap ((a.length : Int) + 1) = ((a.length + 1 : Nat) : Int) := by rw [IntWalk.i64_in _ (by omega)]; omega
    have hr := rem3 Tryd.prog true 3 a.length
    have en : ntext note (a ++ [t]) 0 = ntext note a 0 ++ (t.text ++ gap note a.length) := by rw [ntext_append]; simp [ntext]
    have hb : (ntext note a 0).length + (t.text.length + (gap note a.length).length) ≤ (ntext note ts 0).length := by
      rw [h, ntext_append]
      simp only [Nat.zero_add, ntext, List.length_append]
      omega
    have s1 : ∀ cst, aBin Tryd.prog cst .add 9 (str (ntext note a 0)) (str t.text) = some (str (ntext note a 0 ++ t.text)) := fun cst => sadd (by omega)
    have s2 : ∀ cst, aBin Tryd.prog cst .add 9 (str (ntext note a 0 ++ t.text)) (str [32]) = some (str (ntext note a 0 ++ t.text ++ [32])) := fun cst => sadd (by simp only [List.length_append, List.length_singleton]; omega)
    rw [it_step (vs' := [str note, .v (.bool false), .sl (toksE ts) .dead, str (ntext note (a ++ [t]) 0), .sl (toksE ts) .dead, .v (.int .i64 (ts.length : Int)), .v (.int .i64 ((a ++ [t]).length : Int))]) (st' := X.app [⟨fltC f, []⟩] [] [])]
    · exact ih (a ++ [t]) (by rw [h]; simp)
    · rw [List.length_append, List.length_singleton]
      simp only [Tok.c, tokC] at hx
      by_cases h3 : a.length % 3 = 0
      · have eg : gap note a.length = 32 :: 9 :: 47 :: 47 :: (note ++ [10]) := by rw [gap, if_pos h3]
        rw [eg] at en hb
        simp only [List.length_cons, List.length_append, List.length_nil] at hb
        have s3 : ∀ cst, aBin Tryd.prog cst .add 9 (str (ntext note a 0 ++ t.text ++ [32])) (str [9, 47, 47]) = some (str (ntext note a 0 ++ t.text ++ [32] ++ [9, 47, 47])) := fun cst => sadd (by simp only [List.length_append, List.length_cons, List.length_nil]; omega)
        have s4 : ∀ cst, aBin Tryd.prog cst .add 9 (str (ntext note a 0 ++ t.text ++ [32] ++ [9, 47, 47])) (str note) = some (str (ntext note a 0 ++ t.text ++ [32] ++ [9, 47, 47] ++ note)) := fun cst => sadd (by simp only [List.length_append, List.length_cons, List.length_nil]; omega)
        have s5 : ∀ cst, aBin Tryd.prog cst .add 9 (str (ntext note a 0 ++ t.text ++ [32] ++ [9, 47, 47] ++ note)) (str [10]) = some (str (ntext note (a ++ [t]) 0)) := fun cst => by
          rw [sadd (by simp only [List.length_append, List.length_cons, List.length_nil]; omega), en]
          simp
        rw [h3] at hr
        clear ih h en hb hM hlt hat eg
        generalize ntext note (a ++ [t]) 0 = w5 at *
        generalize ntext note a 0 ++ t.text ++ [32] ++ [9, 47, 47] ++ note = w4 at *
        generalize ntext note a 0 ++ t.text ++ [32] ++ [9, 47, 47] = w3 at *
        generalize ntext note a 0 ++ t.text ++ [32] = w2 at *
        generalize ntext note a 0 ++ t.text = w1' at *
        generalize ((a.length + 1 : Nat) : Int) = j at w1 ⊢
        generalize toksE ts = es at *
        simp only [Int.natCast_zero] at hr
        simp [S8.b1, canon_v, canon_sl, canon_clo, canon_ptr, need_refl, elems_sl, sf_v, sf_sl, sf_ptr, sf_ptrh, sf_clo, sf_dead, sf_nil, sf_full, sf_fr, need_true, ibeq, beq_ba, nbeq, nble, nblt, AM.nth, List.getD_cons_succ, List.getD_cons_zero, bind_step, Option.bind_none, Option.map_some, onBool, AM.onG, onFn, seqK, retK, Ex.outOf, cond_true, cond_false, bin_lss, bin_leq, bin_gtr, bin_geq, bin_eql, bin_neq, bin_add, bin_sub, bin_mul, un_not, str_eql, str_neq, app_push, load_fp, AM.ownPut, AM.cellsOf, AM.shift, aPick, beq_true, okSz, List.length_cons, List.length_nil, Nat.zero_add, Nat.add_zero, Nat.reduceAdd, decide_true, decide_false, Bool.and_true, Bool.true_and, Bool.and_self, Bool.not_true, Bool.not_false, List.getElem?_cons_zero, List.getElem?_cons_succ, List.nil_append, List.cons_append, max_int, min_int, modify_concat, part1, List.take_succ_cons, List.take_left, List.take_zero, List.take_nil, app_stk, app_tk, app_lp, set_stk, set_tk, set_lp, set_set, n_load, n_load0, n_old, n_store, n_store0, n_store_old, n_leave, n_leave0, n_fin_v, n_fin_sl, n_fin_u, n_back, n_next, n_blk, n_blk0, n_set, n_set0, n_set_old, bs_size, bs_inj, mk_bs, noPan, onRet, hN, hT, hL, List.toList_toArray, aNilCheck, AM.aExtract, canon, canonA, canonC, List.map_cons, List.map_nil, List.modify_zero_cons, List.modify_succ_cons, AM.part, List.drop_zero, List.drop_succ_cons, List.drop_nil, n_fin_tup, n_fin_agg, flatA, flatA.flatD, AM.flatC, List.all_cons, List.all_nil, -Option.bind_some, hlt', hx, w1, s1, s2, s3, s4, s5, hr, rBuild, fillP, laid, okCells, isIter, sf_v]
      · have eg : gap note a.length = [32] := by rw [gap, if_neg h3]
        rw [eg] at en
        have e2 : ntext note a 0 ++ t.text ++ [32] = ntext note (a ++ [t]) 0 := by rw [en]; simp
        have h3' : ¬ (((a.length % 3 : Nat) : Int) = 0) := by omega
        rw [e2] at s2
        clear ih h en hb hM hlt hat eg e2
        generalize ntext note (a ++ [t]) 0 = w5 at *
        generalize ntext note a 0 ++ t.text = w1' at *
        generalize ((a.length + 1 : Nat) : Int) = j at w1 ⊢
        generalize toksE ts = es at *
        generalize ((a.length % 3 : Nat) : Int) = r3 at *
        simp [S8.b1, canon_v, canon_sl, canon_clo, canon_ptr, need_refl, elems_sl, sf_v, sf_sl, sf_ptr, sf_ptrh, sf_clo, sf_dead, sf_nil, sf_full, sf_fr, need_true, ibeq, beq_ba, nbeq, nble, nblt, AM.nth, List.getD_cons_succ, List.getD_cons_zero, bind_step, Option.bind_none, Option.map_some, onBool, AM.onG, onFn, seqK, retK, Ex.outOf, cond_true, cond_false, bin_lss, bin_leq, bin_gtr, bin_geq, bin_eql, bin_neq, bin_add, bin_sub, bin_mul, un_not, str_eql, str_neq, app_push, load_fp, AM.ownPut, AM.cellsOf, AM.shift, aPick, beq_true, okSz, List.length_cons, List.length_nil, Nat.zero_add, Nat.add_zero, Nat.reduceAdd, decide_true, decide_false, Bool.and_true, Bool.true_and, Bool.and_self, Bool.not_true, Bool.not_false, List.getElem?_cons_zero, List.getElem?_cons_succ, List.nil_append, List.cons_append, max_int, min_int, modify_concat, part1, List.take_succ_cons, List.take_left, List.take_zero, List.take_nil, app_stk, app_tk, app_lp, set_stk, set_tk, set_lp, set_set, n_load, n_load0, n_old, n_store, n_store0, n_store_old, n_leave, n_leave0, n_fin_v, n_fin_sl, n_fin_u, n_back, n_next, n_blk, n_blk0, n_set, n_set0, n_set_old, bs_size, bs_inj, mk_bs, noPan, onRet, hN, hT, hL, List.toList_toArray, aNilCheck, AM.aExtract, canon, canonA, canonC, List.map_cons, List.map_nil, List.modify_zero_cons, List.modify_succ_cons, AM.part, List.drop_zero, List.drop_succ_cons, List.drop_nil, n_fin_tup, n_fin_agg, flatA, flatA.flatD, AM.flatC, List.all_cons, List.all_nil, -Option.bind_some, hlt', hx, w1, s1, s2, hr, h3', rBuild, fillP, laid, okCells, isIter, sf_v]
theorem notes_loop2 {ts ms : List Tok} {v3 : PV} (hlen : ts.length < 1000000) (hm : ms.length = ts.length) (hs : ms.map Tok.bare = ts.map Tok.bare) {X : St} {N T Lb : Nat} (hN : X.stk.length = N) (hT : X.tk.length = T) (hL : X.lp.length = Lb) (Y : St) : ∀ (k i : Nat), ts.length - i = k → i ≤ ts.length →
    itE (S8.b2 (E L) itE N Lb) [.v (.bool false), .sl (toksE ts) .dead, .sl (toksE ms) .dead, .v (.int .i64 (ts.length : Int)), .v (.int .i64 (i : Int))] Y = some (.exit 4, [.v (.bool false), .sl (toksE ts) .dead, .sl (toksE ms) .dead, .v (.int .i64 (ts.length : Int)), .v (.int .i64 (ts.length : Int))], Y) := by
  intro k
  induction k with
  | zero =>
    intro i hk hi
    obtain rfl : i = ts.length := by omega
    apply it_exit
    simp [S8.b2, canon_v, canon_sl, canon_clo, canon_ptr, need_refl, elems_sl, sf_v, sf_sl, sf_ptr, sf_ptrh, sf_clo, sf_dead, sf_nil, sf_full, sf_fr, need_true, ibeq, beq_ba, nbeq, nble, nblt, AM.nth, List.getD_cons_succ, List.getD_cons_zero, bind_step, Option.bind_none, Option.map_some, onBool, AM.onG, onFn, seqK, retK, Ex.outOf, cond_true, cond_false, bin_lss, bin_leq, bin_gtr, bin_geq, bin_eql, bin_neq, bin_add, bin_sub, bin_mul, un_not, str_eql, str_neq, app_push, load_fp, AM.ownPut, AM.cellsOf, AM.shift, aPick, beq_true, okSz, List.length_cons, List.length_nil, Nat.zero_add, Nat.add_zero, Nat.reduceAdd, decide_true, decide_false, Bool.and_true, Bool.true_and, Bool.and_self, Bool.not_true, Bool.not_false, List.getElem?_cons_zero, List.getElem?_cons_succ, List.nil_append, List.cons_append, max_int, min_int, modify_concat, part1, List.take_succ_cons, List.take_left, List.take_zero, List.take_nil, app_stk, app_tk, app_lp, set_stk, set_tk, set_lp, set_set, n_load, n_load0, n_old, n_store, n_store0, n_store_old, n_leave, n_leave0, n_fin_v, n_fin_sl, n_fin_u, n_back, n_next, n_blk, n_blk0, n_set, n_set0, n_set_old, bs_size, bs_inj, mk_bs, noPan, onRet, hN, hT, hL, List.toList_toArray, aNilCheck, AM.aExtract, canon, canonA, canonC, List.map_cons, List.map_nil, List.modify_zero_cons, List.modify_succ_cons, AM.part, List.drop_zero, List.drop_succ_cons, List.drop_nil, n_fin_tup, n_fin_agg, flatA, flatA.flatD, AM.flatC, List.all_cons, List.all_nil, -Option.bind_some, isIter]
  | succ k ih =>
    intro i hk hi
    have hlt : i < ts.length := by omega
    have hlt2 : i < ms.length := by omega
    have hlt' : (i : Int) < (ts.length : Int) := by omega
    have hx := ia23 (c := .dead) .i64 hlt
    have hx2 := ia23 (c := .dead) .i64 hlt2
    obtain ⟨q1, q2, q3⟩ := bare_at hs hlt2 hlt
    have w1 : IntKind.i64.wrap ((i : Int) + 1) = ((i + 1 : Nat) : Int) := by rw [IntWalk.i64_in _ (by omega)]; omega
    rw [it_step (vs' := [.v (.bool false), .sl (toksE ts) .dead, .sl (toksE ms) .dead, .v (.int .i64 (ts.length : Int)), .v (.int .i64 ((i + 1 : Nat) : Int))]) (st' := Y)]
    · exact ih (i + 1) (by omega) (by omega)
    · generalize ts[i] = t at *
      generalize ms[i] = m at *
      simp only [Tok.c, tokC, q1, q2, q3] at hx hx2
      generalize ((i + 1 : Nat) : Int) = j at *
      generalize toksE ts = es at *
      generalize toksE ms = es2 at *
      simp [S8.b2, canon_v, canon_sl, canon_clo, canon_ptr, need_refl, elems_sl, sf_v, sf_sl, sf_ptr, sf_ptrh, sf_clo, sf_dead, sf_nil, sf_full, sf_fr, need_true, ibeq, beq_ba, nbeq, nble, nblt, AM.nth, List.getD_cons_succ, List.getD_cons_zero, bind_step, Option.bind_none, Option.map_some, onBool, AM.onG, onFn, seqK, retK, Ex.outOf, cond_true, cond_false, bin_lss, bin_leq, bin_gtr, bin_geq, bin_eql, bin_neq, bin_add, bin_sub, bin_mul, un_not, str_eql, str_neq, app_push, load_fp, AM.ownPut, AM.cellsOf, AM.shift, aPick, beq_true, okSz, List.length_cons, List.length_nil, Nat.zero_add, Nat.add_zero, Nat.reduceAdd, decide_true, decide_false, Bool.and_true, Bool.true_and, Bool.and_self, Bool.not_true, Bool.not_false, List.getElem?_cons_zero, List.getElem?_cons_succ, List.nil_append, List.cons_append, max_int, min_int, modify_concat, part1, List.take_succ_cons, List.take_left, List.take_zero, List.take_nil, app_stk, app_tk, app_lp, set_stk, set_tk, set_lp, set_set, n_load, n_load0, n_old, n_store, n_store0, n_store_old, n_leave, n_leave0, n_fin_v, n_fin_sl, n_fin_u, n_back, n_next, n_blk, n_blk0, n_set, n_set0, n_set_old, bs_size, bs_inj, mk_bs, noPan, onRet, hN, hT, hL, List.toList_toArray, aNilCheck, AM.aExtract, canon, canonA, canonC, List.map_cons, List.map_nil, List.modify_zero_cons, List.modify_succ_cons, AM.part, List.drop_zero, List.drop_succ_cons, List.drop_nil, n_fin_tup, n_fin_agg, flatA, flatA.flatD, AM.flatC, List.all_cons, List.all_nil, -Option.bind_some, hlt', hx, hx2, w1, laid, okCells, isIter, sf_v]
theorem LexNotes_ev (s s2 : ByteArray) (st : St) : E L (.func 8) [.v (.string s), .v (.string s2)] st = some (.v (.bool true), st) := by
  obtain ⟨l, rfl⟩ : ∃ l, s = bs l := ⟨s.data.toList, (bs_toList s).symm⟩
  obtain ⟨note, rfl⟩ : ∃ l, s2 = bs l := ⟨s2.data.toList, (bs_toList s2).symm⟩
  rw [S8_eq]
  obtain ⟨N, hN⟩ : ∃ q, st.stk.length = q := ⟨_, rfl⟩
  obtain ⟨T, hT⟩ : ∃ q, st.tk.length = q := ⟨_, rfl⟩
  obtain ⟨Lb, hL⟩ : ∃ q, st.lp.length = q := ⟨_, rfl⟩
  conv => lhs; rw [← app_nil (st)]
  by_cases hl : 4096 < l.length
  · have hl' : (4096 : Int) < (l.length : Int) := by omega
    simp [S8, canon_v, canon_sl, canon_clo, canon_ptr, need_refl, elems_sl, sf_v, sf_sl, sf_ptr, sf_ptrh, sf_clo, sf_dead, sf_nil, sf_full, sf_fr, need_true, ibeq, beq_ba, nbeq, nble, nblt, AM.nth, List.getD_cons_succ, List.getD_cons_zero, bind_step, Option.bind_none, Option.map_some, onBool, AM.onG, onFn, seqK, retK, Ex.outOf, cond_true, cond_false, bin_lss, bin_leq, bin_gtr, bin_geq, bin_eql, bin_neq, bin_add, bin_sub, bin_mul, un_not, str_eql, str_neq, app_push, load_fp, AM.ownPut, AM.cellsOf, AM.shift, aPick, beq_true, okSz, List.length_cons, List.length_nil, Nat.zero_add, Nat.add_zero, Nat.reduceAdd, decide_true, decide_false, Bool.and_true, Bool.true_and, Bool.and_self, Bool.not_true, Bool.not_false, List.getElem?_cons_zero, List.getElem?_cons_succ, List.nil_append, List.cons_append, max_int, min_int, modify_concat, part1, List.take_succ_cons, List.take_left, List.take_zero, List.take_nil, app_stk, app_tk, app_lp, set_stk, set_tk, set_lp, set_set, n_load, n_load0, n_old, n_store, n_store0, n_store_old, n_leave, n_leave0, n_fin_v, n_fin_sl, n_fin_u, n_back, n_next, n_blk, n_blk0, n_set, n_set0, n_set_old, bs_size, bs_inj, mk_bs, noPan, onRet, hN, hT, hL, List.toList_toArray, aNilCheck, AM.aExtract, canon, canonA, canonC, List.map_cons, List.map_nil, List.modify_zero_cons, List.modify_succ_cons, AM.part, List.drop_zero, List.drop_succ_cons, List.drop_nil, n_fin_tup, n_fin_agg, flatA, flatA.flatD, AM.flatC, List.all_cons, List.all_nil, -Option.bind_some, F9_ev, len_9, hl']
  have hl' : ¬ ((4096 : Int) < (l.length : Int)) := by omega
  by_cases hb : 20 < note.length
  · have hb' : (20 : Int) < (note.length : Int) := by omega
    simp [S8, canon_v, canon_sl, canon_clo, canon_ptr, need_refl, elems_sl, sf_v, sf_sl, sf_ptr, sf_ptrh, sf_clo, sf_dead, sf_nil, sf_full, sf_fr, need_true, ibeq, beq_ba, nbeq, nble, nblt, AM.nth, List.getD_cons_succ, List.getD_cons_zero, bind_step, Option.bind_none, Option.map_some, onBool, AM.onG, onFn, seqK, retK, Ex.outOf, cond_true, cond_false, bin_lss, bin_leq, bin_gtr, bin_geq, bin_eql, bin_neq, bin_add, bin_sub, bin_mul, un_not, str_eql, str_neq, app_push, load_fp, AM.ownPut, AM.cellsOf, AM.shift, aPick, beq_true, okSz, List.length_cons, List.length_nil, Nat.zero_add, Nat.add_zero, Nat.reduceAdd, decide_true, decide_false, Bool.and_true, Bool.true_and, Bool.and_self, Bool.not_true, Bool.not_false, List.getElem?_cons_zero, List.getElem?_cons_succ, List.nil_append, List.cons_append, max_int, min_int, modify_concat, part1, List.take_succ_cons, List.take_left, List.take_zero, List.take_nil, app_stk, app_tk, app_lp, set_stk, set_tk, set_lp, set_set, n_load, n_load0, n_old, n_store, n_store0, n_store_old, n_leave, n_leave0, n_fin_v, n_fin_sl, n_fin_u, n_back, n_next, n_blk, n_blk0, n_set, n_set0, n_set_old, bs_size, bs_inj, mk_bs, noPan, onRet, hN, hT, hL, List.toList_toArray, aNilCheck, AM.aExtract, canon, canonA, canonC, List.map_cons, List.map_nil, List.modify_zero_cons, List.modify_succ_cons, AM.part, List.drop_zero, List.drop_succ_cons, List.drop_nil, n_fin_tup, n_fin_agg, flatA, flatA.flatD, AM.flatC, List.all_cons, List.all_nil, -Option.bind_some, F9_ev, len_9, hl', hb']
  have hb' : ¬ ((20 : Int) < (note.length : Int)) := by omega
  have e10 : ∀ X, E L (.func 10) [str l] X = _ := F10_ev (by omega)
  rcases nlf_loop (a := str l) (note := note) (by omega) hN hT hL (st.app [] [] []) note [] rfl with ⟨i, hn⟩ | ⟨hno, hn⟩
  · simp only [List.length_nil, Int.natCast_zero] at hn
    simp [S8, canon_v, canon_sl, canon_clo, canon_ptr, need_refl, elems_sl, sf_v, sf_sl, sf_ptr, sf_ptrh, sf_clo, sf_dead, sf_nil, sf_full, sf_fr, need_true, ibeq, beq_ba, nbeq, nble, nblt, AM.nth, List.getD_cons_succ, List.getD_cons_zero, bind_step, Option.bind_none, Option.map_some, onBool, AM.onG, onFn, seqK, retK, Ex.outOf, cond_true, cond_false, bin_lss, bin_leq, bin_gtr, bin_geq, bin_eql, bin_neq, bin_add, bin_sub, bin_mul, un_not, str_eql, str_neq, app_push, load_fp, AM.ownPut, AM.cellsOf, AM.shift, aPick, beq_true, okSz, List.length_cons, List.length_nil, Nat.zero_add, Nat.add_zero, Nat.reduceAdd, decide_true, decide_false, Bool.and_true, Bool.true_and, Bool.and_self, Bool.not_true, Bool.not_false, List.getElem?_cons_zero, List.getElem?_cons_succ, List.nil_append, List.cons_append, max_int, min_int, modify_concat, part1, List.take_succ_cons, List.take_left, List.take_zero, List.take_nil, app_stk, app_tk, app_lp, set_stk, set_tk, set_lp, set_set, n_load, n_load0, n_old, n_store, n_store0, n_store_old, n_leave, n_leave0, n_fin_v, n_fin_sl, n_fin_u, n_back, n_next, n_blk, n_blk0, n_set, n_set0, n_set_old, bs_size, bs_inj, mk_bs, noPan, onRet, hN, hT, hL, List.toList_toArray, aNilCheck, AM.aExtract, canon, canonA, canonC, List.map_cons, List.map_nil, List.modify_zero_cons, List.modify_succ_cons, AM.part, List.drop_zero, List.drop_succ_cons, List.drop_nil, n_fin_tup, n_fin_agg, flatA, flatA.flatD, AM.flatC, List.all_cons, List.all_nil, -Option.bind_some, F9_ev, len_9, hl', hb', hn]
  simp only [List.length_nil, Int.natCast_zero] at hn
  cases hx : lexL l (1, 1) with
  | err q =>
    obtain ⟨h1, h2⟩ := lexT_err (by omega) hx
    rw [h1, h2] at e10
    simp only [fltC, toksE, List.map_nil] at e10
    simp [S8, canon_v, canon_sl, canon_clo, canon_ptr, need_refl, elems_sl, sf_v, sf_sl, sf_ptr, sf_ptrh, sf_clo, sf_dead, sf_nil, sf_full, sf_fr, need_true, ibeq, beq_ba, nbeq, nble, nblt, AM.nth, List.getD_cons_succ, List.getD_cons_zero, bind_step, Option.bind_none, Option.map_some, onBool, AM.onG, onFn, seqK, retK, Ex.outOf, cond_true, cond_false, bin_lss, bin_leq, bin_gtr, bin_geq, bin_eql, bin_neq, bin_add, bin_sub, bin_mul, un_not, str_eql, str_neq, app_push, load_fp, AM.ownPut, AM.cellsOf, AM.shift, aPick, beq_true, okSz, List.length_cons, List.length_nil, Nat.zero_add, Nat.add_zero, Nat.reduceAdd, decide_true, decide_false, Bool.and_true, Bool.true_and, Bool.and_self, Bool.not_true, Bool.not_false, List.getElem?_cons_zero, List.getElem?_cons_succ, List.nil_append, List.cons_append, max_int, min_int, modify_concat, part1, List.take_succ_cons, List.take_left, List.take_zero, List.take_nil, app_stk, app_tk, app_lp, set_stk, set_tk, set_lp, set_set, n_load, n_load0, n_old, n_store, n_store0, n_store_old, n_leave, n_leave0, n_fin_v, n_fin_sl, n_fin_u, n_back, n_next, n_blk, n_blk0, n_set, n_set0, n_set_old, bs_size, bs_inj, mk_bs, noPan, onRet, hN, hT, hL, List.toList_toArray, aNilCheck, AM.aExtract, canon, canonA, canonC, List.map_cons, List.map_nil, List.modify_zero_cons, List.modify_succ_cons, AM.part, List.drop_zero, List.drop_succ_cons, List.drop_nil, n_fin_tup, n_fin_agg, flatA, flatA.flatD, AM.flatC, List.all_cons, List.all_nil, -Option.bind_some, F9_ev, len_9, hl', hb', hn, e10, len_23, stne_26, rBuild, fillP, laid, okCells]
  | ok ts =>
    obtain ⟨h1, h2⟩ := lexT_ok (by omega) hx
    rw [h1, h2] at e10
    have hc := lexL_txl _ _ _ rfl ts hx
    have hbl := ntext_len note ts 0
    have hmu : ts.length * (note.length + 5) ≤ 4097 * 25 := Nat.mul_le_mul (by omega) (by omega)
    have hit := notes_loop (ts := ts) (note := note) (by omega) (by omega) (0, 0, 0) hN hT hL ts [] rfl
    have hll := toksE_len ts
    simp only [fltC, ntext, List.length_nil, Int.natCast_zero] at e10 hit
    by_cases hb : 8192 < (ntext note ts 0).length
    · have hb2 : (8192 : Int) < ((ntext note ts 0).length : Int) := by omega
      generalize ts.length = n at *
      generalize toksE ts = es at *
      simp [S8, canon_v, canon_sl, canon_clo, canon_ptr, need_refl, elems_sl, sf_v, sf_sl, sf_ptr, sf_ptrh, sf_clo, sf_dead, sf_nil, sf_full, sf_fr, need_true, ibeq, beq_ba, nbeq, nble, nblt, AM.nth, List.getD_cons_succ, List.getD_cons_zero, bind_step, Option.bind_none, Option.map_some, onBool, AM.onG, onFn, seqK, retK, Ex.outOf, cond_true, cond_false, bin_lss, bin_leq, bin_gtr, bin_geq, bin_eql, bin_neq, bin_add, bin_sub, bin_mul, un_not, str_eql, str_neq, app_push, load_fp, AM.ownPut, AM.cellsOf, AM.shift, aPick, beq_true, okSz, List.length_cons, List.length_nil, Nat.zero_add, Nat.add_zero, Nat.reduceAdd, decide_true, decide_false, Bool.and_true, Bool.true_and, Bool.and_self, Bool.not_true, Bool.not_false, List.getElem?_cons_zero, List.getElem?_cons_succ, List.nil_append, List.cons_append, max_int, min_int, modify_concat, part1, List.take_succ_cons, List.take_left, List.take_zero, List.take_nil, app_stk, app_tk, app_lp, set_stk, set_tk, set_lp, set_set, n_load, n_load0, n_old, n_store, n_store0, n_store_old, n_leave, n_leave0, n_fin_v, n_fin_sl, n_fin_u, n_back, n_next, n_blk, n_blk0, n_set, n_set0, n_set_old, bs_size, bs_inj, mk_bs, noPan, onRet, hN, hT, hL, List.toList_toArray, aNilCheck, AM.aExtract, canon, canonA, canonC, List.map_cons, List.map_nil, List.modify_zero_cons, List.modify_succ_cons, AM.part, List.drop_zero, List.drop_succ_cons, List.drop_nil, n_fin_tup, n_fin_agg, flatA, flatA.flatD, AM.flatC, List.all_cons, List.all_nil, -Option.bind_some, F9_ev, len_9, hl', hb', hn, hb2, e10, hit, len_23, hll, stne_26, rBuild, fillP, laid, okCells]
    · have hb2 : ¬ ((8192 : Int) < ((ntext note ts 0).length : Int)) := by omega
      obtain ⟨ms, g1, g2, g3⟩ := notes_law hno hx (by omega)
      have e10' : ∀ X, E L (.func 10) [str (ntext note ts 0)] X = _ := F10_ev (by omega)
      rw [g1, g2] at e10'
      have hml := bare_len g3
      have hll2 := toksE_len ms
      have hit2 := fun Y => notes_loop2 (v3 := .u) (by omega) hml g3 hN hT hL Y ts.length 0 rfl (by omega)
      simp only [fltC, Int.natCast_zero] at e10' hit2
      rw [hml] at hll2
      generalize ntext note ts 0 = bt at *
      generalize ts.length = n at *
      generalize toksE ts = es at *
      generalize toksE ms = es2 at *
      simp [S8, canon_v, canon_sl, canon_clo, canon_ptr, need_refl, elems_sl, sf_v, sf_sl, sf_ptr, sf_ptrh, sf_clo, sf_dead, sf_nil, sf_full, sf_fr, need_true, ibeq, beq_ba, nbeq, nble, nblt, AM.nth, List.getD_cons_succ, List.getD_cons_zero, bind_step, Option.bind_none, Option.map_some, onBool, AM.onG, onFn, seqK, retK, Ex.outOf, cond_true, cond_false, bin_lss, bin_leq, bin_gtr, bin_geq, bin_eql, bin_neq, bin_add, bin_sub, bin_mul, un_not, str_eql, str_neq, app_push, load_fp, AM.ownPut, AM.cellsOf, AM.shift, aPick, beq_true, okSz, List.length_cons, List.length_nil, Nat.zero_add, Nat.add_zero, Nat.reduceAdd, decide_true, decide_false, Bool.and_true, Bool.true_and, Bool.and_self, Bool.not_true, Bool.not_false, List.getElem?_cons_zero, List.getElem?_cons_succ, List.nil_append, List.cons_append, max_int, min_int, modify_concat, part1, List.take_succ_cons, List.take_left, List.take_zero, List.take_nil, app_stk, app_tk, app_lp, set_stk, set_tk, set_lp, set_set, n_load, n_load0, n_old, n_store, n_store0, n_store_old, n_leave, n_leave0, n_fin_v, n_fin_sl, n_fin_u, n_back, n_next, n_blk, n_blk0, n_set, n_set0, n_set_old, bs_size, bs_inj, mk_bs, noPan, onRet, hN, hT, hL, List.toList_toArray, aNilCheck, AM.aExtract, canon, canonA, canonC, List.map_cons, List.map_nil, List.modify_zero_cons, List.modify_succ_cons, AM.part, List.drop_zero, List.drop_succ_cons, List.drop_nil, n_fin_tup, n_fin_agg, flatA, flatA.flatD, AM.flatC, List.all_cons, List.all_nil, -Option.bind_some, F9_ev, len_9, hl', hb', hn, hb2, e10, e10', hit, hit2, len_23, hll, hll2, stne_26, rBuild, fillP, laid, okCells]
end
end Go.Proofs.YtbbaalimilcppaaDoor.S

/- The lexer: LexBack, LexPlaces, LexJoins and LexNotes are answered true. No condition. -/
namespace Go.Proofs.YtbbaalimilcppaaDoor.Pure
open Go Go.AM Go.Proofs
theorem LexBack_ev (s : ByteArray) : ∃ k st', evF S.L k (.func 5) [.v (.string s)] st0 = some (.v (.bool true), st') := by
  obtain ⟨k, hk⟩ := E_evF (S.LexBack_ev s st0)
  exact ⟨k, st0, hk⟩
theorem LexPlaces_ev (s : ByteArray) : ∃ k st', evF S.L k (.func 6) [.v (.string s)] st0 = some (.v (.bool true), st') := by
  obtain ⟨k, hk⟩ := E_evF (S.LexPlaces_ev s st0)
  exact ⟨k, st0, hk⟩
theorem LexJoins_ev (a b : ByteArray) : ∃ k st', evF S.L k (.func 7) [.v (.string a), .v (.string b)] st0 = some (.v (.bool true), st') := by
  obtain ⟨k, hk⟩ := E_evF (S.LexJoins_ev a b st0)
  exact ⟨k, st0, hk⟩
theorem LexNotes_ev (a b : ByteArray) : ∃ k st', evF S.L k (.func 8) [.v (.string a), .v (.string b)] st0 = some (.v (.bool true), st') := by
  obtain ⟨k, hk⟩ := E_evF (S.LexNotes_ev a b st0)
  exact ⟨k, st0, hk⟩
end Go.Proofs.YtbbaalimilcppaaDoor.Pure
