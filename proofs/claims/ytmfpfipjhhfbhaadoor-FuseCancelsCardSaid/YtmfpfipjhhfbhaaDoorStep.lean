/- What one round of the loops of over.Of, under.Of (and the references) does, in steps. -/
import Derived.Test.YtmfpfipjhhfbhaaDoorAlg2
namespace Go.Proofs.YtmfpfipjhhfbhaaDoor
open Go.Lib Go.RowKit Go.Proofs.YtmfpfipjhhfbhaaDoorW.PrintWords

theorem el_may2 {s : Sp} (h : El s) (hb : inA (spAtoms s) ≤ 1048576) : spMay s = 0 := by
  obtain ⟨k, n, t⟩ := s
  rcases h with ⟨hk, ⟨m, h0, hm⟩, ht⟩ | ⟨hk, h0, c, cs, hg, ht⟩
  · simp only at hk hm ht
    subst hm ht
    refine may_keep hk ?_
    rcases hk with rfl | rfl
    · simpa [spAtoms, inA_keeps] using hb
    · simpa [spAtoms, inA_drops] using hb
  · simp only at hk h0 ht
    subst hk h0
    exact may_put (by rw [ht]; exact validD_encB _ hg)
/-- A row of spans of a shortest form, such as op.May lets by. -/
structure Els (X : List Sp) : Prop where
  el : ∀ s ∈ X, El s
  few : inA (atoms X) ≤ 1048576
theorem Els.tail {s : Sp} {X : List Sp} (h : Els (s :: X)) : Els X := ⟨fun x hx => h.el x (by simp [hx]), by have := h.few; rw [atoms_cons, inA_append] at this; omega⟩
theorem Els.may {s : Sp} {X : List Sp} (h : Els (s :: X)) : spMay s = 0 := el_may2 (h.el s (by simp)) (by have := h.few; rw [atoms_cons, inA_append] at this; omega)
theorem Els.valid {X : List Sp} (h : Els X) : Valid X := by
  intro s hs
  refine el_may2 (h.el s hs) ?_
  have h1 := h.few
  have h2 : inA (spAtoms s) ≤ inA (atoms X) := by
    have : ∀ {X : List Sp}, s ∈ X → inA (spAtoms s) ≤ inA (atoms X) := by
      intro X
      induction X with
      | nil => intro h; cases h
      | cons x X ih =>
        intro h
        rw [atoms_cons, inA_append]
        rcases List.mem_cons.1 h with rfl | h
        · omega
        · have := ih h; omega
    exact this hs
  omega
/-- The kinds of a first span. -/
theorem el_kinds {s : Sp} (h : El s) : (s.k = 2 ∧ s.n = 0 ∧ ∃ c cs, (∀ x ∈ c :: cs, goodC x) ∧ s.t = encB (c :: cs) ∧ spAtoms s = (c :: cs).map .put) ∨
    ((s.k = 1 ∨ s.k = 3) ∧ s.t = ⟨#[]⟩ ∧ ∃ m : Nat, 0 < m ∧ s.n = m ∧ spAtoms s = List.replicate m (if s.k = 1 then .keep else .drop)) := by
  rcases h with ⟨hk, ⟨m, h0, hm⟩, ht⟩ | ⟨hk, h0, c, cs, hg, ht⟩
  · refine .inr ⟨hk, ht, m, h0, hm, ?_⟩
    rcases hk with hk | hk
    · simp [spAtoms, hk, hm]
    · simp [spAtoms, hk, hm]
  · refine .inl ⟨hk, h0, c, cs, hg, ht, ?_⟩
    simp only [spAtoms, hk, ht, cps_enc _ hg]; rfl
theorem el_short {k : Int} {m : Nat} (hk : k = 1 ∨ k = 3) (hm : 0 < m) : El ⟨k, m, ⟨#[]⟩⟩ := .inl ⟨hk, ⟨m, hm, rfl⟩, rfl⟩

/-! ### over -/
/-- These, at a step that keeps. -/
def only (y : At) (l : List At) : List At := match y with | .keep => l | _ => []
theorem only_if (k : Int) (l : List At) : only (if k = 1 then At.keep else At.drop) l = if k = 1 then l else [] := by
  by_cases h : k = 1
  · rw [if_pos h, if_pos h]; rfl
  · rw [if_neg h, if_neg h]; rfl
theorem over_puts : ∀ (cs : List Nat) (a s : List At), overA a (cs.map .put ++ s) = List.replicate cs.length .keep ++ overA a s
  | [], a, s => rfl
  | c :: cs, a, s => by
    rw [List.map_cons, List.cons_append, over_sput, over_puts cs a s]; rfl
theorem over_aputs : ∀ (cs : List Nat) (a s : List At), NP s → overA (cs.map .put ++ a) s = cs.map .put ++ overA a s
  | [], a, s, _ => rfl
  | c :: cs, a, s, h => by
    rw [List.map_cons, List.cons_append, over_aput _ _ _ h, over_aputs cs a s h]; rfl
theorem over_both (x : At) (hx : NP [x]) (y : At) (hy : NP [y]) : ∀ (n p q : Nat) (a s : List At), overA (List.replicate (n + p) x ++ a) (List.replicate (n + q) y ++ s) =
    only y (List.replicate n x) ++ overA (List.replicate p x ++ a) (List.replicate q y ++ s)
  | 0, p, q, a, s => by cases y <;> simp [only]
  | n + 1, p, q, a, s => by
    have ih := over_both x hx y hy n p q a s
    rw [show n + 1 + p = (n + p) + 1 by omega, show n + 1 + q = (n + q) + 1 by omega, List.replicate_succ, List.replicate_succ, List.cons_append, List.cons_append]
    match y, hy with
    | .keep, _ => rw [over_xk x hx, ih]; simp [only, List.replicate_succ]
    | .drop, _ => rw [over_xd x hx, ih]; rfl
theorem under_puts : ∀ (cs : List Nat) (s a : List At), underA (cs.map .put ++ s) a = cs.map .put ++ underA s a
  | [], s, a => rfl
  | c :: cs, s, a => by
    rw [List.map_cons, List.cons_append, under_sput, under_puts cs s a]; rfl
theorem under_aputs : ∀ (cs : List Nat) (s a : List At), NP s → underA s (cs.map .put ++ a) = List.replicate cs.length .keep ++ underA s a
  | [], s, a, _ => rfl
  | c :: cs, s, a, h => by
    rw [List.map_cons, List.cons_append, under_aput _ _ _ h, under_aputs cs s a h]; rfl
theorem under_both (x : At) (hx : NP [x]) (y : At) (hy : NP [y]) : ∀ (n p q : Nat) (s a : List At), underA (List.replicate (n + p) x ++ s) (List.replicate (n + q) y ++ a) =
    only y (List.replicate n x) ++ underA (List.replicate p x ++ s) (List.replicate q y ++ a)
  | 0, p, q, s, a => by cases y <;> simp [only]
  | n + 1, p, q, s, a => by
    have ih := under_both x hx y hy n p q s a
    rw [show n + 1 + p = (n + p) + 1 by omega, show n + 1 + q = (n + q) + 1 by omega, List.replicate_succ, List.replicate_succ, List.cons_append, List.cons_append]
    match y, hy with
    | .keep, _ => rw [under_xk x hx, ih]; simp [only, List.replicate_succ]
    | .drop, _ => rw [under_xd x hx, ih]; rfl
theorem np_atoms {s : Sp} {X : List Sp} (h : El s) (hk : s.k ≠ 2) : NP (atoms (s :: X)) := by
  rcases el_kinds h with ⟨h2, _⟩ | ⟨hk, _, m, h0, _, ha⟩
  · exact absurd h2 hk
  · rw [atoms_cons, ha]
    obtain ⟨m, rfl⟩ : ∃ k, m = k + 1 := ⟨m - 1, by omega⟩
    rw [List.replicate_succ, List.cons_append]
    split <;> trivial

/-- The rest of a span of which n code points have been taken. -/
def rest (s : Sp) (n : Int) (X : List Sp) : List Sp := if s.n - n = 0 then X else ⟨s.k, s.n - n, s.t⟩ :: X
theorem rest_length (s : Sp) (n : Int) (X : List Sp) : (rest s n X).length ≤ X.length + 1 := by unfold rest; split <;> simp
/-- A span that keeps or drops, and the rest of it. -/
theorem rest_atoms {s : Sp} {X : List Sp} (h : El s) (hk : s.k ≠ 2) (n : Nat) (hn : (n : Int) ≤ s.n) : ∃ p : Nat, spAtoms s = List.replicate (n + p) (if s.k = 1 then .keep else .drop) ∧ atoms (rest s n X) = List.replicate p (if s.k = 1 then .keep else .drop) ++ atoms X ∧ ((p : Int) = s.n - n) := by
  rcases el_kinds h with ⟨h2, _⟩ | ⟨hk, ht, m, h0, hm, ha⟩
  · exact absurd h2 hk
  · refine ⟨m - n, by rw [ha]; congr 1; omega, ?_, by omega⟩
    unfold rest
    split
    · rename_i h
      rw [show m - n = 0 by omega]; rfl
    · rename_i h
      rw [atoms_cons]
      congr 1
      have : s.n - (n : Int) = ((m - n : Nat) : Int) := by omega
      rcases hk with hk | hk
      · simp [spAtoms, hk, this]
      · simp [spAtoms, hk, this]
theorem rest_els {s : Sp} {X : List Sp} (h : Els (s :: X)) (hk : s.k ≠ 2) (n : Nat) (hn : (n : Int) ≤ s.n) : Els (rest s n X) := by
  have he := h.el s (by simp)
  obtain ⟨p, h1, h2, h3⟩ := rest_atoms (X := X) he hk n hn
  refine ⟨?_, ?_⟩
  · unfold rest
    split
    · exact h.tail.el
    · rename_i hne
      intro x hx
      rcases List.mem_cons.1 hx with rfl | hx
      · rcases el_kinds he with ⟨h2, _⟩ | ⟨hk, ht, m, h0, hm, ha⟩
        · exact absurd h2 hk
        · rw [ht, ← h3]
          exact el_short hk (by omega)
      · exact h.el x (by simp [hx])
  · have := h.few
    rw [atoms_cons, h1, inA_append] at this
    rw [h2, inA_append]
    by_cases hk1 : s.k = 1
    · rw [if_pos hk1, inA_keeps] at this ⊢; omega
    · rw [if_neg hk1, inA_drops] at this ⊢; omega

end Go.Proofs.YtmfpfipjhhfbhaaDoor
