/- What one round of the loops of over.Of, under.Of (and the references) does, in steps. -/
import Derived.Test.YtmfpfipjhhfbhaaDoorAlg
namespace Go.Proofs.YtmfpfipjhhfbhaaDoor
open Go.Lib Go.RowKit Go.Proofs.YtmfpfipjhhfbhaaDoorW.PrintWords

theorem el_may2 {s : Sp} (h : El s) (hb : inA (spAtoms s) ≤ 1048576) : spMay s = 0 := by
  obtain ⟨k, n, t⟩ := s
  rcases h with ⟨hk, ⟨m, h0, hm⟩, ht⟩ | ⟨hk, h0, c, cs, hg, ht⟩
  · simp only at hk hm ht
    subst hm ht
    refine may_keep hk ?_
    rcases hk with rfl | rfl
    · simpa [spAtoms, inA_keeps] using hb
    · simpa [spAtoms, inA_drops] using hb
  · simp only at hk h0 ht
    subst hk h0
    exact may_put (by rw [ht]; exact validD_encB _ hg)
/-- A row of spans of a shortest form, such as op.May lets by. -/
structure Els (X : List Sp) : Prop where
  el : ∀ s ∈ X, El s
  few : inA (atoms X) ≤ 1048576
theorem Els.tail {s : Sp} {X : List Sp} (h : Els (s :: X)) : Els X := ⟨fun x hx => h.el x (by simp [hx]), by have := h.few; rw [atoms_cons, inA_append] at this; omega⟩
theorem Els.may {s : Sp} {X : List Sp} (h : Els (s :: X)) : spMay s = 0 := el_may2 (h.el s (by simp)) (by have := h.few; rw [atoms_cons, inA_append] at this; omega)
theorem Els.valid {X : List Sp} (h : Els X) : Valid X := by
  intro s hs
  refine el_may2 (h.el s hs) ?_
  have h1 := h.few
  have h2 : inA (spAtoms s) ≤ inA (atoms X) := by
    have : ∀ {X : List Sp}, s ∈ X → inA (spAtoms s) ≤ inA (atoms X) := by
      intro X
      induction X with
      | nil => intro h; cases h
      | cons x X ih =>
        intro h
        rw [atoms_cons, inA_append]
        rcases List.mem_cons.1 h with rfl | h
        · omega
        · have := ih h; omega
    exact this hs
  omega
/-- The kinds of a first span. -/
theorem el_kinds {s : Sp} (h : El s) : (s.k = 2 ∧ s.n = 0 ∧ ∃ c cs, (∀ x ∈ c :: cs, goodC x) ∧ s.t = encB (c :: cs) ∧ spAtoms s = (c :: cs).map .put) ∨
    ((s.k = 1 ∨ s.k = 3) ∧ s.t = ⟨#[]⟩ ∧ ∃ m : Nat, 0 < m ∧ s.n = m ∧ spAtoms s = List.replicate m (if s.k = 1 then .keep else .drop)) := by
  rcases h with ⟨hk, ⟨m, h0, hm⟩, ht⟩ | ⟨hk, h0, c, cs, hg, ht⟩
  · refine .inr ⟨hk, ht, m, h0, hm, ?_⟩
    rcases hk with hk | hk
    · simp [spAtoms, hk, hm]
    · simp [spAtoms, hk, hm]
  · refine .inl ⟨hk, h0, c, cs, hg, ht, ?_⟩
    simp only [spAtoms, hk, ht, cps_enc _ hg]; rfl
theorem el_short {k : Int} {m : Nat} (hk : k = 1 ∨ k = 3) (hm : 0 < m) : El ⟨k, m, ⟨#[]⟩⟩ := .inl ⟨hk, ⟨m, hm, rfl⟩, rfl⟩

/-! ### over -/
/-- These, at a step that keeps. -/
def only (y : At) (l : List At) : List At := match y with | .keep => l | _ => []
theorem only_if (k : Int) (l : List At) : only (if k = 1 then At.keep else At.drop) l = if k = 1 then l else [] := by
  by_cases h : k = 1
  · rw [if_pos h, if_pos h]; rfl
  · rw [if_neg h, if_neg h]; rfl
theorem over_puts : ∀ (cs : List Nat) (a s : List At), overA a (cs.map .put ++ s) = List.replicate cs.length .keep ++ overA a s
  | [], a, s => rfl
  | c :: cs, a, s => by
    rw [List.map_cons, List.cons_append, over_sput, over_puts cs a s]; rfl
theorem over_aputs : ∀ (cs : List Nat) (a s : List At), NP s → overA (cs.map .put ++ a) s = cs.map .put ++ overA a s
  | [], a, s, _ => rfl
  | c :: cs, a, s, h => by
    rw [List.map_cons, List.cons_append, over_aput _ _ _ h, over_aputs cs a s h]; rfl
theorem over_both (x : At) (hx : NP [x]) (y : At) (hy : NP [y]) : ∀ (n p q : Nat) (a s : List At), overA (List.replicate (n + p) x ++ a) (List.replicate (n + q) y ++ s) =
    only y (List.replicate n x) ++ overA (List.replicate p x ++ a) (List.replicate q y ++ s)
  | 0, p, q, a, s => by cases y <;> simp [only]
  | n + 1, p, q, a, s => by
    have ih := over_both x hx y hy n p q a s
    rw [show n + 1 + p = (n + p) + 1 by omega, show n + 1 + q = (n + q) + 1 by omega, List.replicate_succ, List.replicate_succ, List.cons_append, List.cons_append]
    match y, hy with
    | .keep, _ => rw [over_xk x hx, ih]; simp [only, List.replicate_succ]
    | .drop, _ => rw [over_xd x hx, ih]; rfl
theorem under_puts : ∀ (cs : List Nat) (s a : List At), underA (cs.map .put ++ s) a = cs.map .put ++ underA s a
  | [], s, a => rfl
  | c :: cs, s, a => by
    rw [List.map_cons, List.cons_append, under_sput, under_puts cs s a]; rfl
theorem under_aputs : ∀ (cs : List Nat) (s a : List At), NP s → underA s (cs.map .put ++ a) = List.replicate cs.length .keep ++ underA s a
  | [], s, a, _ => rfl
  | c :: cs, s, a, h => by
    rw [List.map_cons, List.cons_append, under_aput _ _ _ h, under_aputs cs s a h]; rfl
theorem under_both (x : At) (hx : NP [x]) (y : At) (hy : NP [y]) : ∀ (n p q : Nat) (s a : List At), underA (List.replicate (n + p) x ++ s) (List.replicate (n + q) y ++ a) =
    only y (List.replicate n x) ++ underA (List.replicate p x ++ s) (List.replicate q y ++ a)
  | 0, p, q, s, a => by cases y <;> simp [only]
  | n + 1, p, q, s, a => by
    have ih := under_both x hx y hy n p q s a
    rw [show n + 1 + p = (n + p) + 1 by omega, show n + 1 + q = (n + q) + 1 by omega, List.replicate_succ, List.replicate_succ, List.cons_append, List.cons_append]
    match y, hy with
    | .keep, _ => rw [under_xk x hx, ih]; simp [only, List.replicate_succ]
    | .drop, _ => rw [under_xd x hx, ih]; rfl
theorem np_atoms {s : Sp} {X : List Sp} (h : El s) (hk : s.k ≠ 2) : NP (atoms (s :: X)) := by
  rcases el_kinds h with ⟨h2, _⟩ | ⟨hk, _, m, h0, _, ha⟩
  · exact absurd h2 hk
  · rw [atoms_cons, ha]
    obtain ⟨m, rfl⟩ : ∃ k, m = k + 1 := ⟨m - 1, by omega⟩
    rw [List.replicate_succ, List.cons_append]
    split <;> trivial

/-- The rest of a span of which n code points have been taken. -/
def rest (s : Sp) (n : Int) (X : List Sp) : List Sp := if s.n - n = 0 then X else ⟨s.k, s.n - n, s.t⟩ :: X
theorem rest_length (s : Sp) (n : Int) (X : List Sp) : (rest s n X).length ≤ X.length + 1 := by unfold rest; split <;> simp
/-- A span that keeps or drops, and the rest of it. -/
theorem rest_atoms {s : Sp} {X : List Sp} (h : El s) (hk : s.k ≠ 2) (n : Nat) (hn : (n : Int) ≤ s.n) : ∃ p : Nat, spAtoms s = List.replicate (n + p) (if s.k = 1 then .keep else .drop) ∧ atoms (rest s n X) = List.replicate p (if s.k = 1 then .keep else .drop) ++ atoms X ∧ ((p : Int) = s.n - n) := by
  rcases el_kinds h with ⟨h2, _⟩ | ⟨hk, ht, m, h0, hm, ha⟩
  · exact absurd h2 hk
  · refine ⟨m - n, by rw [ha]; congr 1; omega, ?_, by omega⟩
    unfold rest
    split
    · rename_i h
      rw [show m - n = 0 by omega]; rfl
    · rename_i h
      rw [atoms_cons]
      congr 1
      have : s.n - (n : Int) = ((m - n : Nat) : Int) := by omega
      rcases hk with hk | hk
      · simp [spAtoms, hk, this]
      · simp [spAtoms, hk, this]
theorem rest_els {s : Sp} {X : List Sp} (h : Els (s :: X)) (hk : s.k ≠ 2) (n : Nat) (hn : (n : Int) ≤ s.n) : Els (rest s n X) := by
  have he := h.el s (by simp)
  obtain ⟨p, h1, h2, h3⟩ := rest_atoms (X := X) he hk n hn
  refine ⟨?_, ?_⟩
  · unfold rest
    split
    · exact h.tail.el
    · rename_i hne
      intro x hx
      rcases List.mem_cons.1 hx with rfl | hx
      · rcases el_kinds he with ⟨h2, _⟩ | ⟨hk, ht, m, h0, hm, ha⟩
        · exact absurd h2 hk
        · rw [ht, ← h3]
          exact el_short hk (by omega)
      · exact h.el x (by simp [hx])
  · have := h.few
    rw [atoms_cons, h1, inA_append] at this
    rw [h2, inA_append]
    by_cases hk1 : s.k = 1
    · rw [if_pos hk1, inA_keeps] at this ⊢; omega
    · rw [if_neg hk1, inA_drops] at this ⊢; omega

end Go.Proofs.YtmfpfipjhhfbhaaDoor

/- The rounds of over.Of and under.Of, whole: from what was to what is. No program in sight. -/
namespace Go.Proofs.YtmfpfipjhhfbhaaDoor
open Go.Lib Go.RowKit Go.Proofs.YtmfpfipjhhfbhaaDoorW.PrintWords

theorem bytesL_cons (s : Sp) (X : List Sp) : bytesL (s :: X) = s.t.size + bytesL X := by simp [bytesL]
theorem bytesL_snoc (X : List Sp) (s : Sp) : bytesL (X ++ [s]) = bytesL X + s.t.size := by simp [bytesL]
theorem valid_snoc {X : List Sp} {s : Sp} (h : Valid X) (hs : spMay s = 0) : Valid (X ++ [s]) := by
  intro x hx
  rcases List.mem_append.1 hx with hx | hx
  · exact h x hx
  · simp at hx; rw [hx]; exact hs
theorem atoms_one (s : Sp) : atoms [s] = spAtoms s := by simp [atoms]
/-- What a span that puts gives is kept. -/
def kept (s : Sp) : Sp := ⟨1, spOut s, ⟨#[]⟩⟩
theorem put_head {s : Sp} {Y : List Sp} (h : Els (s :: Y)) (hk : s.k = 2) (hb : s.t.size ≤ 1048576) : ∃ cs : List Nat, spAtoms s = cs.map .put ∧ spAtoms (kept s) = List.replicate cs.length .keep ∧ spMay (kept s) = 0 := by
  have hm := h.may
  rcases el_kinds (h.el s (by simp)) with ⟨_, _, c, cs, hg, ht, ha⟩ | ⟨hk', _⟩
  · refine ⟨c :: cs, ha, ?_⟩
    have hv : validD s.t.data.toList = true := by rw [ht]; exact validD_encB _ hg
    have h1 : spOut s = ((c :: cs).length : Nat) := by
      unfold spOut
      rw [if_neg (by omega), if_pos hk, ht, txtCount_cps (validD_encB _ hg), cps_enc _ hg]
      omega
    have h2 : (c :: cs).length ≤ 1048576 := by
      have := (cps_length_le s.t hv).1
      rw [ht, cps_enc _ hg, ← ht] at this
      omega
    unfold kept
    rw [h1]
    exact ⟨by simp [spAtoms], may_keep (.inl rfl) h2⟩
  · omega
theorem inA_puts' (cs : List Nat) (l : List At) : inA (cs.map .put ++ l) = inA l := by rw [inA_append, inA_puts]; omega
theorem np_of {X : List Sp} (h : Els X) (hk : ∀ s Y, X = s :: Y → s.k ≠ 2) : NP (atoms X) := by
  cases X with
  | nil => trivial
  | cons s X => exact np_atoms (h.el s (by simp)) (hk s X rfl)

/-! ### over -/
theorem over_r1 {s : Sp} {X Y out : List Sp} {R : List At} (eY : Els (s :: Y)) (hk : s.k = 2) (hb : s.t.size ≤ 1048576) (hv : Valid out) (hio : inA (atoms X) = inA (atoms (s :: Y))) (ha : atoms out ++ overA (atoms X) (atoms (s :: Y)) = R) :
    Valid (out ++ [kept s]) ∧ inA (atoms X) = inA (atoms Y) ∧ atoms (out ++ [kept s]) ++ overA (atoms X) (atoms Y) = R := by
  obtain ⟨cs, h1, h2, h3⟩ := put_head eY hk hb
  rw [atoms_cons, h1] at hio ha
  rw [inA_puts'] at hio
  rw [over_puts] at ha
  exact ⟨valid_snoc hv h3, hio, by rw [atoms_append, atoms_one, h2, List.append_assoc]; exact ha⟩
theorem over_r2 {s : Sp} {X Y out : List Sp} {R : List At} (eX : Els (s :: X)) (hk : s.k = 2) (hb : s.t.size ≤ 1048576) (hn : NP (atoms Y)) (hv : Valid out) (hio : inA (atoms (s :: X)) = inA (atoms Y)) (ha : atoms out ++ overA (atoms (s :: X)) (atoms Y) = R) :
    Valid (out ++ [s]) ∧ inA (atoms X) = inA (atoms Y) ∧ atoms (out ++ [s]) ++ overA (atoms X) (atoms Y) = R := by
  obtain ⟨cs, h1, _, _⟩ := put_head eX hk hb
  rw [atoms_cons, h1] at hio ha
  rw [inA_puts'] at hio
  rw [over_aputs _ _ _ hn] at ha
  exact ⟨valid_snoc hv eX.may, hio, by rw [atoms_append, atoms_one, h1, List.append_assoc]; exact ha⟩
theorem np_one (k : Int) : NP [if k = 1 then At.keep else At.drop] := by split <;> trivial
theorem inA_one (k : Int) (n : Nat) : inA (List.replicate n (if k = 1 then At.keep else At.drop)) = n := by
  split
  · exact inA_keeps n
  · exact inA_drops n
/-- What both do: the first's span, where the second keeps. -/
def bothSp (s t : Sp) (n : Int) : List Sp := if t.k = 1 then [⟨s.k, n, ⟨#[]⟩⟩] else []
theorem both_kinds {s : Sp} (h : El s) (hk : s.k ≠ 2) : (s.k = 1 ∨ s.k = 3) ∧ ∃ m : Nat, 0 < m ∧ s.n = m := by
  rcases el_kinds h with ⟨h2, _⟩ | ⟨hk', _, m, h0, hm, _⟩
  · exact absurd h2 hk
  · exact ⟨hk', m, h0, hm⟩
theorem both_sp {s t : Sp} {X : List Sp} (hs : Els (s :: X)) (hk : s.k ≠ 2) (n : Nat) (hn : (n : Int) ≤ s.n) {out : List Sp} (hv : Valid out) : Valid (out ++ bothSp s t n) ∧ atoms (out ++ bothSp s t n) = atoms out ++ (if t.k = 1 then List.replicate n (if s.k = 1 then At.keep else At.drop) else []) := by
  obtain ⟨hk', m, h0, hm⟩ := both_kinds (hs.el s (by simp)) hk
  have hm2 : m ≤ 1048576 := by
    rcases may_cases hs.may with ⟨_, ⟨m', h1, h2⟩, _⟩ | ⟨h2, _⟩
    · omega
    · exact absurd h2 hk
  unfold bothSp
  by_cases ht : t.k = 1
  · rw [if_pos ht, if_pos ht]
    refine ⟨valid_snoc hv (may_keep hk' (by omega)), ?_⟩
    rw [atoms_append, atoms_one]
    congr 1
    rcases hk' with h | h <;> simp [spAtoms, h]
  · rw [if_neg ht, if_neg ht]
    simp only [List.append_nil]
    exact ⟨hv, trivial⟩
theorem over_r3 {s t : Sp} {X Y out : List Sp} {R : List At} (eX : Els (s :: X)) (eY : Els (t :: Y)) (hs : s.k ≠ 2) (ht : t.k ≠ 2) (hv : Valid out) (hio : inA (atoms (s :: X)) = inA (atoms (t :: Y))) (ha : atoms out ++ overA (atoms (s :: X)) (atoms (t :: Y)) = R) (n : Nat) (hn : (n : Int) = min s.n t.n) :
    Els (rest s n X) ∧ Els (rest t n Y) ∧ Valid (out ++ bothSp s t n) ∧ inA (atoms (rest s n X)) = inA (atoms (rest t n Y)) ∧ atoms (out ++ bothSp s t n) ++ overA (atoms (rest s n X)) (atoms (rest t n Y)) = R := by
  obtain ⟨p, h1, h2, h3⟩ := rest_atoms (X := X) (eX.el s (by simp)) hs n (by omega)
  obtain ⟨q, g1, g2, g3⟩ := rest_atoms (X := Y) (eY.el t (by simp)) ht n (by omega)
  obtain ⟨v1, v2⟩ := both_sp (t := t) eX hs n (by omega) hv
  refine ⟨rest_els eX hs n (by omega), rest_els eY ht n (by omega), v1, ?_, ?_⟩
  · rw [atoms_cons, atoms_cons, h1, g1, inA_append, inA_append, inA_one, inA_one] at hio
    rw [h2, g2, inA_append, inA_append, inA_one, inA_one]
    omega
  · rw [atoms_cons, atoms_cons, h1, g1, over_both _ (np_one _) _ (np_one _)] at ha
    rw [h2, g2, v2, List.append_assoc, ← ha]
    rw [only_if]

/-! ### under: s came first -/
theorem under_r1 {s : Sp} {X Y out : List Sp} {R : List At} (eX : Els (s :: X)) (hk : s.k = 2) (hb : s.t.size ≤ 1048576) (hv : Valid out) (hio : inA (atoms (s :: X)) = inA (atoms Y)) (ha : atoms out ++ underA (atoms (s :: X)) (atoms Y) = R) :
    Valid (out ++ [s]) ∧ inA (atoms X) = inA (atoms Y) ∧ atoms (out ++ [s]) ++ underA (atoms X) (atoms Y) = R := by
  obtain ⟨cs, h1, h2, h3⟩ := put_head eX hk hb
  rw [atoms_cons, h1] at hio ha
  rw [inA_puts'] at hio
  rw [under_puts] at ha
  exact ⟨valid_snoc hv eX.may, hio, by rw [atoms_append, atoms_one, h1, List.append_assoc]; exact ha⟩
theorem under_r2 {s : Sp} {X Y out : List Sp} {R : List At} (eY : Els (s :: Y)) (hk : s.k = 2) (hb : s.t.size ≤ 1048576) (hn : NP (atoms X)) (hv : Valid out) (hio : inA (atoms X) = inA (atoms (s :: Y))) (ha : atoms out ++ underA (atoms X) (atoms (s :: Y)) = R) :
    Valid (out ++ [kept s]) ∧ inA (atoms X) = inA (atoms Y) ∧ atoms (out ++ [kept s]) ++ underA (atoms X) (atoms Y) = R := by
  obtain ⟨cs, h1, h2, h3⟩ := put_head eY hk hb
  rw [atoms_cons, h1] at hio ha
  rw [inA_puts'] at hio
  rw [under_aputs _ _ _ hn] at ha
  exact ⟨valid_snoc hv h3, hio, by rw [atoms_append, atoms_one, h2, List.append_assoc]; exact ha⟩
theorem under_r3 {s t : Sp} {X Y out : List Sp} {R : List At} (eX : Els (s :: X)) (eY : Els (t :: Y)) (hs : s.k ≠ 2) (ht : t.k ≠ 2) (hv : Valid out) (hio : inA (atoms (s :: X)) = inA (atoms (t :: Y))) (ha : atoms out ++ underA (atoms (s :: X)) (atoms (t :: Y)) = R) (n : Nat) (hn : (n : Int) = min s.n t.n) :
    Els (rest s n X) ∧ Els (rest t n Y) ∧ Valid (out ++ bothSp s t n) ∧ inA (atoms (rest s n X)) = inA (atoms (rest t n Y)) ∧ atoms (out ++ bothSp s t n) ++ underA (atoms (rest s n X)) (atoms (rest t n Y)) = R := by
  obtain ⟨p, h1, h2, h3⟩ := rest_atoms (X := X) (eX.el s (by simp)) hs n (by omega)
  obtain ⟨q, g1, g2, g3⟩ := rest_atoms (X := Y) (eY.el t (by simp)) ht n (by omega)
  obtain ⟨v1, v2⟩ := both_sp (t := t) eX hs n (by omega) hv
  refine ⟨rest_els eX hs n (by omega), rest_els eY ht n (by omega), v1, ?_, ?_⟩
  · rw [atoms_cons, atoms_cons, h1, g1, inA_append, inA_append, inA_one, inA_one] at hio
    rw [h2, g2, inA_append, inA_append, inA_one, inA_one]
    omega
  · rw [atoms_cons, atoms_cons, h1, g1, under_both _ (np_one _) _ (np_one _)] at ha
    rw [h2, g2, v2, List.append_assoc, ← ha]
    rw [only_if]
theorem rest_bytes {s : Sp} {X : List Sp} (h : El s) (hk : s.k ≠ 2) (n : Int) : bytesL (rest s n X) = bytesL X := by
  unfold rest
  split
  · rfl
  · rcases el_kinds h with ⟨h2, _⟩ | ⟨_, ht, _⟩
    · exact absurd h2 hk
    · rw [bytesL_cons, ht]; show 0 + _ = _; omega
theorem rest_some {s : Sp} {X : List Sp} (n : Int) : (rest s n X).length = X.length ∨ (rest s n X).length = X.length + 1 := by unfold rest; split <;> simp
theorem bothSp_length (s t : Sp) (n : Int) : (bothSp s t n).length ≤ 1 := by unfold bothSp; split <;> simp
theorem bothSp_bytes (s t : Sp) (n : Int) : bytesL (bothSp s t n) = 0 := by unfold bothSp; split <;> rfl

theorem both_small {s : Sp} {X : List Sp} (h : Els (s :: X)) (hk : s.k ≠ 2) : s.n ≤ 1048576 := by
  rcases may_cases h.may with ⟨_, ⟨m', h1, h2⟩, _⟩ | ⟨h2, _⟩
  · omega
  · exact absurd h2 hk
theorem rest_two (s t : Sp) (X Y : List Sp) (n : Int) (hn : n = min s.n t.n) : (rest s n X).length + (rest t n Y).length ≤ X.length + Y.length + 1 := by
  unfold rest
  split <;> split <;> simp <;> omega
theorem both_drop (s t : Sp) (n : Int) (out : List Sp) (h : t.k = 3) : out ++ bothSp s t n = out := by unfold bothSp; rw [if_neg (by omega), List.append_nil]
theorem both_keep (s t : Sp) (n : Int) (h : t.k = 1) : bothSp s t n = [⟨s.k, n, ⟨#[]⟩⟩] := by unfold bothSp; rw [if_pos h]

end Go.Proofs.YtmfpfipjhhfbhaaDoor

/- Rows of which a part of the first span has been taken: what a round of under's walk does to them. No program in sight. -/
namespace Go.Proofs.YtmfpfipjhhfbhaaDoor
open Go.Lib Go.RowKit Go.Proofs.YtmfpfipjhhfbhaaDoorW.PrintWords

/-- What is left of X, d code points of the first span taken. -/
def part (X : List Sp) (d : Int) : List Sp := if d = 0 then X else match X with
  | [] => []
  | s :: X => ⟨s.k, s.n - d, s.t⟩ :: X
def PartOk (X : List Sp) (d : Int) : Prop := d = 0 ∨ ∃ s X', X = s :: X' ∧ s.k ≠ 2 ∧ 0 < d ∧ d < s.n
theorem part_zero (X : List Sp) : part X 0 = X := if_pos rfl
theorem part_put {s : Sp} {X : List Sp} {d : Int} (h : PartOk (s :: X) d) (hk : s.k = 2) : d = 0 := by
  rcases h with h | ⟨s', X', he, hn, _⟩
  · exact h
  · simp at he; rw [he.1] at hk; exact absurd hk hn
theorem part_nil {d : Int} (h : PartOk [] d) : d = 0 := by
  rcases h with h | ⟨s', X', he, _⟩
  · exact h
  · cases he
theorem part_cons {s : Sp} {X : List Sp} (d : Int) : part (s :: X) d = ⟨s.k, s.n - d, s.t⟩ :: X := by
  unfold part
  split
  · rename_i h; subst h; simp
  · rfl
theorem part_els {X : List Sp} {d : Int} (h : Els X) (hp : PartOk X d) : Els (part X d) := by
  rcases hp with rfl | ⟨s, X', rfl, hk, h0, h1⟩
  · rw [part_zero]; exact h
  · obtain ⟨m, rfl⟩ : ∃ m : Nat, d = m := ⟨d.toNat, by omega⟩
    have h2 := rest_els h hk m (by omega)
    unfold rest at h2
    rw [if_neg (by omega)] at h2
    rw [part_cons]; exact h2
theorem part_pos {s : Sp} {X : List Sp} {d : Int} (h : Els (s :: X)) (hp : PartOk (s :: X) d) (hk : s.k ≠ 2) : 0 ≤ d ∧ d < s.n ∧ 0 < inA (atoms (part (s :: X) d)) := by
  obtain ⟨_, m, hm0, hm⟩ := both_kinds (h.el s (by simp)) hk
  have h1 : 0 ≤ d ∧ d < s.n := by
    rcases hp with rfl | ⟨s', X', he, _, h0, h1⟩
    · omega
    · simp at he; rw [he.1]; omega
  have h2 := part_els h hp
  rw [part_cons] at h2 ⊢
  obtain ⟨_, q, hq0, hq⟩ := both_kinds (s := ⟨s.k, s.n - d, s.t⟩) (h2.el _ (List.mem_cons_self ..)) hk
  refine ⟨h1.1, h1.2, ?_⟩
  obtain ⟨p, g1, g2, g3⟩ := rest_atoms (s := ⟨s.k, s.n - d, s.t⟩) (X := X) (h2.el _ (List.mem_cons_self ..)) hk 0 (by show ((0 : Nat) : Int) ≤ s.n - d; omega)
  rw [atoms_cons, g1, inA_append, inA_one]
  simp only at g3 hq
  omega
/-- The part of s from d on; n of it taken. -/
theorem part_take {s : Sp} {X : List Sp} {d : Int} (hk : s.k ≠ 2) (h0 : 0 ≤ d) (n : Int) (hn0 : 0 < n) (hn : n ≤ s.n - d) :
    rest ⟨s.k, s.n - d, s.t⟩ n X = (if d + n = s.n then X else part (s :: X) (d + n)) ∧ (d + n ≠ s.n → PartOk (s :: X) (d + n)) := by
  refine ⟨?_, fun h => .inr ⟨s, X, rfl, hk, by omega, by omega⟩⟩
  unfold rest
  simp only
  by_cases h : d + n = s.n
  · rw [if_pos h, if_pos (by omega)]
  · rw [if_neg h, if_neg (by omega), part_cons]
    congr 2; omega

end Go.Proofs.YtmfpfipjhhfbhaaDoor
