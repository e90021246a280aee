/- The rounds of over.Of and under.Of, whole: from what was to what is. No program in sight. -/
import Derived.Test.YtmfpfipjhhfbhaaDoorStep
namespace Go.Proofs.YtmfpfipjhhfbhaaDoor
open Go.Lib Go.RowKit Go.Proofs.YtmfpfipjhhfbhaaDoorW.PrintWords

theorem bytesL_cons (s : Sp) (X : List Sp) : bytesL (s :: X) = s.t.size + bytesL X := by simp [bytesL]
theorem bytesL_snoc (X : List Sp) (s : Sp) : bytesL (X ++ [s]) = bytesL X + s.t.size := by simp [bytesL]
theorem valid_snoc {X : List Sp} {s : Sp} (h : Valid X) (hs : spMay s = 0) : Valid (X ++ [s]) := by
  intro x hx
  rcases List.mem_append.1 hx with hx | hx
  · exact h x hx
  · simp at hx; rw [hx]; exact hs
theorem atoms_one (s : Sp) : atoms [s] = spAtoms s := by simp [atoms]
/-- What a span that puts gives is kept. -/
def kept (s : Sp) : Sp := ⟨1, spOut s, ⟨#[]⟩⟩
theorem put_head {s : Sp} {Y : List Sp} (h : Els (s :: Y)) (hk : s.k = 2) (hb : s.t.size ≤ 1048576) : ∃ cs : List Nat, spAtoms s = cs.map .put ∧ spAtoms (kept s) = List.replicate cs.length .keep ∧ spMay (kept s) = 0 := by
  have hm := h.may
  rcases el_kinds (h.el s (by simp)) with ⟨_, _, c, cs, hg, ht, ha⟩ | ⟨hk', _⟩
  · refine ⟨c :: cs, ha, ?_⟩
    have hv : validD s.t.data.toList = true := by rw [ht]; exact validD_encB _ hg
    have h1 : spOut s = ((c :: cs).length : Nat) := by
      unfold spOut
      rw [if_neg (by omega), if_pos hk, ht, txtCount_cps (validD_encB _ hg), cps_enc _ hg]
      omega
    have h2 : (c :: cs).length ≤ 1048576 := by
      have := (cps_length_le s.t hv).1
      rw [ht, cps_enc _ hg, ← ht] at this
      omega
    unfold kept
    rw [h1]
    exact ⟨by simp [spAtoms], may_keep (.inl rfl) h2⟩
  · omega
theorem inA_puts' (cs : List Nat) (l : List At) : inA (cs.map .put ++ l) = inA l := by rw [inA_append, inA_puts]; omega
theorem np_of {X : List Sp} (h : Els X) (hk : ∀ s Y, X = s :: Y → s.k ≠ 2) : NP (atoms X) := by
  cases X with
  | nil => trivial
  | cons s X => exact np_atoms (h.el s (by simp)) (hk s X rfl)

/-! ### over -/
theorem over_r1 {s : Sp} {X Y out : List Sp} {R : List At} (eY : Els (s :: Y)) (hk : s.k = 2) (hb : s.t.size ≤ 1048576) (hv : Valid out) (hio : inA (atoms X) = inA (atoms (s :: Y))) (ha : atoms out ++ overA (atoms X) (atoms (s :: Y)) = R) :
    Valid (out ++ [kept s]) ∧ inA (atoms X) = inA (atoms Y) ∧ atoms (out ++ [kept s]) ++ overA (atoms X) (atoms Y) = R := by
  obtain ⟨cs, h1, h2, h3⟩ := put_head eY hk hb
  rw [atoms_cons, h1] at hio ha
  rw [inA_puts'] at hio
  rw [over_puts] at ha
  exact ⟨valid_snoc hv h3, hio, by rw [atoms_append, atoms_one, h2, List.append_assoc]; exact ha⟩
theorem over_r2 {s : Sp} {X Y out : List Sp} {R : List At} (eX : Els (s :: X)) (hk : s.k = 2) (hb : s.t.size ≤ 1048576) (hn : NP (atoms Y)) (hv : Valid out) (hio : inA (atoms (s :: X)) = inA (atoms Y)) (ha : atoms out ++ overA (atoms (s :: X)) (atoms Y) = R) :
    Valid (out ++ [s]) ∧ inA (atoms X) = inA (atoms Y) ∧ atoms (out ++ [s]) ++ overA (atoms X) (atoms Y) = R := by
  obtain ⟨cs, h1, _, _⟩ := put_head eX hk hb
  rw [atoms_cons, h1] at hio ha
  rw [inA_puts'] at hio
  rw [over_aputs _ _ _ hn] at ha
  exact ⟨valid_snoc hv eX.may, hio, by rw [atoms_append, atoms_one, h1, List.append_assoc]; exact ha⟩
theorem np_one (k : Int) : NP [if k = 1 then At.keep else At.drop] := by split <;> trivial
theorem inA_one (k : Int) (n : Nat) : inA (List.replicate n (if k = 1 then At.keep else At.drop)) = n := by
  split
  · exact inA_keeps n
  · exact inA_drops n
/-- What both do: the first's span, where the second keeps. -/
def bothSp (s t : Sp) (n : Int) : List Sp := if t.k = 1 then [⟨s.k, n, ⟨#[]⟩⟩] else []
theorem both_kinds {s : Sp} (h : El s) (hk : s.k ≠ 2) : (s.k = 1 ∨ s.k = 3) ∧ ∃ m : Nat, 0 < m ∧ s.n = m := by
  rcases el_kinds h with ⟨h2, _⟩ | ⟨hk', _, m, h0, hm, _⟩
  · exact absurd h2 hk
  · exact ⟨hk', m, h0, hm⟩
theorem both_sp {s t : Sp} {X : List Sp} (hs : Els (s :: X)) (hk : s.k ≠ 2) (n : Nat) (hn : (n : Int) ≤ s.n) {out : List Sp} (hv : Valid out) : Valid (out ++ bothSp s t n) ∧ atoms (out ++ bothSp s t n) = atoms out ++ (if t.k = 1 then List.replicate n (if s.k = 1 then At.keep else At.drop) else []) := by
  obtain ⟨hk', m, h0, hm⟩ := both_kinds (hs.el s (by simp)) hk
  have hm2 : m ≤ 1048576 := by
    rcases may_cases hs.may with ⟨_, ⟨m', h1, h2⟩, _⟩ | ⟨h2, _⟩
    · omega
    · exact absurd h2 hk
  unfold bothSp
  by_cases ht : t.k = 1
  · rw [if_pos ht, if_pos ht]
    refine ⟨valid_snoc hv (may_keep hk' (by omega)), ?_⟩
    rw [atoms_append, atoms_one]
    congr 1
    rcases hk' with h | h <;> simp [spAtoms, h]
  · rw [if_neg ht, if_neg ht]
    simp only [List.append_nil]
    exact ⟨hv, trivial⟩
theorem over_r3 {s t : Sp} {X Y out : List Sp} {R : List At} (eX : Els (s :: X)) (eY : Els (t :: Y)) (hs : s.k ≠ 2) (ht : t.k ≠ 2) (hv : Valid out) (hio : inA (atoms (s :: X)) = inA (atoms (t :: Y))) (ha : atoms out ++ overA (atoms (s :: X)) (atoms (t :: Y)) = R) (n : Nat) (hn : (n : Int) = min s.n t.n) :
    Els (rest s n X) ∧ Els (rest t n Y) ∧ Valid (out ++ bothSp s t n) ∧ inA (atoms (rest s n X)) = inA (atoms (rest t n Y)) ∧ atoms (out ++ bothSp s t n) ++ overA (atoms (rest s n X)) (atoms (rest t n Y)) = R := by
  obtain ⟨p, h1, h2, h3⟩ := rest_atoms (X := X) (eX.el s (by simp)) hs n (by omega)
  obtain ⟨q, g1, g2, g3⟩ := rest_atoms (X := Y) (eY.el t (by simp)) ht n (by omega)
  obtain ⟨v1, v2⟩ := both_sp (t := t) eX hs n (by omega) hv
  refine ⟨rest_els eX hs n (by omega), rest_els eY ht n (by omega), v1, ?_, ?_⟩
  · rw [atoms_cons, atoms_cons, h1, g1, inA_append, inA_append, inA_one, inA_one] at hio
    rw [h2, g2, inA_append, inA_append, inA_one, inA_one]
    omega
  · rw [atoms_cons, atoms_cons, h1, g1, over_both _ (np_one _) _ (np_one _)] at ha
    rw [h2, g2, v2, List.append_assoc, ← ha]
    rw [only_if]

/-! ### under: s came first -/
theorem under_r1 {s : Sp} {X Y out : List Sp} {R : List At} (eX : Els (s :: X)) (hk : s.k = 2) (hb : s.t.size ≤ 1048576) (hv : Valid out) (hio : inA (atoms (s :: X)) = inA (atoms Y)) (ha : atoms out ++ underA (atoms (s :: X)) (atoms Y) = R) :
    Valid (out ++ [s]) ∧ inA (atoms X) = inA (atoms Y) ∧ atoms (out ++ [s]) ++ underA (atoms X) (atoms Y) = R := by
  obtain ⟨cs, h1, h2, h3⟩ := put_head eX hk hb
  rw [atoms_cons, h1] at hio ha
  rw [inA_puts'] at hio
  rw [under_puts] at ha
  exact ⟨valid_snoc hv eX.may, hio, by rw [atoms_append, atoms_one, h1, List.append_assoc]; exact ha⟩
theorem under_r2 {s : Sp} {X Y out : List Sp} {R : List At} (eY : Els (s :: Y)) (hk : s.k = 2) (hb : s.t.size ≤ 1048576) (hn : NP (atoms X)) (hv : Valid out) (hio : inA (atoms X) = inA (atoms (s :: Y))) (ha : atoms out ++ underA (atoms X) (atoms (s :: Y)) = R) :
    Valid (out ++ [kept s]) ∧ inA (atoms X) = inA (atoms Y) ∧ atoms (out ++ [kept s]) ++ underA (atoms X) (atoms Y) = R := by
  obtain ⟨cs, h1, h2, h3⟩ := put_head eY hk hb
  rw [atoms_cons, h1] at hio ha
  rw [inA_puts'] at hio
  rw [under_aputs _ _ _ hn] at ha
  exact ⟨valid_snoc hv h3, hio, by rw [atoms_append, atoms_one, h2, List.append_assoc]; exact ha⟩
theorem under_r3 {s t : Sp} {X Y out : List Sp} {R : List At} (eX : Els (s :: X)) (eY : Els (t :: Y)) (hs : s.k ≠ 2) (ht : t.k ≠ 2) (hv : Valid out) (hio : inA (atoms (s :: X)) = inA (atoms (t :: Y))) (ha : atoms out ++ underA (atoms (s :: X)) (atoms (t :: Y)) = R) (n : Nat) (hn : (n : Int) = min s.n t.n) :
    Els (rest s n X) ∧ Els (rest t n Y) ∧ Valid (out ++ bothSp s t n) ∧ inA (atoms (rest s n X)) = inA (atoms (rest t n Y)) ∧ atoms (out ++ bothSp s t n) ++ underA (atoms (rest s n X)) (atoms (rest t n Y)) = R := by
  obtain ⟨p, h1, h2, h3⟩ := rest_atoms (X := X) (eX.el s (by simp)) hs n (by omega)
  obtain ⟨q, g1, g2, g3⟩ := rest_atoms (X := Y) (eY.el t (by simp)) ht n (by omega)
  obtain ⟨v1, v2⟩ := both_sp (t := t) eX hs n (by omega) hv
  refine ⟨rest_els eX hs n (by omega), rest_els eY ht n (by omega), v1, ?_, ?_⟩
  · rw [atoms_cons, atoms_cons, h1, g1, inA_append, inA_append, inA_one, inA_one] at hio
    rw [h2, g2, inA_append, inA_append, inA_one, inA_one]
    omega
  · rw [atoms_cons, atoms_cons, h1, g1, under_both _ (np_one _) _ (np_one _)] at ha
    rw [h2, g2, v2, List.append_assoc, ← ha]
    rw [only_if]
theorem rest_bytes {s : Sp} {X : List Sp} (h : El s) (hk : s.k ≠ 2) (n : Int) : bytesL (rest s n X) = bytesL X := by
  unfold rest
  split
  · rfl
  · rcases el_kinds h with ⟨h2, _⟩ | ⟨_, ht, _⟩
    · exact absurd h2 hk
    · rw [bytesL_cons, ht]; show 0 + _ = _; omega
theorem rest_some {s : Sp} {X : List Sp} (n : Int) : (rest s n X).length = X.length ∨ (rest s n X).length = X.length + 1 := by unfold rest; split <;> simp
theorem bothSp_length (s t : Sp) (n : Int) : (bothSp s t n).length ≤ 1 := by unfold bothSp; split <;> simp
theorem bothSp_bytes (s t : Sp) (n : Int) : bytesL (bothSp s t n) = 0 := by unfold bothSp; split <;> rfl

theorem both_small {s : Sp} {X : List Sp} (h : Els (s :: X)) (hk : s.k ≠ 2) : s.n ≤ 1048576 := by
  rcases may_cases h.may with ⟨_, ⟨m', h1, h2⟩, _⟩ | ⟨h2, _⟩
  · omega
  · exact absurd h2 hk
theorem rest_two (s t : Sp) (X Y : List Sp) (n : Int) (hn : n = min s.n t.n) : (rest s n X).length + (rest t n Y).length ≤ X.length + Y.length + 1 := by
  unfold rest
  split <;> split <;> simp <;> omega
theorem both_drop (s t : Sp) (n : Int) (out : List Sp) (h : t.k = 3) : out ++ bothSp s t n = out := by unfold bothSp; rw [if_neg (by omega), List.append_nil]
theorem both_keep (s t : Sp) (n : Int) (h : t.k = 1) : bothSp s t n = [⟨s.k, n, ⟨#[]⟩⟩] := by unfold bothSp; rw [if_pos h]

end Go.Proofs.YtmfpfipjhhfbhaaDoor
