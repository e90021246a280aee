/- How great rows of steps and of spans are. No program in sight. -/
import Derived.Test.YtmfpfipjhhfbhaaDoorOverOk
import Derived.Test.YtmfpfipjhhfbhaaDoorSame
namespace Go.Proofs.YtmfpfipjhhfbhaaDoor
open Go.RowKit Go.Proofs.YtmfpfipjhhfbhaaDoorW.PrintWords

theorem good_iff : ∀ l : List At, GoodAs l ↔ ∀ c ∈ putsA l, goodC c
  | [] => by simp [GoodAs, putsA]
  | .keep :: l => by have := good_iff l; simp [GoodAs, putsA, GoodAt] at this ⊢; exact this
  | .drop :: l => by have := good_iff l; simp [GoodAs, putsA, GoodAt] at this ⊢; exact this
  | .put c :: l => by have := good_iff l; simp [GoodAs, putsA, GoodAt] at this ⊢; rw [this]; exact fun _ => Iff.rfl
theorem len_io : ∀ l : List At, l.length = inA l + (putsA l).length
  | [] => rfl
  | .keep :: l => by have := len_io l; simp only [List.length_cons, inA, putsA]; omega
  | .drop :: l => by have := len_io l; simp only [List.length_cons, inA, putsA]; omega
  | .put c :: l => by have := len_io l; simp only [List.length_cons, inA, putsA]; omega
theorem out_le (l : List At) : outA l ≤ inA l + (putsA l).length := by have := in_drops l; omega
/-- Steps that are good and few. -/
structure Few (l : List At) (b : Nat) : Prop where
  good : GoodAs l
  len : l.length ≤ b
theorem few_over {a s : List At} {b c : Nat} (ha : Few a b) (hs : Few s c) (h : inA a = inA s) : Few (overA a s) (b + c) := by
  obtain ⟨h1, h2, h3, h4, h5, h6⟩ := over_io _ a s (Nat.le_refl _) h
  refine ⟨by rw [good_iff, h5, ← good_iff]; exact ha.good, ?_⟩
  rw [len_io, h1, h5]
  have e1 := len_io a
  have e2 := len_io s
  have e3 := out_le s
  have := ha.len
  have := hs.len
  omega
theorem few_under {a s : List At} {b c : Nat} (ha : Few a b) (hs : Few s c) (h : inA a = inA s) : Few (underA s a) (b + c) := by
  obtain ⟨h1, h2, h3, h4, h5, h6⟩ := over_io _ a s (Nat.le_refl _) h
  refine ⟨by rw [good_iff, h6, ← good_iff]; exact hs.good, ?_⟩
  rw [len_io, h2, h6]
  have e1 := len_io a
  have e2 := len_io s
  have e3 := out_le a
  have := ha.len
  have := hs.len
  omega
theorem few_row {xs : List Sp} {n b : Nat} (hv : Valid xs) (hi : inA (atoms xs) ≤ n) (hb : bytesL xs ≤ b) : Few (atoms xs) (n + b) :=
  ⟨good_atoms hv, by have := atoms_length_le hv; omega⟩
/-- The shortest form of few steps. -/
theorem few_ofA {l : List At} {b : Nat} (h : Few l b) (hb : b ≤ 262144) : Valid (ofA l) ∧ atoms (ofA l) = l ∧ (ofA l).length ≤ b ∧ bytesL (ofA l) ≤ 4 * b := by
  have hl := h.len
  have hc := ofA_canon h.good (by omega)
  have ha := atoms_ofA h.good (by omega)
  have h1 := canon_length hc.el
  have h2 := canon_bytes hc.el
  rw [ha] at h1 h2
  exact ⟨canon_valid hc (by rw [ha]; omega), ha, by omega, by omega⟩
theorem in_le (l : List At) : inA l ≤ l.length := by have := len_io l; omega
theorem out_le' (l : List At) : outA l ≤ l.length := by have := len_io l; have := out_le l; omega
theorem row_in {xs : List Sp} (hv : Valid xs) (hb : (atoms xs).length ≤ 1048576) : sumW spIn xs = inA (atoms xs) := opIn_atoms hv (by have := in_le (atoms xs); omega)
theorem row_out {xs : List Sp} (hv : Valid xs) (hb : (atoms xs).length ≤ 1048576) : sumW spOut xs = outA (atoms xs) := opOut_atoms hv (by have := out_le' (atoms xs); omega)

theorem dropsA_append : ∀ a b : List At, dropsA (a ++ b) = dropsA a + dropsA b
  | [], b => by simp [dropsA]
  | .keep :: a, b => by simp [dropsA, dropsA_append a b]
  | .drop :: a, b => by simp [dropsA, dropsA_append a b]; omega
  | .put _ :: a, b => by simp [dropsA, dropsA_append a b]
theorem dropsA_keeps (n : Nat) : dropsA (List.replicate n .keep) = 0 := by induction n with | zero => rfl | succ n ih => simp [List.replicate_succ, dropsA, ih]
theorem dropsA_drops (n : Nat) : dropsA (List.replicate n .drop) = n := by induction n with | zero => rfl | succ n ih => simp [List.replicate_succ, dropsA, ih]
theorem dropsA_puts (cs : List Nat) : dropsA (cs.map .put) = 0 := by induction cs with | nil => rfl | cons c cs ih => simp [dropsA, ih]
theorem spDrop_atoms {s : Sp} (h : spMay s = 0) : spDrop s = dropsA (spAtoms s) := by
  rcases may_cases h with ⟨hk, ⟨m, hm, _⟩, _⟩ | ⟨hk, _, _⟩
  · rcases hk with hk | hk
    · simp [spDrop, spAtoms, hk, dropsA_keeps]
    · simp [spDrop, spAtoms, hk, hm, dropsA_drops]
  · simp [spDrop, spAtoms, hk, dropsA_puts]
theorem sum_drops : ∀ xs : List Sp, (xs.map fun s => dropsA (spAtoms s)).sum = dropsA (atoms xs)
  | [] => rfl
  | s :: xs => by rw [List.map_cons, List.sum_cons, sum_drops xs, atoms_cons, dropsA_append]
theorem dropsA_le (l : List At) : dropsA l ≤ l.length := by have := len_io l; have := in_drops l; omega
theorem row_drops {xs : List Sp} (h : Valid xs) (hb : (atoms xs).length ≤ 1048576) : sumW spDrop xs = dropsA (atoms xs) := by
  have hd := dropsA_le (atoms xs)
  have := sumW_small spDrop (fun s => dropsA (spAtoms s)) [] xs (fun s hs => spDrop_atoms (h s hs)) (by rw [sum_drops]; simp [sumW]; omega) (by simp [sumW])
  rw [sum_drops] at this
  simpa [sumW] using this

end Go.Proofs.YtmfpfipjhhfbhaaDoor
