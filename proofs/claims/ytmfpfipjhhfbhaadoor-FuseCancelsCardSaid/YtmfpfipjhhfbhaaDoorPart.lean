/- Rows of which a part of the first span has been taken: what a round of under's walk does to them. No program in sight. -/
import Derived.Test.YtmfpfipjhhfbhaaDoorStep2
namespace Go.Proofs.YtmfpfipjhhfbhaaDoor
open Go.Lib Go.RowKit Go.Proofs.YtmfpfipjhhfbhaaDoorW.PrintWords

/-- What is left of X, d code points of the first span taken. -/
def part (X : List Sp) (d : Int) : List Sp := if d = 0 then X else match X with
  | [] => []
  | s :: X => ⟨s.k, s.n - d, s.t⟩ :: X
def PartOk (X : List Sp) (d : Int) : Prop := d = 0 ∨ ∃ s X', X = s :: X' ∧ s.k ≠ 2 ∧ 0 < d ∧ d < s.n
theorem part_zero (X : List Sp) : part X 0 = X := if_pos rfl
theorem part_put {s : Sp} {X : List Sp} {d : Int} (h : PartOk (s :: X) d) (hk : s.k = 2) : d = 0 := by
  rcases h with h | ⟨s', X', he, hn, _⟩
  · exact h
  · simp at he; rw [he.1] at hk; exact absurd hk hn
theorem part_nil {d : Int} (h : PartOk [] d) : d = 0 := by
  rcases h with h | ⟨s', X', he, _⟩
  · exact h
  · cases he
theorem part_cons {s : Sp} {X : List Sp} (d : Int) : part (s :: X) d = ⟨s.k, s.n - d, s.t⟩ :: X := by
  unfold part
  split
  · rename_i h; subst h; simp
  · rfl
theorem part_els {X : List Sp} {d : Int} (h : Els X) (hp : PartOk X d) : Els (part X d) := by
  rcases hp with rfl | ⟨s, X', rfl, hk, h0, h1⟩
  · rw [part_zero]; exact h
  · obtain ⟨m, rfl⟩ : ∃ m : Nat, d = m := ⟨d.toNat, by omega⟩
    have h2 := rest_els h hk m (by omega)
    unfold rest at h2
    rw [if_neg (by omega)] at h2
    rw [part_cons]; exact h2
theorem part_pos {s : Sp} {X : List Sp} {d : Int} (h : Els (s :: X)) (hp : PartOk (s :: X) d) (hk : s.k ≠ 2) : 0 ≤ d ∧ d < s.n ∧ 0 < inA (atoms (part (s :: X) d)) := by
  obtain ⟨_, m, hm0, hm⟩ := both_kinds (h.el s (by simp)) hk
  have h1 : 0 ≤ d ∧ d < s.n := by
    rcases hp with rfl | ⟨s', X', he, _, h0, h1⟩
    · omega
    · simp at he; rw [he.1]; omega
  have h2 := part_els h hp
  rw [part_cons] at h2 ⊢
  obtain ⟨_, q, hq0, hq⟩ := both_kinds (s := ⟨s.k, s.n - d, s.t⟩) (h2.el _ (List.mem_cons_self ..)) hk
  refine ⟨h1.1, h1.2, ?_⟩
  obtain ⟨p, g1, g2, g3⟩ := rest_atoms (s := ⟨s.k, s.n - d, s.t⟩) (X := X) (h2.el _ (List.mem_cons_self ..)) hk 0 (by show ((0 : Nat) : Int) ≤ s.n - d; omega)
  rw [atoms_cons, g1, inA_append, inA_one]
  simp only at g3 hq
  omega
/-- The part of s from d on; n of it taken. -/
theorem part_take {s : Sp} {X : List Sp} {d : Int} (hk : s.k ≠ 2) (h0 : 0 ≤ d) (n : Int) (hn0 : 0 < n) (hn : n ≤ s.n - d) :
    rest ⟨s.k, s.n - d, s.t⟩ n X = (if d + n = s.n then X else part (s :: X) (d + n)) ∧ (d + n ≠ s.n → PartOk (s :: X) (d + n)) := by
  refine ⟨?_, fun h => .inr ⟨s, X, rfl, hk, by omega, by omega⟩⟩
  unfold rest
  simp only
  by_cases h : d + n = s.n
  · rw [if_pos h, if_pos (by omega)]
  · rw [if_neg h, if_neg (by omega), part_cons]
    congr 2; omega

end Go.Proofs.YtmfpfipjhhfbhaaDoor
