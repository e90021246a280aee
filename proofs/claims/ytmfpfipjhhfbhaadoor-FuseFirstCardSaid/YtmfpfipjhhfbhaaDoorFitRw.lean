/- What Fit makes, and what keeps all, as rows of few steps; what keeps all behind another one, and ahead of it. -/
import Derived.Test.YtmfpfipjhhfbhaaDoorLit
import Derived.Test.YtmfpfipjhhfbhaaDoorFit
namespace Go.Proofs.YtmfpfipjhhfbhaaDoor
open Go.RowKit Go.Proofs.YtmfpfipjhhfbhaaDoorW.PrintWords

theorem fit_rw (xs : List Sp) (m : Nat) (hm : m ≤ 1000) : Rw (fitS xs m) (atoms (fitS xs m)) (m + 288) ∧ inA (atoms (fitS xs m)) = m := by
  obtain ⟨a1, a2, a3, a4⟩ := fitS_ok xs m (by omega) (by omega)
  have hin : inA (atoms (fitS xs m)) = m := by omega
  have hl := atoms_length_le a1
  exact ⟨⟨a1, rfl, good_atoms a1, by omega, by omega, by omega⟩, hin⟩
theorem good_keeps (m : Nat) : GoodAs (List.replicate m .keep) := fun a ha => by rw [List.eq_of_mem_replicate ha]; trivial
theorem keep_rw (m b : Nat) (hb : m ≤ b) (h1 : 1 ≤ b) (hb2 : b ≤ 262144 := by omega) : Rw (keepS m) (List.replicate m .keep) b := by
  obtain ⟨h2, h3⟩ := keepS_small m
  exact ⟨keepS_valid m (by omega), keepS_atoms m, good_keeps m, by simp; exact hb, by omega, by omega⟩
theorem under_keep1 : ∀ l : List At, underA l (List.replicate (inA l) .keep) = l
  | [] => under_nn
  | .put c :: l => by rw [under_sput, show inA (.put c :: l) = inA l from rfl, under_keep1 l]
  | .keep :: l => by rw [show inA (.keep :: l) = inA l + 1 from rfl, List.replicate_succ, under_xk .keep trivial, under_keep1 l]
  | .drop :: l => by rw [show inA (.drop :: l) = inA l + 1 from rfl, List.replicate_succ, under_xk .drop trivial, under_keep1 l]
theorem np_keeps (n : Nat) : NP (List.replicate n .keep) := by cases n <;> trivial
theorem over_keep1 : ∀ l : List At, overA l (List.replicate (inA l) .keep) = l
  | [] => over_nn
  | .put c :: l => by rw [over_aput _ _ _ (np_keeps _), show inA (.put c :: l) = inA l from rfl, over_keep1 l]
  | .keep :: l => by rw [show inA (.keep :: l) = inA l + 1 from rfl, List.replicate_succ, over_xk .keep trivial, over_keep1 l]
  | .drop :: l => by rw [show inA (.drop :: l) = inA l + 1 from rfl, List.replicate_succ, over_xk .drop trivial, over_keep1 l]
theorem under_keep2 : ∀ l : List At, underA (List.replicate (inA l) .keep) l = List.replicate (outA l) .keep
  | [] => under_nn
  | .put c :: l => by rw [under_aput _ _ _ (np_keeps _), show inA (.put c :: l) = inA l from rfl, under_keep2 l]; rfl
  | .keep :: l => by rw [show inA (.keep :: l) = inA l + 1 from rfl, List.replicate_succ, under_xk .keep trivial, under_keep2 l]; rfl
  | .drop :: l => by rw [show inA (.drop :: l) = inA l + 1 from rfl, List.replicate_succ, under_xd .keep trivial, under_keep2 l]; rfl

end Go.Proofs.YtmfpfipjhhfbhaaDoor
