/- A chain cut at any place, and each part made one; the rows of rows of a law's walk. -/
import Derived.Test.YtmfpfipjhhfbhaaDoorChains
import Derived.Test.YtmfpfipjhhfbhaaDoorShown10
namespace Go.Proofs.YtmfpfipjhhfbhaaDoor
open Go.RowKit Go.Proofs.YtmfpfipjhhfbhaaDoorW.PrintWords

theorem endN_le {b : Nat} : ∀ (L : List (List Sp)) (n : Nat), Bnd L b → n ≤ b → endN n L ≤ b
  | [], _, _, h => h
  | X :: L, _, hB, _ => by
    show endN (outA (atoms X)) L ≤ b
    have h := hB.row X (by simp)
    have h1 := out_le' (atoms X)
    have h2 := h.few
    exact endN_le L _ ⟨fun Y hY => hB.row Y (List.mem_cons_of_mem _ hY)⟩ (by omega)
theorem compsA_append (c : List At) (L M : List (List Sp)) : compsA c (L ++ M) = compsA (compsA c L) M := by simp [compsA, List.foldl_append]
theorem compsA_assoc : ∀ (L : List (List Sp)) (x y : List At), outA x = inA y → Chn (outA y) L → compsA (compA x y) L = compA x (compsA y L)
  | [], _, _, _, _ => rfl
  | X :: L, x, y, h, hc => by
    show compsA (compA (compA x y) (atoms X)) L = compA x (compsA (compA y (atoms X)) L)
    have io := comp_io _ _ _ (Nat.le_refl _) hc.1.symm
    rw [comp_assoc _ _ _ _ (Nat.le_refl _) h hc.1.symm, compsA_assoc L x (compA y (atoms X)) (by rw [io.1]; exact h) (by rw [io.2]; exact hc.2)]
theorem comps_io : ∀ (L : List (List Sp)) (c : List At), Chn (outA c) L → inA (compsA c L) = inA c ∧ outA (compsA c L) = endN (outA c) L
  | [], _, _ => ⟨rfl, rfl⟩
  | X :: L, c, hc => by
    have io := comp_io _ _ _ (Nat.le_refl _) hc.1.symm
    have h := comps_io L (compA c (atoms X)) (by rw [io.2]; exact hc.2)
    show inA (compsA (compA c (atoms X)) L) = _ ∧ outA (compsA (compA c (atoms X)) L) = endN (outA (atoms X)) L
    rw [h.1, h.2, io.1, io.2]
    exact ⟨rfl, rfl⟩
theorem fuse_io (n : Nat) (L : List (List Sp)) (hc : Chn n L) : inA (fuseA n L) = n ∧ outA (fuseA n L) = endN n L := by
  have h := comps_io L (List.replicate n .keep) (by rw [outA_keeps]; exact hc)
  rw [inA_keeps, outA_keeps] at h
  exact h
theorem fuse_snoc2 (n : Nat) (L M : List (List Sp)) (hL : Chn n L) (hM : Chn (endN n L) M) : compA (fuseA n L) (fuseA (endN n L) M) = fuseA n (L ++ M) := by
  have io := fuse_io n L hL
  show compA _ (compsA (List.replicate (endN n L) .keep) M) = compsA _ (L ++ M)
  rw [compsA_append, ← compsA_assoc M _ _ (by rw [inA_keeps]; exact io.2) (by rw [outA_keeps]; exact hM)]
  congr 1
  have h := comp_keep2 (fuseA n L)
  rw [io.2] at h
  exact h
theorem fuse_parts (n k : Nat) (L : List (List Sp)) (hc : Chn n L) : Chn n (L.take k) ∧ Chn (endN n (L.take k)) (L.drop k) ∧ compA (fuseA n (L.take k)) (fuseA (endN n (L.take k)) (L.drop k)) = fuseA n L := by
  have h := hc
  rw [← List.take_append_drop k L, chn_append] at h
  refine ⟨h.1, h.2, ?_⟩
  rw [fuse_snoc2 n _ _ h.1 h.2, List.take_append_drop]
theorem fuse_two (n : Nat) (X Y : List Sp) (x y : List At) (hx : atoms X = x) (hy : atoms Y = y) (hin : inA x = n) : fuseA n [X, Y] = compA x y := by
  show compA (compA (List.replicate n .keep) (atoms X)) (atoms Y) = _
  rw [hx, hy]
  have h := comp_keep1 x
  rw [hin] at h
  rw [h]

/-! ### rows of rows, from call to call -/
theorem gives_rows {w w' : World} {v : Value} {L : List (List Sp)} (h : Kd.R kRow 27 w' w.heap.size (fun _ => True) v L) : ∃ A c, v = .slice A L.length c ∧ L.length ≤ c ∧ Kd.C kRow w' A L.length L := Kd.R_reads h
theorem rows_take {w : World} {A : Option Addr} {L : List (List Sp)} {k : Nat} (h : Kd.C kRow w A L.length L) (hk : k ≤ L.length) : Kd.C kRow w A k (L.take k) := by
  have h2 := Kd.C_take h hk
  rwa [List.length_take, Nat.min_eq_left hk] at h2
theorem rows_drop {w : World} {A : Option Addr} {L : List (List Sp)} {k c : Nat} (h : Kd.C kRow w A L.length L) (hk : k ≤ L.length) (hc : L.length ≤ c) : Kd.C kRow w (if c = k then A else A.map (·.add k)) (L.length - k) (L.drop k) := by
  have h2 := Kd.C_drop h hk hc
  rw [List.length_drop, show k * kRow.sz = k from Nat.mul_one k] at h2
  exact h2

end Go.Proofs.YtmfpfipjhhfbhaaDoor
