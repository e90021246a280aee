/- op.Keep; what a function's result is as a row that is read. -/
import Derived.Test.YtmfpfipjhhfbhaaDoorLit
namespace Go.Proofs.YtmfpfipjhhfbhaaDoor
open Go.RowKit Go.Proofs.YtmfpfipjhhfbhaaDoorW.PrintWords

def keepS (n : Nat) : List Sp := if n = 0 then [] else [⟨1, n, ⟨#[]⟩⟩]
theorem keepS_atoms (n : Nat) : atoms (keepS n) = List.replicate n .keep := by
  unfold keepS
  split
  · rename_i h; rw [h]; rfl
  · rw [atoms_one]; simp [spAtoms]
theorem keepS_valid (n : Nat) (h : n ≤ 1048576) : Valid (keepS n) := by
  unfold keepS
  split
  · intro s hs; cases hs
  · intro s hs
    rw [List.mem_singleton.1 hs]
    exact may_keep (.inl rfl) h
theorem keepS_small (n : Nat) : (keepS n).length ≤ 1 ∧ bytesL (keepS n) = 0 := by
  unfold keepS
  split <;> exact ⟨by simp, rfl⟩
theorem keepS_norm (n : Nat) : normS (keepS n) = keepS n := by
  unfold keepS
  split
  · rfl
  · rename_i h
    have hf : full ⟨1, n, ⟨#[]⟩⟩ = true := by
      have : ((n : Int) == 0) = false := by simpa using h
      simp [full, spEmpty, this]
    simp [normS, hf, nstep]
theorem ofA_keeps (n : Nat) (h : n ≤ 1048576) : ofA (List.replicate n .keep) = keepS n := by
  rw [← keepS_atoms n, ← normS_atoms (keepS_valid n h), keepS_norm]
theorem gives_lit (w : World) (xs : List Sp) (h : xs.length ≤ 100) : Gives w (w.alloc (.cells (spCells xs).toArray 26)) (.slice (some ⟨w.heap.size, 0, none⟩) xs.length xs.length) xs := by
  have := (lit_row w xs).owned (n := xs.length) (base := w.heap.size) (by unfold maxLen; omega) (Nat.le_refl _) (Nat.le_refl _)
  rw [List.take_length] at this
  exact this
set_option maxHeartbeats 1000000 in
theorem opKeep_ok (n : Nat) (w : World) (h : n ≤ 1048576) :
    Calls Tryd.prog 34 #[.int .i64 n] w fun e w' => ∃ v, e = .returned (.tuple #[v, .int .i64 0]) ∧ Gives w w' v (keepS n) ∧ Below w.heap.size w w' := by
  by_cases h0 : n = 0
  · subst h0
    go_enter Tryd.func34, Tryd.ntmps34
    go_wp2
    refine bodyPost_ret (v := .tuple #[.slice none 0 0, .int .i64 0]) (by simp [results, Tryd.results34, go_sem]) rfl ⟨_, rfl, Kd.R_nil _ _ _ _ _, Below.refl _ _⟩
  · have hb : ((n : Int) == 0) = false := by simpa using h0
    have hk : keepS n = [⟨1, n, ⟨#[]⟩⟩] := if_neg h0
    have hg := gives_lit w [⟨1, n, ⟨#[]⟩⟩] (by simp)
    rw [hk]
    clear hk h0
    have HG := Lib.hid hg
    clear hg
    go_enter Tryd.func34, Tryd.ntmps34
    go_wp2
    refine bodyPost_ret (v := .tuple #[.slice (some ⟨w.heap.size, 0, none⟩) 1 1, .int .i64 0]) (by simp [results, Tryd.results34, go_sem]) rfl ⟨_, rfl, HG.out, (Below.refl _ _).alloc (Nat.le_refl _) _⟩
set_option maxHeartbeats 1000000 in
theorem opKeep_err (n : Int) (w : World) (h : n < 0 ∨ 1048576 < n) :
    Calls Tryd.prog 34 #[.int .i64 n] w fun e w' => e = .returned (.tuple #[.slice none 0 0, .int .i64 2]) ∧ w = w' := by
  rcases h with h | h
  · go_enter Tryd.func34, Tryd.ntmps34
    go_wp2
    exact bodyPost_ret (v := .tuple #[.slice none 0 0, .int .i64 2]) (by simp [results, Tryd.results34, go_sem]) rfl ⟨rfl, rfl⟩
  · go_enter Tryd.func34, Tryd.ntmps34
    go_wp2
    exact bodyPost_ret (v := .tuple #[.slice none 0 0, .int .i64 2]) (by simp [results, Tryd.results34, go_sem]) rfl ⟨rfl, rfl⟩

end Go.Proofs.YtmfpfipjhhfbhaaDoor
