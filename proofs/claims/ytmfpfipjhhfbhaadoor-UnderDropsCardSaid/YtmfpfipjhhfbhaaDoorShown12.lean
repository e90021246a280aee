/- epitomelaw12.shown is true. -/
import Derived.Test.YtmfpfipjhhfbhaaDoorMeet
import Derived.Test.YtmfpfipjhhfbhaaDoorSame
import Derived.Test.YtmfpfipjhhfbhaaDoorLit
namespace Go.Proofs.YtmfpfipjhhfbhaaDoor
open Go.Lib Go.RowKit Go.Proofs.YtmfpfipjhhfbhaaDoorW.PrintWords

def s12 : List Sp := [⟨1, 1, ⟨#[]⟩⟩, ⟨2, 0, ⟨#[120]⟩⟩, ⟨1, 2, ⟨#[]⟩⟩]
def a12 : List Sp := [⟨1, 1, ⟨#[]⟩⟩, ⟨2, 0, ⟨#[121]⟩⟩, ⟨3, 1, ⟨#[]⟩⟩, ⟨1, 1, ⟨#[]⟩⟩]
theorem s12_atoms : atoms s12 = [.keep, .put 120, .keep, .keep] := by
  have := cps_of enc120 good120
  simp [s12, atoms, spAtoms, this]
theorem a12_atoms : atoms a12 = [.keep, .put 121, .drop, .keep] := by
  have := cps_of enc121 good121
  simp [a12, atoms, spAtoms, this]
theorem s12_valid : Valid s12 := by
  intro s hs
  simp [s12] at hs
  rcases hs with rfl | rfl | rfl
  · exact may_keep (m := 1) (.inl rfl) (by omega)
  · exact put_of enc120 good120
  · exact may_keep (m := 2) (.inl rfl) (by omega)
theorem a12_valid : Valid a12 := by
  intro s hs
  simp [a12] at hs
  rcases hs with rfl | rfl | rfl | rfl
  · exact may_keep (m := 1) (.inl rfl) (by omega)
  · exact put_of enc121 good121
  · exact may_keep (m := 1) (.inr rfl) (by omega)
  · exact may_keep (m := 1) (.inl rfl) (by omega)
theorem s12_norm : normS s12 = s12 := by
  have h1 : full ⟨1, 1, ⟨#[]⟩⟩ = true := by simp [full, spEmpty]
  have h2 : full ⟨2, 0, ⟨#[120]⟩⟩ = true := by simp [full, spEmpty, Lib.toList_data]
  have h3 : full ⟨1, 2, ⟨#[]⟩⟩ = true := by simp [full, spEmpty]
  unfold normS s12
  simp [List.filter, h1, h2, h3, nstep]
theorem fit12 : Fit2 s12 a12 := ⟨s12_valid, a12_valid, by rw [s12_atoms, a12_atoms]; rfl, by rw [s12_atoms]; decide, by decide, by decide, by decide, by decide⟩
theorem under12 : ofA (underA (atoms s12) (atoms a12)) = s12 := by
  have h : underA (atoms s12) (atoms a12) = atoms s12 := by
    rw [s12_atoms, a12_atoms]
    rw [under_xk .keep trivial, under_sput, under_aput [.keep, .keep] 121 _ trivial, under_xd .keep trivial, under_xk .keep trivial, under_nn]
  rw [h, ← normS_atoms s12_valid, s12_norm]

set_option maxHeartbeats 1000000 in
theorem shown12_calls (w : World) (hL : Laid w) : Calls Tryd.prog 15 #[] w fun e w' => e = .returned (.bool true) ∧ Below w.heap.size w w' := by
  obtain ⟨w1, hw1⟩ : ∃ w1, w1 = w.alloc (.cells (spCells s12).toArray 26) := ⟨_, rfl⟩
  obtain ⟨w2, hw2⟩ : ∃ w2, w2 = w1.alloc (.cells (spCells a12).toArray 26) := ⟨_, rfl⟩
  have h1 : Kd.C kSp w1 (some ⟨w.heap.size, 0, none⟩) s12.length s12 := by rw [hw1]; exact lit_reads w s12 (by decide)
  have h2 : Kd.C kSp w2 (some ⟨w1.heap.size, 0, none⟩) a12.length a12 := by rw [hw2]; exact lit_reads w1 a12 (by decide)
  have b1 : Below w.heap.size w w1 := by rw [hw1]; exact (Below.refl _ _).alloc (Nat.le_refl _) _
  have b2 : Below w1.heap.size w1 w2 := by rw [hw2]; exact (Below.refl _ _).alloc (Nat.le_refl _) _
  have b12 := b1.trans (b2.mono b1.size)
  have c1 := under_ok (some ⟨w.heap.size, 0, none⟩) (some ⟨w1.heap.size, 0, none⟩) 3 4 s12 a12 w2 (hL.below b12) (Kd.C_below h1 b2) h2 fit12 (hL.below b12).size
  have hs1 : w1.heap.size = w.heap.size + 1 := by rw [hw1]; simp
  have HW : Hid (w2 = (w.alloc (.cells (spCells s12).toArray 26)).alloc (.cells (spCells a12).toArray 26)) := by rw [hw2, hw1]; exact rfl
  rw [hs1] at c1
  rw [under12] at c1
  have H1 := Lib.hid (Kd.C_below h1 b2)
  clear h1 h2 b1 b2 hw1 hw2 hs1
  go_enter Tryd.func15, Tryd.ntmps15
  go_wp2_with fail
  rw [show (.cells #[.int .i64 1, .int .i64 1, .string ⟨#[]⟩, .int .i64 2, .int .i64 0, .string ⟨#[120]⟩, .int .i64 1, .int .i64 2, .string ⟨#[]⟩] 26 : Obj) = .cells (spCells s12).toArray 26 from rfl, show (.cells #[.int .i64 1, .int .i64 1, .string ⟨#[]⟩, .int .i64 2, .int .i64 0, .string ⟨#[121]⟩, .int .i64 3, .int .i64 1, .string ⟨#[]⟩, .int .i64 1, .int .i64 1, .string ⟨#[]⟩] 26 : Obj) = .cells (spCells a12).toArray 26 from rfl, ← HW.out]
  refine c1.mono ?_
  rintro e w3 ⟨v, rfl, hv, hb3⟩
  obtain ⟨Av, cv, rfl, _, hvC⟩ := Kd.R_reads hv
  have b3 := b12.trans (hb3.mono b12.size)
  have c2 := same_calls Av (some ⟨w.heap.size, 0, none⟩) cv 3 s12 w3 hvC (Kd.C_below H1.out hb3)
  clear c1 hv hvC
  go_wp2_with fail
  refine c2.mono ?_
  rintro e w4 ⟨rfl, hb4⟩
  go_wp2_with fail
  go_ret
  exact ⟨rfl, b3.trans (hb4.mono b3.size)⟩

end Go.Proofs.YtmfpfipjhhfbhaaDoor
