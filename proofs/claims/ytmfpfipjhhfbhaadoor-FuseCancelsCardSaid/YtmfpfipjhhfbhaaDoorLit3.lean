/- Operations of three spans: some are kept, a text is put, some are kept. -/
import Derived.Test.YtmfpfipjhhfbhaaDoorLit
import Derived.Test.YtmfpfipjhhfbhaaDoorRefFit
namespace Go.Proofs.YtmfpfipjhhfbhaaDoor
open Go.RowKit Go.Proofs.YtmfpfipjhhfbhaaDoorW.PrintWords

/-- Some are kept, a text is put, some are kept. -/
def lit3 (a : Int) (t : ByteArray) (d : Int) : List Sp := [⟨1, a, ⟨#[]⟩⟩, ⟨2, 0, t⟩, ⟨1, d, ⟨#[]⟩⟩]
theorem lit3_cells (a : Int) (t : ByteArray) (d : Int) : (#[.int .i64 1, .int .i64 a, .string ⟨#[]⟩, .int .i64 2, .int .i64 0, .string t, .int .i64 1, .int .i64 d, .string ⟨#[]⟩] : Array Value) = (spCells (lit3 a t d)).toArray := rfl
def seq3 (a : Nat) (cs : List Nat) (d : Nat) : List At := List.replicate a .keep ++ cs.map .put ++ List.replicate d .keep
theorem rw_lit3 (a d : Int) (cs : List Nat) (b : Nat) (ha : 0 ≤ a) (hd : 0 ≤ d) (hg : ∀ c ∈ cs, goodC c) (hb : a.toNat + cs.length + d.toNat + 3 ≤ b) (hb2 : b ≤ 262144) : Rw (lit3 a (encB cs) d) (seq3 a.toNat cs d.toNat) b := by
  obtain ⟨m, rfl⟩ : ∃ m : Nat, a = m := ⟨a.toNat, by omega⟩
  obtain ⟨n, rfl⟩ : ∃ n : Nat, d = n := ⟨d.toNat, by omega⟩
  simp only [Int.toNat_natCast] at hb ⊢
  have hv : Valid (lit3 m (encB cs) n) := by
    intro s hs
    simp [lit3] at hs
    rcases hs with rfl | rfl | rfl
    · exact may_keep (.inl rfl) (by omega)
    · exact may_put (validD_encB _ hg)
    · exact may_keep (.inl rfl) (by omega)
  have ha : atoms (lit3 m (encB cs) n) = seq3 m cs n := by
    simp [lit3, atoms, spAtoms, seq3, cps_enc _ hg]
  refine ⟨hv, ha, by rw [← ha]; exact good_atoms hv, by simp [seq3]; omega, by simp [lit3]; omega, ?_⟩
  have h1 : (encB cs).size ≤ 4 * cs.length := by rw [encB_size]; exact (encL_length cs).2
  show 0 + ((encB cs).size + (0 + 0)) ≤ _
  omega
theorem over_seq (k d : Nat) (cv cu : List Nat) : overA (seq3 k cv d) (seq3 k cu d) = seq3 (k + cu.length) cv d := by
  unfold seq3
  have h := over_both .keep trivial .keep trivial k 0 0 (cv.map .put ++ List.replicate d .keep) (cu.map .put ++ List.replicate d .keep)
  have hn : NP (List.replicate d At.keep) := by cases d <;> trivial
  have h2 := over_both .keep trivial .keep trivial d 0 0 [] []
  simp only [Nat.add_zero, List.replicate_zero, List.nil_append, List.append_nil, only, over_nn] at h h2
  rw [List.append_assoc, List.append_assoc, h, over_puts, over_aputs _ _ _ hn, h2, ← List.append_assoc, List.replicate_append_replicate, List.append_assoc]
theorem under_seq (k d : Nat) (cu cv : List Nat) : underA (seq3 k cu d) (seq3 k cv d) = seq3 k cu (cv.length + d) := by
  unfold seq3
  have h := under_both .keep trivial .keep trivial k 0 0 (cu.map .put ++ List.replicate d .keep) (cv.map .put ++ List.replicate d .keep)
  have hn : NP (List.replicate d At.keep) := by cases d <;> trivial
  have h2 := under_both .keep trivial .keep trivial d 0 0 [] []
  simp only [Nat.add_zero, List.replicate_zero, List.nil_append, List.append_nil, only, under_nn] at h h2
  rw [List.append_assoc, List.append_assoc, h, under_puts, under_aputs _ _ _ hn, h2, List.append_assoc, List.replicate_append_replicate]
theorem in_seq (a d : Nat) (cs : List Nat) : inA (seq3 a cs d) = a + d := by
  unfold seq3
  rw [inA_append, inA_append, inA_keeps, inA_keeps, inA_puts]; omega
theorem cutText (s : ByteArray) (n : Nat) : ∃ cs, fitC (s.extract 0 (min s.size n)) = cs ∧ cs.length ≤ n ∧ ∀ c ∈ cs, goodC c :=
  ⟨_, rfl, by rw [fitC_length, ByteArray.size_extract]; omega, fitC_good _⟩
theorem count_enc (cs : List Nat) (hg : ∀ c ∈ cs, goodC c) : txtCount (encB cs) = cs.length := by
  rw [txtCount_cps (validD_encB _ hg), cps_enc _ hg]


end Go.Proofs.YtmfpfipjhhfbhaaDoor
