/- Operations as rows of single steps (keep a code point, drop one, put one): the shortest form of a row of spans hangs on its steps alone, and each row of steps has one. -/
import Derived.Test.YtmfpfipjhhfbhaaDoorNormOf
import Derived.Test.YtmfpfipjhhfbhaaDoorText
namespace Go.Proofs.YtmfpfipjhhfbhaaDoor
open Go.Lib Go.RowKit Go.Proofs.YtmfpfipjhhfbhaaDoorW.PrintWords

inductive At where
  | keep
  | drop
  | put (c : Nat)
def spAtoms (s : Sp) : List At :=
  if s.k = 1 then List.replicate s.n.toNat .keep else if s.k = 3 then List.replicate s.n.toNat .drop else if s.k = 2 then (cps s.t).map .put else []
def atoms (xs : List Sp) : List At := xs.flatMap spAtoms
theorem atoms_append (xs ys : List Sp) : atoms (xs ++ ys) = atoms xs ++ atoms ys := by simp [atoms]
theorem atoms_cons (s : Sp) (xs : List Sp) : atoms (s :: xs) = spAtoms s ++ atoms xs := by simp [atoms]
theorem atoms_nil : atoms [] = [] := rfl
def GoodAt : At → Prop
  | .put c => goodC c
  | _ => True
def GoodAs (l : List At) : Prop := ∀ a ∈ l, GoodAt a
def Valid (xs : List Sp) : Prop := ∀ s ∈ xs, spMay s = 0

theorem bytes_ext {s t : ByteArray} (h : s.data.toList = t.data.toList) : s = t := by
  apply ByteArray.ext; exact Array.ext' h
theorem bytes_nil {t : ByteArray} (h : t.toList = []) : t = ⟨#[]⟩ := by
  apply bytes_ext; rw [← Lib.toList_data, h]
theorem bytes_assoc (a b c : ByteArray) : a ++ b ++ c = a ++ (b ++ c) := by
  apply bytes_ext; simp
theorem bytes_nil_append (a : ByteArray) : (⟨#[]⟩ : ByteArray) ++ a = a := by
  apply bytes_ext; simp
theorem bytes_append_nil (a : ByteArray) : a ++ (⟨#[]⟩ : ByteArray) = a := by
  apply bytes_ext; simp

/-- The spans that may be, one by one. -/
theorem may_cases {s : Sp} (h : spMay s = 0) : ((s.k = 1 ∨ s.k = 3) ∧ (∃ m : Nat, s.n = m ∧ m ≤ 1048576) ∧ s.t = ⟨#[]⟩) ∨ (s.k = 2 ∧ s.n = 0 ∧ txtOk s.t = true) := by
  unfold spMay at h
  split at h
  · rename_i hk
    split at h
    · cases h
    · rename_i hn
      split at h
      · cases h
      · rename_i ht
        exact .inl ⟨hk, ⟨s.n.toNat, by omega, by omega⟩, bytes_nil (by simpa using ht)⟩
  · split at h
    · rename_i hk
      split at h
      · cases h
      · rename_i hn
        split at h
        · cases h
        · rename_i ht
          exact .inr ⟨hk, by simpa using hn, by simpa using ht⟩
    · cases h
theorem may_keep {k : Int} {m : Nat} (hk : k = 1 ∨ k = 3) (hm : m ≤ 1048576) : spMay ⟨k, m, ⟨#[]⟩⟩ = 0 := by
  unfold spMay
  simp only
  rw [if_pos hk, if_neg (by omega), if_neg (by simp)]
theorem may_put {t : ByteArray} (ht : txtOk t = true) : spMay ⟨2, 0, t⟩ = 0 := by
  unfold spMay
  simp [ht]

/-! ### one step as a span -/
def unitSp : At → Sp
  | .keep => ⟨1, 1, ⟨#[]⟩⟩
  | .drop => ⟨3, 1, ⟨#[]⟩⟩
  | .put c => ⟨2, 0, encB [c]⟩
/-- The shortest form of a row of steps. -/
def ofA (l : List At) : List Sp := (l.map unitSp).foldl nstep []

theorem wrap_add (a b : Int) : wrap64 (wrap64 a + b) = wrap64 (a + b) := by unfold wrap64; omega
theorem nstep_nstep (acc : List Sp) (k n m : Int) (t u : ByteArray) (h : wrap64 (n + m) = n + m) : nstep (nstep acc ⟨k, n, t⟩) ⟨k, m, u⟩ = nstep acc ⟨k, n + m, t ++ u⟩ := by
  cases hl : acc.getLast? with
  | none =>
    have : acc = [] := by simpa using hl
    subst this
    rw [nstep_nil, nstep_nil, nstep_same (acc := [⟨k, n, t⟩]) (l := ⟨k, n, t⟩) (s := ⟨k, m, u⟩) rfl rfl]
    simp [h]
  | some l =>
    by_cases hk : l.k = k
    · rw [nstep_same (s := ⟨k, n, t⟩) hl hk, nstep_same (s := ⟨k, n + m, t ++ u⟩) hl hk]
      refine (nstep_same (l := ⟨l.k, wrap64 (l.n + n), l.t ++ t⟩) (by simp) hk).trans ?_
      simp only [List.dropLast_concat]
      rw [wrap_add, bytes_assoc, Int.add_assoc]
    · rw [nstep_other (s := ⟨k, n, t⟩) hl hk, nstep_other (s := ⟨k, n + m, t ++ u⟩) hl hk]
      refine (nstep_same (l := ⟨k, n, t⟩) (s := ⟨k, m, u⟩) ?_ rfl).trans ?_
      · simp
      · simp [h]
theorem fold_keep (k : Int) (acc : List Sp) : ∀ m : Nat, m ≤ 1048576 → (List.replicate (m + 1) (⟨k, 1, ⟨#[]⟩⟩ : Sp)).foldl nstep acc = nstep acc ⟨k, (m + 1 : Nat), ⟨#[]⟩⟩
  | 0, _ => rfl
  | m + 1, h => by
    rw [List.replicate_succ', List.foldl_append, fold_keep k acc m (by omega)]
    simp only [List.foldl_cons, List.foldl_nil]
    rw [nstep_nstep _ _ _ _ _ _ (by unfold wrap64; omega), bytes_append_nil]
    rfl
theorem fold_put (acc : List Sp) : ∀ (cs : List Nat) (c : Nat), (((c :: cs).map At.put).map unitSp).foldl nstep acc = nstep acc ⟨2, 0, encB (c :: cs)⟩ := by
  have h : ∀ (cs ds : List Nat), ((cs.map At.put).map unitSp).foldl nstep (nstep acc ⟨2, 0, encB ds⟩) = nstep acc ⟨2, 0, encB (ds ++ cs)⟩ := by
    intro cs
    induction cs with
    | nil => intro ds; simp
    | cons c cs ih =>
      intro ds
      simp only [List.map_cons, List.foldl_cons, unitSp]
      rw [nstep_nstep _ _ _ _ _ _ (by unfold wrap64; omega), ← encB_append, show (0 : Int) + 0 = 0 from rfl, ih]
      simp
  intro cs c
  have := h cs [c]
  simpa [unitSp] using this
theorem units_fold (acc : List Sp) {s : Sp} (h : spMay s = 0) : ((spAtoms s).map unitSp).foldl nstep acc = if full s = true then nstep acc s else acc := by
  obtain ⟨k, n, t⟩ := s
  rcases may_cases h with ⟨hk, ⟨m, hm, hm2⟩, ht⟩ | ⟨hk, hn, ht⟩
  · simp only at hk hm ht
    subst hm ht
    have hat : (spAtoms ⟨k, m, ⟨#[]⟩⟩).map unitSp = List.replicate m ⟨k, 1, ⟨#[]⟩⟩ := by
      rcases hk with rfl | rfl
      · simp [spAtoms, unitSp]
      · simp [spAtoms, unitSp]
    rw [hat]
    cases m with
    | zero => simp [full, spEmpty]
    | succ m =>
      rw [fold_keep k acc m (by omega)]
      have : full ⟨k, ((m + 1 : Nat) : Int), ⟨#[]⟩⟩ = true := by simp [full, spEmpty]; omega
      rw [if_pos this]
  · simp only at hk hn ht
    subst hk hn
    have hat : spAtoms ⟨2, 0, t⟩ = (cps t).map .put := by simp [spAtoms]
    rw [hat]
    obtain ⟨he, _⟩ := enc_cps t ht
    have hnil := cps_eq_nil t ht
    have hfull : full ⟨2, 0, t⟩ = !t.toList.isEmpty := by simp [full, spEmpty]
    cases hc : cps t with
    | nil =>
      have h0 : t.size = 0 := hnil.1 hc
      have : t.toList = [] := by rw [Lib.toList_data]; exact List.eq_nil_of_length_eq_zero (by rw [← size_eq]; exact h0)
      rw [hfull, this]
      simp
    | cons c cs =>
      rw [fold_put, ← hc, he]
      have : t.toList ≠ [] := by
        intro h0
        have h1 : t.size = 0 := by rw [size_eq, ← Lib.toList_data, h0]; rfl
        rw [hnil.2 h1] at hc
        cases hc
      have h2 : t.toList.isEmpty = false := by simpa using this
      rw [hfull, h2]
      simp
theorem normS_fold : ∀ (xs acc : List Sp), Valid xs → (xs.filter full).foldl nstep acc = ((atoms xs).map unitSp).foldl nstep acc
  | [], acc, _ => rfl
  | s :: xs, acc, h => by
    rw [atoms_cons, List.map_append, List.foldl_append, units_fold acc (h s (by simp)), ← normS_fold xs _ (fun x hx => h x (by simp [hx]))]
    cases hf : full s <;> simp [hf]
/-- The shortest form hangs on the steps alone. -/
theorem normS_atoms {xs : List Sp} (h : Valid xs) : normS xs = ofA (atoms xs) := normS_fold xs [] h

end Go.Proofs.YtmfpfipjhhfbhaaDoor
