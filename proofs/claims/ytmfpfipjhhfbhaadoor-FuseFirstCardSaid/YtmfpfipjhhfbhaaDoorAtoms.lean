/- Operations as rows of single steps (keep a code point, drop one, put one): the shortest form of a row of spans hangs on its steps alone, and each row of steps has one. -/
import Derived.Test.YtmfpfipjhhfbhaaDoorNormal
import Derived.Test.YtmfpfipjhhfbhaaDoorText
namespace Go.Proofs.YtmfpfipjhhfbhaaDoor
open Go.Lib Go.RowKit Go.Proofs.YtmfpfipjhhfbhaaDoorW.PrintWords

inductive At where
  | keep
  | drop
  | put (c : Nat)
def spAtoms (s : Sp) : List At :=
  if s.k = 1 then List.replicate s.n.toNat .keep else if s.k = 3 then List.replicate s.n.toNat .drop else if s.k = 2 then (cps s.t).map .put else []
def atoms (xs : List Sp) : List At := xs.flatMap spAtoms
theorem atoms_append (xs ys : List Sp) : atoms (xs ++ ys) = atoms xs ++ atoms ys := by simp [atoms]
theorem atoms_cons (s : Sp) (xs : List Sp) : atoms (s :: xs) = spAtoms s ++ atoms xs := by simp [atoms]
theorem atoms_nil : atoms [] = [] := rfl
def GoodAt : At → Prop
  | .put c => goodC c
  | _ => True
def GoodAs (l : List At) : Prop := ∀ a ∈ l, GoodAt a
def Valid (xs : List Sp) : Prop := ∀ s ∈ xs, spMay s = 0

theorem bytes_ext {s t : ByteArray} (h : s.data.toList = t.data.toList) : s = t := by
  apply ByteArray.ext; exact Array.ext' h
theorem bytes_nil {t : ByteArray} (h : t.toList = []) : t = ⟨#[]⟩ := by
  apply bytes_ext; rw [← Lib.toList_data, h]
theorem bytes_assoc (a b c : ByteArray) : a ++ b ++ c = a ++ (b ++ c) := by
  apply bytes_ext; simp
theorem bytes_nil_append (a : ByteArray) : (⟨#[]⟩ : ByteArray) ++ a = a := by
  apply bytes_ext; simp
theorem bytes_append_nil (a : ByteArray) : a ++ (⟨#[]⟩ : ByteArray) = a := by
  apply bytes_ext; simp

/-- The spans that may be, one by one. -/
theorem may_cases {s : Sp} (h : spMay s = 0) : ((s.k = 1 ∨ s.k = 3) ∧ (∃ m : Nat, s.n = m ∧ m ≤ 1048576) ∧ s.t = ⟨#[]⟩) ∨ (s.k = 2 ∧ s.n = 0 ∧ txtOk s.t = true) := by
  unfold spMay at h
  split at h
  · rename_i hk
    split at h
    · cases h
    · rename_i hn
      split at h
      · cases h
      · rename_i ht
        exact .inl ⟨hk, ⟨s.n.toNat, by omega, by omega⟩, bytes_nil (by simpa using ht)⟩
  · split at h
    · rename_i hk
      split at h
      · cases h
      · rename_i hn
        split at h
        · cases h
        · rename_i ht
          exact .inr ⟨hk, by simpa using hn, by simpa using ht⟩
    · cases h
theorem may_keep {k : Int} {m : Nat} (hk : k = 1 ∨ k = 3) (hm : m ≤ 1048576) : spMay ⟨k, m, ⟨#[]⟩⟩ = 0 := by
  unfold spMay
  simp only
  rw [if_pos hk, if_neg (by omega), if_neg (by simp)]
theorem may_put {t : ByteArray} (ht : txtOk t = true) : spMay ⟨2, 0, t⟩ = 0 := by
  unfold spMay
  simp [ht]

/-! ### one step as a span -/
def unitSp : At → Sp
  | .keep => ⟨1, 1, ⟨#[]⟩⟩
  | .drop => ⟨3, 1, ⟨#[]⟩⟩
  | .put c => ⟨2, 0, encB [c]⟩
/-- The shortest form of a row of steps. -/
def ofA (l : List At) : List Sp := (l.map unitSp).foldl nstep []

theorem wrap_add (a b : Int) : wrap64 (wrap64 a + b) = wrap64 (a + b) := by unfold wrap64; omega
theorem nstep_nstep (acc : List Sp) (k n m : Int) (t u : ByteArray) (h : wrap64 (n + m) = n + m) : nstep (nstep acc ⟨k, n, t⟩) ⟨k, m, u⟩ = nstep acc ⟨k, n + m, t ++ u⟩ := by
  cases hl : acc.getLast? with
  | none =>
    have : acc = [] := by simpa using hl
    subst this
    rw [nstep_nil, nstep_nil, nstep_same (acc := [⟨k, n, t⟩]) (l := ⟨k, n, t⟩) (s := ⟨k, m, u⟩) rfl rfl]
    simp [h]
  | some l =>
    by_cases hk : l.k = k
    · rw [nstep_same (s := ⟨k, n, t⟩) hl hk, nstep_same (s := ⟨k, n + m, t ++ u⟩) hl hk]
      refine (nstep_same (l := ⟨l.k, wrap64 (l.n + n), l.t ++ t⟩) (by simp) hk).trans ?_
      simp only [List.dropLast_concat]
      rw [wrap_add, bytes_assoc, Int.add_assoc]
    · rw [nstep_other (s := ⟨k, n, t⟩) hl hk, nstep_other (s := ⟨k, n + m, t ++ u⟩) hl hk]
      refine (nstep_same (l := ⟨k, n, t⟩) (s := ⟨k, m, u⟩) ?_ rfl).trans ?_
      · simp
      · simp [h]
theorem fold_keep (k : Int) (acc : List Sp) : ∀ m : Nat, m ≤ 1048576 → (List.replicate (m + 1) (⟨k, 1, ⟨#[]⟩⟩ : Sp)).foldl nstep acc = nstep acc ⟨k, (m + 1 : Nat), ⟨#[]⟩⟩
  | 0, _ => rfl
  | m + 1, h => by
    rw [List.replicate_succ', List.foldl_append, fold_keep k acc m (by omega)]
    simp only [List.foldl_cons, List.foldl_nil]
    rw [nstep_nstep _ _ _ _ _ _ (by unfold wrap64; omega), bytes_append_nil]
    rfl
theorem fold_put (acc : List Sp) : ∀ (cs : List Nat) (c : Nat), (((c :: cs).map At.put).map unitSp).foldl nstep acc = nstep acc ⟨2, 0, encB (c :: cs)⟩ := by
  have h : ∀ (cs ds : List Nat), ((cs.map At.put).map unitSp).foldl nstep (nstep acc ⟨2, 0, encB ds⟩) = nstep acc ⟨2, 0, encB (ds ++ cs)⟩ := by
    intro cs
    induction cs with
    | nil => intro ds; simp
    | cons c cs ih =>
      intro ds
      simp only [List.map_cons, List.foldl_cons, unitSp]
      rw [nstep_nstep _ _ _ _ _ _ (by unfold wrap64; omega), ← encB_append, show (0 : Int) + 0 = 0 from rfl, ih]
      simp
  intro cs c
  have := h cs [c]
  simpa [unitSp] using this
theorem units_fold (acc : List Sp) {s : Sp} (h : spMay s = 0) : ((spAtoms s).map unitSp).foldl nstep acc = if full s = true then nstep acc s else acc := by
  obtain ⟨k, n, t⟩ := s
  rcases may_cases h with ⟨hk, ⟨m, hm, hm2⟩, ht⟩ | ⟨hk, hn, ht⟩
  · simp only at hk hm ht
    subst hm ht
    have hat : (spAtoms ⟨k, m, ⟨#[]⟩⟩).map unitSp = List.replicate m ⟨k, 1, ⟨#[]⟩⟩ := by
      rcases hk with rfl | rfl
      · simp [spAtoms, unitSp]
      · simp [spAtoms, unitSp]
    rw [hat]
    cases m with
    | zero => simp [full, spEmpty]
    | succ m =>
      rw [fold_keep k acc m (by omega)]
      have : full ⟨k, ((m + 1 : Nat) : Int), ⟨#[]⟩⟩ = true := by simp [full, spEmpty]; omega
      rw [if_pos this]
  · simp only at hk hn ht
    subst hk hn
    have hat : spAtoms ⟨2, 0, t⟩ = (cps t).map .put := by simp [spAtoms]
    rw [hat]
    obtain ⟨he, _⟩ := enc_cps t ht
    have hnil := cps_eq_nil t ht
    have hfull : full ⟨2, 0, t⟩ = !t.toList.isEmpty := by simp [full, spEmpty]
    cases hc : cps t with
    | nil =>
      have h0 : t.size = 0 := hnil.1 hc
      have : t.toList = [] := by rw [Lib.toList_data]; exact List.eq_nil_of_length_eq_zero (by rw [← size_eq]; exact h0)
      rw [hfull, this]
      simp
    | cons c cs =>
      rw [fold_put, ← hc, he]
      have : t.toList ≠ [] := by
        intro h0
        have h1 : t.size = 0 := by rw [size_eq, ← Lib.toList_data, h0]; rfl
        rw [hnil.2 h1] at hc
        cases hc
      have h2 : t.toList.isEmpty = false := by simpa using this
      rw [hfull, h2]
      simp
theorem normS_fold : ∀ (xs acc : List Sp), Valid xs → (xs.filter full).foldl nstep acc = ((atoms xs).map unitSp).foldl nstep acc
  | [], acc, _ => rfl
  | s :: xs, acc, h => by
    rw [atoms_cons, List.map_append, List.foldl_append, units_fold acc (h s (by simp)), ← normS_fold xs _ (fun x hx => h x (by simp [hx]))]
    cases hf : full s <;> simp [hf]
/-- The shortest form hangs on the steps alone. -/
theorem normS_atoms {xs : List Sp} (h : Valid xs) : normS xs = ofA (atoms xs) := normS_fold xs [] h

end Go.Proofs.YtmfpfipjhhfbhaaDoor

/- The shortest form of a row of steps: its steps are these; it may be; it has no empty span and no two of one kind side by side; how many code points it takes and gives. -/
namespace Go.Proofs.YtmfpfipjhhfbhaaDoor
open Go.Lib Go.RowKit Go.Proofs.YtmfpfipjhhfbhaaDoorW.PrintWords

/-- A span of a shortest form. -/
def El (s : Sp) : Prop :=
  ((s.k = 1 ∨ s.k = 3) ∧ (∃ m : Nat, 0 < m ∧ s.n = m) ∧ s.t = ⟨#[]⟩) ∨ (s.k = 2 ∧ s.n = 0 ∧ ∃ c cs, (∀ x ∈ c :: cs, goodC x) ∧ s.t = encB (c :: cs))
def Alt (xs : List Sp) : Prop := ∀ j a b, xs[j]? = some a → xs[j + 1]? = some b → a.k ≠ b.k
structure Canon (xs : List Sp) : Prop where
  el : ∀ s ∈ xs, El s
  alt : Alt xs

theorem El.atoms_pos {s : Sp} (h : El s) : 0 < (spAtoms s).length := by
  rcases h with ⟨hk, ⟨m, h0, hm⟩, _⟩ | ⟨hk, _, c, cs, hg, ht⟩
  · rcases hk with hk | hk <;> simp [spAtoms, hk, hm] <;> omega
  · simp [spAtoms, hk, ht, cps_enc _ hg]
theorem El.n_le {s : Sp} (h : El s) : 0 ≤ s.n ∧ s.n ≤ (spAtoms s).length := by
  rcases h with ⟨hk, ⟨m, h0, hm⟩, _⟩ | ⟨hk, h0, _⟩
  · rcases hk with hk | hk <;> simp [spAtoms, hk, hm]
  · omega
theorem unit_el {a : At} (h : GoodAt a) : El (unitSp a) := by
  cases a with
  | keep => exact .inl ⟨.inl rfl, ⟨1, by omega, rfl⟩, rfl⟩
  | drop => exact .inl ⟨.inr rfl, ⟨1, by omega, rfl⟩, rfl⟩
  | put c => exact .inr ⟨rfl, rfl, c, [], fun x hx => by simp at hx; subst hx; exact h, rfl⟩
theorem unit_atoms {a : At} (h : GoodAt a) : spAtoms (unitSp a) = [a] := by
  cases a with
  | keep => rfl
  | drop => rfl
  | put c =>
    have : cps (encB [c]) = [c] := cps_enc [c] (fun x hx => by simp at hx; subst hx; exact h)
    simp [spAtoms, unitSp, this]
/-- Two spans of one kind put together. -/
theorem el_join {l s : Sp} (hl : El l) (hs : El s) (hk : l.k = s.k) (hb : (spAtoms l).length + (spAtoms s).length ≤ 4611686018427387904) :
    El ⟨l.k, wrap64 (l.n + s.n), l.t ++ s.t⟩ ∧ spAtoms ⟨l.k, wrap64 (l.n + s.n), l.t ++ s.t⟩ = spAtoms l ++ spAtoms s := by
  have h1 := hl.n_le
  have h2 := hs.n_le
  have hw : wrap64 (l.n + s.n) = l.n + s.n := by unfold wrap64; omega
  rw [hw]
  rcases hl with ⟨lk, ⟨m, h0, hm⟩, lt⟩ | ⟨lk, ln, c, cs, hg, lt⟩
  · rcases hs with ⟨sk, ⟨m', h0', hm'⟩, st⟩ | ⟨sk, _⟩
    · refine ⟨.inl ⟨lk, ⟨m + m', by omega, by simp [hm, hm']⟩, by simp [lt, st, bytes_append_nil]⟩, ?_⟩
      rcases lk with lk | lk
      · have sk' : s.k = 1 := by omega
        simp [spAtoms, lk, sk', hm, hm', Int.toNat_add]
      · have sk' : s.k = 3 := by omega
        simp [spAtoms, lk, sk', hm, hm', Int.toNat_add]
    · omega
  · rcases hs with ⟨sk, _⟩ | ⟨sk, sn, c', cs', hg', st⟩
    · omega
    · have hg2 : ∀ x ∈ c :: cs ++ c' :: cs', goodC x := by
        intro x hx
        rcases List.mem_append.1 hx with hx | hx
        · exact hg x hx
        · exact hg' x hx
      have he : l.t ++ s.t = encB (c :: cs ++ c' :: cs') := by rw [encB_append, lt, st]
      refine ⟨.inr ⟨lk, by simp [ln, sn], c, cs ++ c' :: cs', by simpa using hg2, by rw [he]; rfl⟩, ?_⟩
      have e1 : spAtoms l = (c :: cs).map .put := by simp only [spAtoms, lk, lt, cps_enc _ hg]; rfl
      have e2 : spAtoms s = (c' :: cs').map .put := by simp only [spAtoms, sk, st, cps_enc _ hg']; rfl
      rw [e1, e2, ← List.map_append]
      simp only [spAtoms, lk, he, cps_enc _ hg2]
      rfl
theorem alt_snoc {xs : List Sp} {s : Sp} (h : Alt xs) (hl : ∀ l, xs.getLast? = some l → l.k ≠ s.k) : Alt (xs ++ [s]) := by
  intro j a b ha hb
  have hj := (List.getElem?_eq_some_iff.1 hb).1
  simp at hj
  rcases Nat.lt_or_ge (j + 1) xs.length with h1 | h1
  · rw [List.getElem?_append_left (by omega)] at ha
    rw [List.getElem?_append_left h1] at hb
    exact h j a b ha hb
  · have hj1 : j + 1 = xs.length := by omega
    rw [List.getElem?_append_left (by omega)] at ha
    rw [List.getElem?_append_right h1] at hb
    have : s = b := by simpa [hj1] using hb
    subst this
    refine hl a ?_
    rw [List.getLast?_eq_getElem?, show xs.length - 1 = j by omega]
    exact ha
theorem alt_last {ys : List Sp} {l l' : Sp} (h : Alt (ys ++ [l])) (hk : l.k = l'.k) : Alt (ys ++ [l']) := by
  intro j a b ha hb
  have hj := (List.getElem?_eq_some_iff.1 hb).1
  simp at hj
  rcases Nat.lt_or_ge (j + 1) ys.length with h1 | h1
  · rw [List.getElem?_append_left (by omega)] at ha
    rw [List.getElem?_append_left h1] at hb
    refine h j a b ?_ ?_
    · rw [List.getElem?_append_left (by omega)]; exact ha
    · rw [List.getElem?_append_left h1]; exact hb
  · have hj1 : j + 1 = ys.length := by omega
    rw [List.getElem?_append_left (by omega)] at ha
    rw [List.getElem?_append_right h1] at hb
    have : l' = b := by simpa [hj1] using hb
    subst this
    rw [← hk]
    refine h j a l ?_ ?_
    · rw [List.getElem?_append_left (by omega)]; exact ha
    · rw [List.getElem?_append_right h1]; simp [hj1]
theorem nstep_canon {acc : List Sp} {s : Sp} (h : Canon acc) (hs : El s) (hb : (atoms acc).length + (spAtoms s).length ≤ 4611686018427387904) :
    Canon (nstep acc s) ∧ atoms (nstep acc s) = atoms acc ++ spAtoms s := by
  cases hl : acc.getLast? with
  | none =>
    have : acc = [] := by simpa using hl
    subst this
    rw [nstep_nil]
    refine ⟨⟨by simpa using hs, fun j a b _ hb => by simp at hb⟩, by simp [atoms]⟩
  | some l =>
    obtain ⟨ys, rfl⟩ := List.getLast?_eq_some_iff.1 hl
    by_cases hk : l.k = s.k
    · rw [nstep_same hl hk]
      rw [atoms_append] at hb
      simp only [atoms_cons, atoms_nil, List.append_nil, List.length_append] at hb
      obtain ⟨j1, j2⟩ := el_join (h.el l (by simp)) hs hk (by omega)
      rw [List.dropLast_concat]
      refine ⟨⟨?_, alt_last h.alt rfl⟩, ?_⟩
      · intro x hx
        rcases List.mem_append.1 hx with hx | hx
        · exact h.el x (by simp [hx])
        · simp at hx; subst hx; exact j1
      · rw [atoms_append, atoms_append, atoms_cons, atoms_cons, j2]
        simp [atoms_nil]
    · rw [nstep_other hl hk]
      refine ⟨⟨?_, alt_snoc h.alt (fun l' hl' => ?_)⟩, by rw [atoms_append (ys ++ [l])]; simp [atoms]⟩
      · intro x hx
        rcases List.mem_append.1 hx with hx | hx
        · exact h.el x hx
        · simp at hx; subst hx; exact hs
      · rw [hl] at hl'
        obtain rfl := Option.some.inj hl'
        exact hk
theorem fold_canon : ∀ (l : List At) (acc : List Sp), GoodAs l → Canon acc → (atoms acc).length + l.length ≤ 4611686018427387904 →
    Canon ((l.map unitSp).foldl nstep acc) ∧ atoms ((l.map unitSp).foldl nstep acc) = atoms acc ++ l
  | [], acc, _, h, _ => by simpa using h
  | a :: l, acc, hg, h, hb => by
    have ha : GoodAt a := hg a (by simp)
    have h1 := unit_atoms ha
    simp only [List.length_cons] at hb
    obtain ⟨c1, c2⟩ := nstep_canon h (unit_el ha) (by rw [h1]; simp; omega)
    obtain ⟨d1, d2⟩ := fold_canon l _ (fun x hx => hg x (by simp [hx])) c1 (by rw [c2, h1]; simp; omega)
    simp only [List.map_cons, List.foldl_cons]
    refine ⟨d1, ?_⟩
    rw [d2, c2, h1]
    simp
theorem canon_nil : Canon [] := ⟨by simp, fun j a b h => by simp at h⟩
/-- The shortest form of a row of steps is one, and has these steps. -/
theorem ofA_canon {l : List At} (hg : GoodAs l) (hb : l.length ≤ 4611686018427387904) : Canon (ofA l) := (fold_canon l [] hg canon_nil (by simpa [atoms] using hb)).1
theorem atoms_ofA {l : List At} (hg : GoodAs l) (hb : l.length ≤ 4611686018427387904) : atoms (ofA l) = l :=
  (fold_canon l [] hg canon_nil (by simpa [atoms] using hb)).2

/-- What may be has good steps; so has each shortest form of few steps. -/
theorem good_atoms {xs : List Sp} (h : Valid xs) : GoodAs (atoms xs) := by
  intro a ha
  obtain ⟨s, hs, ha⟩ := List.mem_flatMap.1 ha
  rcases may_cases (h s hs) with ⟨hk, _, _⟩ | ⟨hk, _, ht⟩
  · rcases hk with hk | hk
    · simp [spAtoms, hk] at ha; rw [ha.2]; trivial
    · simp [spAtoms, hk] at ha; rw [ha.2]; trivial
  · simp [spAtoms, hk] at ha
    obtain ⟨c, hc, rfl⟩ := ha
    exact (enc_cps _ ht).2 c hc
theorem el_may {s : Sp} (h : El s) (hb : (spAtoms s).length ≤ 1048576) : spMay s = 0 := by
  have hn := h.n_le
  obtain ⟨k, n, t⟩ := s
  rcases h with ⟨hk, ⟨m, h0, hm⟩, ht⟩ | ⟨hk, h0, c, cs, hg, ht⟩
  · simp only at hk hm ht hn
    subst hm ht
    exact may_keep hk (by omega)
  · simp only at hk h0 ht
    subst hk h0
    exact may_put (by rw [ht]; exact validD_encB _ hg)
theorem length_le_atoms {xs : List Sp} {s : Sp} (h : s ∈ xs) : (spAtoms s).length ≤ (atoms xs).length := by
  induction xs with
  | nil => cases h
  | cons x xs ih =>
    rw [atoms_cons, List.length_append]
    rcases List.mem_cons.1 h with rfl | h
    · omega
    · have := ih h; omega
theorem canon_valid {xs : List Sp} (h : Canon xs) (hb : (atoms xs).length ≤ 1048576) : Valid xs := fun s hs => el_may (h.el s hs) (Nat.le_trans (length_le_atoms hs) hb)
theorem canon_length : ∀ {xs : List Sp}, (∀ s ∈ xs, El s) → xs.length ≤ (atoms xs).length
  | [], _ => Nat.zero_le _
  | s :: xs, h => by
    have h1 := canon_length (xs := xs) (fun x hx => h x (by simp [hx]))
    have h2 := (h s (by simp)).atoms_pos
    rw [atoms_cons, List.length_append, List.length_cons]
    omega
theorem El.bytes {s : Sp} (h : El s) : s.t.size ≤ 4 * (spAtoms s).length := by
  rcases h with ⟨_, _, ht⟩ | ⟨hk, _, c, cs, hg, ht⟩
  · rw [ht]; exact Nat.zero_le _
  · rw [ht, encB_size]
    have := (encL_length (c :: cs)).2
    simpa [spAtoms, hk, ht, cps_enc _ hg] using this
theorem canon_bytes : ∀ {xs : List Sp}, (∀ s ∈ xs, El s) → bytesL xs ≤ 4 * (atoms xs).length
  | [], _ => Nat.zero_le _
  | s :: xs, h => by
    have h1 := canon_bytes (xs := xs) (fun x hx => h x (by simp [hx]))
    have h2 := (h s (by simp)).bytes
    have e : bytesL (s :: xs) = s.t.size + bytesL xs := by simp [bytesL]
    rw [atoms_cons, List.length_append, e]
    omega

/-! ### how many code points are taken, given, dropped, put -/
def inA : List At → Nat
  | [] => 0
  | .put _ :: l => inA l
  | _ :: l => inA l + 1
def outA : List At → Nat
  | [] => 0
  | .drop :: l => outA l
  | _ :: l => outA l + 1
theorem inA_append : ∀ a b : List At, inA (a ++ b) = inA a + inA b
  | [], b => by simp [inA]
  | .keep :: a, b => by simp [inA, inA_append a b]; omega
  | .drop :: a, b => by simp [inA, inA_append a b]; omega
  | .put _ :: a, b => by simp [inA, inA_append a b]
theorem outA_append : ∀ a b : List At, outA (a ++ b) = outA a + outA b
  | [], b => by simp [outA]
  | .keep :: a, b => by simp [outA, outA_append a b]; omega
  | .drop :: a, b => by simp [outA, outA_append a b]
  | .put _ :: a, b => by simp [outA, outA_append a b]; omega
theorem inA_le (l : List At) : inA l ≤ l.length := by
  induction l with
  | nil => exact Nat.le_refl _
  | cons a l ih => cases a <;> simp [inA] <;> omega
theorem outA_le (l : List At) : outA l ≤ l.length := by
  induction l with
  | nil => exact Nat.le_refl _
  | cons a l ih => cases a <;> simp [outA] <;> omega
theorem inA_keeps (n : Nat) : inA (List.replicate n .keep) = n := by induction n with | zero => rfl | succ n ih => simp [List.replicate_succ, inA, ih]
theorem inA_drops (n : Nat) : inA (List.replicate n .drop) = n := by induction n with | zero => rfl | succ n ih => simp [List.replicate_succ, inA, ih]
theorem inA_puts (cs : List Nat) : inA (cs.map .put) = 0 := by induction cs with | nil => rfl | cons c cs ih => simpa [inA] using ih
theorem outA_keeps (n : Nat) : outA (List.replicate n .keep) = n := by induction n with | zero => rfl | succ n ih => simp [List.replicate_succ, outA, ih]
theorem outA_drops (n : Nat) : outA (List.replicate n .drop) = 0 := by induction n with | zero => rfl | succ n ih => simp [List.replicate_succ, outA, ih]
theorem outA_puts (cs : List Nat) : outA (cs.map .put) = cs.length := by induction cs with | nil => rfl | cons c cs ih => simp [outA, ih]
theorem spIn_atoms {s : Sp} (h : spMay s = 0) : spIn s = inA (spAtoms s) := by
  rcases may_cases h with ⟨hk, ⟨m, hm, _⟩, _⟩ | ⟨hk, _, _⟩
  · rcases hk with hk | hk
    · simp [spIn, spAtoms, hk, hm, inA_keeps]
    · simp [spIn, spAtoms, hk, hm, inA_drops]
  · simp [spIn, spAtoms, hk, inA_puts]
theorem txtCount_cps {t : ByteArray} (h : txtOk t = true) : txtCount t = (cps t).length := by
  unfold txtCount; rw [if_pos h, runeCount_cps]
theorem spOut_atoms {s : Sp} (h : spMay s = 0) : spOut s = outA (spAtoms s) := by
  rcases may_cases h with ⟨hk, ⟨m, hm, _⟩, _⟩ | ⟨hk, _, ht⟩
  · rcases hk with hk | hk
    · simp [spOut, spAtoms, hk, hm, outA_keeps]
    · simp [spOut, spAtoms, hk, outA_drops]
  · simp [spOut, spAtoms, hk, outA_puts, txtCount_cps ht]
theorem sumW_small (m : Sp → Int) (c : Sp → Nat) : ∀ (xs ys : List Sp), (∀ s ∈ ys, m s = c s) → sumW m xs + ((ys.map c).sum : Nat) ≤ 9223372036854775807 → 0 ≤ sumW m xs → sumW m (xs ++ ys) = sumW m xs + ((ys.map c).sum : Nat)
  | xs, [], _, _, _ => by simp
  | xs, y :: ys, h, hb, h0 => by
    have hy := h y (by simp)
    simp only [List.map_cons, List.sum_cons] at hb ⊢
    have e : sumW m (xs ++ [y]) = sumW m xs + c y := by
      rw [sumW_snoc, hy]
      unfold wrap64; omega
    have := sumW_small m c (xs ++ [y]) ys (fun s hs => h s (by simp [hs])) (by rw [e]; omega) (by rw [e]; omega)
    rw [List.append_assoc, List.singleton_append] at this
    rw [this, e]
    omega
theorem sum_in : ∀ xs : List Sp, (xs.map fun s => inA (spAtoms s)).sum = inA (atoms xs)
  | [] => rfl
  | s :: xs => by rw [List.map_cons, List.sum_cons, sum_in xs, atoms_cons, inA_append]
theorem sum_out : ∀ xs : List Sp, (xs.map fun s => outA (spAtoms s)).sum = outA (atoms xs)
  | [] => rfl
  | s :: xs => by rw [List.map_cons, List.sum_cons, sum_out xs, atoms_cons, outA_append]
theorem opIn_atoms {xs : List Sp} (h : Valid xs) (hb : inA (atoms xs) ≤ 9223372036854775807) : sumW spIn xs = inA (atoms xs) := by
  have := sumW_small spIn (fun s => inA (spAtoms s)) [] xs (fun s hs => spIn_atoms (h s hs)) (by rw [sum_in]; simp [sumW]; omega) (by simp [sumW])
  rw [sum_in] at this
  simpa [sumW] using this
theorem opOut_atoms {xs : List Sp} (h : Valid xs) (hb : outA (atoms xs) ≤ 9223372036854775807) : sumW spOut xs = outA (atoms xs) := by
  have := sumW_small spOut (fun s => outA (spAtoms s)) [] xs (fun s hs => spOut_atoms (h s hs)) (by rw [sum_out]; simp [sumW]; omega) (by simp [sumW])
  rw [sum_out] at this
  simpa [sumW] using this
theorem opMayF_valid : ∀ {xs : List Sp}, opMayF xs = 0 ↔ Valid xs
  | [] => by simp [opMayF, Valid]
  | s :: xs => by
    have ih := opMayF_valid (xs := xs)
    unfold opMayF
    constructor
    · intro h
      by_cases hs : spMay s = 0
      · rw [if_pos hs] at h
        intro x hx
        rcases List.mem_cons.1 hx with rfl | hx
        · exact hs
        · exact ih.1 h x hx
      · rw [if_neg hs] at h
        exact absurd h hs
    · intro h
      rw [if_pos (h s (by simp))]
      exact ih.2 (fun x hx => h x (by simp [hx]))
theorem atoms_in_le {xs : List Sp} (h : Valid xs) : inA (atoms xs) ≤ 1048576 * xs.length := by
  induction xs with
  | nil => exact Nat.le_refl _
  | cons s xs ih =>
    have h1 := ih (fun x hx => h x (by simp [hx]))
    rw [atoms_cons, inA_append, List.length_cons]
    have h2 : inA (spAtoms s) ≤ 1048576 := by
      rcases may_cases (h s (by simp)) with ⟨hk, ⟨m, hm, hm2⟩, _⟩ | ⟨hk, _, _⟩
      · rcases hk with hk | hk
        · simp [spAtoms, hk, hm, inA_keeps]; omega
        · simp [spAtoms, hk, hm, inA_drops]; omega
      · simp [spAtoms, hk, inA_puts]
    omega
/-- op.May tells no error just of what may be. -/
theorem opMay_zero {xs : List Sp} (hl : xs.length ≤ 4398046511104) : opMay xs = 0 ↔ Valid xs ∧ inA (atoms xs) ≤ 1048576 := by
  unfold opMay
  constructor
  · intro h
    split at h
    · rename_i h0
      have hv := opMayF_valid.1 h0
      have hi := opIn_atoms hv (by have := atoms_in_le hv; omega)
      split at h
      · cases h
      · exact ⟨hv, by omega⟩
    · rename_i h0
      exact absurd h h0
  · rintro ⟨hv, hb⟩
    rw [if_pos (opMayF_valid.2 hv), if_neg (by rw [opIn_atoms hv (by omega)]; omega)]

end Go.Proofs.YtmfpfipjhhfbhaaDoor
