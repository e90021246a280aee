/- The algebra of rows of steps: two as one (compA), one behind another (overA), one that came first behind another (underA), and what they do to a text. No program in sight. -/
import Derived.Test.YtmfpfipjhhfbhaaDoorAtoms
namespace Go.Proofs.YtmfpfipjhhfbhaaDoor

/-- No text is put at once. -/
def NP : List At → Prop
  | .put _ :: _ => False
  | _ => True
/-- a behind s, which came first. -/
def overA (a s : List At) : List At :=
  match a, s with
  | a, .put _ :: s => .keep :: overA a s
  | .put c :: a, s => .put c :: overA a s
  | x :: a, .keep :: s => x :: overA a s
  | _ :: a, .drop :: s => overA a s
  | _, _ => []
termination_by a.length + s.length
/-- s, which came first, behind a. -/
def underA (s a : List At) : List At :=
  match s, a with
  | .put c :: s, a => .put c :: underA s a
  | s, .put _ :: a => .keep :: underA s a
  | x :: s, .keep :: a => x :: underA s a
  | _ :: s, .drop :: a => underA s a
  | _, _ => []
termination_by s.length + a.length
/-- What a gives, and b makes of it. -/
def compA (a b : List At) : List At :=
  match a, b with
  | a, .put c :: b => .put c :: compA a b
  | .drop :: a, b => .drop :: compA a b
  | x :: a, .keep :: b => x :: compA a b
  | .keep :: a, .drop :: b => .drop :: compA a b
  | .put _ :: a, .drop :: b => compA a b
  | _, _ => []
termination_by a.length + b.length
/-- What a row of steps makes of a text. -/
def applyA : List At → List Nat → List Nat
  | .put c :: l, u => c :: applyA l u
  | .keep :: l, x :: u => x :: applyA l u
  | .drop :: l, _ :: u => applyA l u
  | _, _ => []

theorem over_sput (a : List At) (c : Nat) (s : List At) : overA a (.put c :: s) = .keep :: overA a s := by rw [overA]
theorem over_aput (c : Nat) (a s : List At) (h : NP s) : overA (.put c :: a) s = .put c :: overA a s := by
  match s, h with
  | [], _ => rw [overA]; intro _ _ h; cases h
  | .keep :: s, _ => rw [overA]; intro _ _ h; cases h
  | .drop :: s, _ => rw [overA]; intro _ _ h; cases h
theorem over_xk (x : At) (hx : NP [x]) (a s : List At) : overA (x :: a) (.keep :: s) = x :: overA a s := by
  match x, hx with
  | .keep, _ => rw [overA]; intro _ h; cases h
  | .drop, _ => rw [overA]; intro _ h; cases h
theorem over_xd (x : At) (hx : NP [x]) (a s : List At) : overA (x :: a) (.drop :: s) = overA a s := by
  match x, hx with
  | .keep, _ => rw [overA]; intro _ h; cases h
  | .drop, _ => rw [overA]; intro _ h; cases h
theorem over_nn : overA [] [] = [] := by rw [overA] <;> intros <;> simp_all
theorem under_sput (c : Nat) (s a : List At) : underA (.put c :: s) a = .put c :: underA s a := by rw [underA]
theorem under_aput (s : List At) (c : Nat) (a : List At) (h : NP s) : underA s (.put c :: a) = .keep :: underA s a := by
  match s, h with
  | [], _ => rw [underA]; intro _ _ h; cases h
  | .keep :: s, _ => rw [underA]; intro _ _ h; cases h
  | .drop :: s, _ => rw [underA]; intro _ _ h; cases h
theorem under_xk (x : At) (hx : NP [x]) (s a : List At) : underA (x :: s) (.keep :: a) = x :: underA s a := by
  match x, hx with
  | .keep, _ => rw [underA]; intro _ h; cases h
  | .drop, _ => rw [underA]; intro _ h; cases h
theorem under_xd (x : At) (hx : NP [x]) (s a : List At) : underA (x :: s) (.drop :: a) = underA s a := by
  match x, hx with
  | .keep, _ => rw [underA]; intro _ h; cases h
  | .drop, _ => rw [underA]; intro _ h; cases h
theorem under_nn : underA [] [] = [] := by rw [underA] <;> intros <;> simp_all
theorem comp_bput (a : List At) (c : Nat) (b : List At) : compA a (.put c :: b) = .put c :: compA a b := by rw [compA]
theorem comp_adrop (a b : List At) (h : NP b) : compA (.drop :: a) b = .drop :: compA a b := by
  match b, h with
  | [], _ => rw [compA]; intro _ _ h; cases h
  | .keep :: b, _ => rw [compA]; intro _ _ h; cases h
  | .drop :: b, _ => rw [compA]; intro _ _ h; cases h
/-- It gives a code point. -/
def Giv : At → Prop
  | .drop => False
  | _ => True
theorem comp_xk (x : At) (hx : Giv x) (a b : List At) : compA (x :: a) (.keep :: b) = x :: compA a b := by
  match x, hx with
  | .keep, _ => rw [compA]; intro h; cases h
  | .put c, _ => rw [compA]; intro h; cases h
theorem comp_kd (a b : List At) : compA (.keep :: a) (.drop :: b) = .drop :: compA a b := by rw [compA]
theorem comp_pd (c : Nat) (a b : List At) : compA (.put c :: a) (.drop :: b) = compA a b := by rw [compA]
theorem comp_nn : compA [] [] = [] := by rw [compA] <;> intros <;> simp_all

/-! ### an operation behind two others is behind the one that these come to -/
theorem over_comp : ∀ (n : Nat) (x s t : List At), x.length + s.length + t.length ≤ n → inA x = inA s → outA s = inA t → overA x (compA s t) = overA (overA x s) t := by
  intro n
  induction n with
  | zero =>
    intro x s t hn _ _
    obtain rfl : x = [] := List.eq_nil_of_length_eq_zero (by omega)
    obtain rfl : s = [] := List.eq_nil_of_length_eq_zero (by omega)
    obtain rfl : t = [] := List.eq_nil_of_length_eq_zero (by omega)
    rw [comp_nn, over_nn, over_nn]
  | succ n ih =>
    intro x s t hn hi ho
    match t with
    | .put c :: t =>
      simp only [List.length_cons] at hn
      simp only [inA] at ho
      rw [comp_bput, over_sput, over_sput, ih x s t (by omega) hi ho]
    | [] =>
      match s with
      | .drop :: s =>
        rw [comp_adrop _ _ (by trivial)]
        simp only [List.length_cons] at hn
        match x with
        | .put c :: x =>
          simp only [List.length_cons] at hn
          simp only [inA] at hi
          have := ih x (.drop :: s) [] (by simp only [List.length_cons]; omega) (by simpa [inA] using hi) (by simpa [outA] using ho)
          rw [comp_adrop _ _ (by trivial)] at this
          rw [over_aput _ _ _ (by trivial), over_aput _ _ _ (by trivial), over_aput _ _ _ (by trivial), this]
        | .keep :: x =>
          simp only [List.length_cons] at hn
          simp only [inA] at hi
          rw [over_xd _ (by trivial), over_xd _ (by trivial), ih x s [] (by omega) (by omega) (by simpa [outA] using ho)]
        | .drop :: x =>
          simp only [List.length_cons] at hn
          simp only [inA] at hi
          rw [over_xd _ (by trivial), over_xd _ (by trivial), ih x s [] (by omega) (by omega) (by simpa [outA] using ho)]
        | [] => simp [inA] at hi
      | .keep :: s => simp [outA, inA] at ho
      | .put c :: s => simp [outA, inA] at ho
      | [] =>
        match x with
        | .put c :: x =>
          simp only [List.length_cons] at hn
          simp only [inA] at hi
          have := ih x [] [] (by omega) (by simpa [inA] using hi) rfl
          rw [comp_nn] at this ⊢
          rw [over_aput _ _ _ (by trivial), over_aput _ _ _ (by trivial)]
          exact congrArg _ this
        | .keep :: x => simp [inA] at hi
        | .drop :: x => simp [inA] at hi
        | [] => rw [comp_nn, over_nn, over_nn]
    | .keep :: t =>
      match s with
      | .drop :: s =>
        rw [comp_adrop _ _ (by trivial)]
        simp only [List.length_cons] at hn
        match x with
        | .put c :: x =>
          simp only [List.length_cons] at hn
          simp only [inA] at hi
          have := ih x (.drop :: s) (.keep :: t) (by simp only [List.length_cons]; omega) (by simpa [inA] using hi) (by simpa [outA] using ho)
          rw [comp_adrop _ _ (by trivial)] at this
          rw [over_aput _ _ _ (by trivial), over_aput _ _ _ (by trivial), over_aput _ _ _ (by trivial), this]
        | .keep :: x =>
          simp only [List.length_cons] at hn
          simp only [inA] at hi
          rw [over_xd _ (by trivial), over_xd _ (by trivial), ih x s (.keep :: t) (by simp only [List.length_cons]; omega) (by omega) (by simpa [outA] using ho)]
        | .drop :: x =>
          simp only [List.length_cons] at hn
          simp only [inA] at hi
          rw [over_xd _ (by trivial), over_xd _ (by trivial), ih x s (.keep :: t) (by simp only [List.length_cons]; omega) (by omega) (by simpa [outA] using ho)]
        | [] => simp [inA] at hi
      | .put c :: s =>
        simp only [List.length_cons] at hn
        simp only [inA] at hi ho
        simp only [outA] at ho
        rw [comp_xk _ (by trivial), over_sput, over_sput, over_xk _ (by trivial), ih x s t (by omega) hi (by omega)]
      | .keep :: s =>
        simp only [List.length_cons] at hn
        simp only [inA] at hi ho
        simp only [outA] at ho
        rw [comp_xk _ (by trivial)]
        match x with
        | .put c :: x =>
          simp only [List.length_cons] at hn
          simp only [inA] at hi
          have := ih x (.keep :: s) (.keep :: t) (by simp only [List.length_cons]; omega) (by simpa [inA] using hi) (by simp only [outA, inA]; omega)
          rw [comp_xk _ (by trivial)] at this
          rw [over_aput _ _ _ (by trivial), over_aput _ _ _ (by trivial), over_aput _ _ _ (by trivial), this]
        | .keep :: x =>
          simp only [List.length_cons] at hn
          simp only [inA] at hi
          rw [over_xk _ (by trivial), over_xk _ (by trivial), over_xk _ (by trivial), ih x s t (by omega) (by omega) (by omega)]
        | .drop :: x =>
          simp only [List.length_cons] at hn
          simp only [inA] at hi
          rw [over_xk _ (by trivial), over_xk _ (by trivial), over_xk _ (by trivial), ih x s t (by omega) (by omega) (by omega)]
        | [] => simp [inA] at hi
      | [] => simp [outA, inA] at ho
    | .drop :: t =>
      match s with
      | .drop :: s =>
        rw [comp_adrop _ _ (by trivial)]
        simp only [List.length_cons] at hn
        match x with
        | .put c :: x =>
          simp only [List.length_cons] at hn
          simp only [inA] at hi
          have := ih x (.drop :: s) (.drop :: t) (by simp only [List.length_cons]; omega) (by simpa [inA] using hi) (by simpa [outA] using ho)
          rw [comp_adrop _ _ (by trivial)] at this
          rw [over_aput _ _ _ (by trivial), over_aput _ _ _ (by trivial), over_aput _ _ _ (by trivial), this]
        | .keep :: x =>
          simp only [List.length_cons] at hn
          simp only [inA] at hi
          rw [over_xd _ (by trivial), over_xd _ (by trivial), ih x s (.drop :: t) (by simp only [List.length_cons]; omega) (by omega) (by simpa [outA] using ho)]
        | .drop :: x =>
          simp only [List.length_cons] at hn
          simp only [inA] at hi
          rw [over_xd _ (by trivial), over_xd _ (by trivial), ih x s (.drop :: t) (by simp only [List.length_cons]; omega) (by omega) (by simpa [outA] using ho)]
        | [] => simp [inA] at hi
      | .put c :: s =>
        simp only [List.length_cons] at hn
        simp only [inA] at hi ho
        simp only [outA] at ho
        rw [comp_pd, over_sput, over_xd _ (by trivial), ih x s t (by omega) hi (by omega)]
      | .keep :: s =>
        simp only [List.length_cons] at hn
        simp only [inA] at hi ho
        simp only [outA] at ho
        rw [comp_kd]
        match x with
        | .put c :: x =>
          simp only [List.length_cons] at hn
          simp only [inA] at hi
          have := ih x (.keep :: s) (.drop :: t) (by simp only [List.length_cons]; omega) (by simpa [inA] using hi) (by simp only [outA, inA]; omega)
          rw [comp_kd] at this
          rw [over_aput _ _ _ (by trivial), over_aput _ _ _ (by trivial), over_aput _ _ _ (by trivial), this]
        | .keep :: x =>
          simp only [List.length_cons] at hn
          simp only [inA] at hi
          rw [over_xd _ (by trivial), over_xk _ (by trivial), over_xd _ (by trivial), ih x s t (by omega) (by omega) (by omega)]
        | .drop :: x =>
          simp only [List.length_cons] at hn
          simp only [inA] at hi
          rw [over_xd _ (by trivial), over_xk _ (by trivial), over_xd _ (by trivial), ih x s t (by omega) (by omega) (by omega)]
        | [] => simp [inA] at hi
      | [] => simp [outA, inA] at ho

end Go.Proofs.YtmfpfipjhhfbhaaDoor

/- The algebra of rows of steps: of three operations it does not matter which two are made one first; what two that are made one do to a text; both meet. -/
namespace Go.Proofs.YtmfpfipjhhfbhaaDoor

theorem comp_np : ∀ (b c : List At), NP b → NP c → NP (compA b c)
  | [], [], _, _ => by rw [comp_nn]; trivial
  | [], .keep :: c, _, _ => by rw [compA] <;> first | trivial | (intros; simp_all)
  | [], .drop :: c, _, _ => by rw [compA] <;> first | trivial | (intros; simp_all)
  | .drop :: b, c, _, hc => by rw [comp_adrop _ _ hc]; trivial
  | .keep :: b, [], _, _ => by rw [compA] <;> first | trivial | (intros; simp_all)
  | .keep :: b, .keep :: c, _, _ => by rw [comp_xk _ (by trivial)]; trivial
  | .keep :: b, .drop :: c, _, _ => by rw [comp_kd]; trivial
  | .put _ :: b, c, hb, _ => hb.elim
  | b, .put _ :: c, _, hc => hc.elim

theorem comp_assoc : ∀ (n : Nat) (a b c : List At), a.length + b.length + c.length ≤ n → outA a = inA b → outA b = inA c → compA (compA a b) c = compA a (compA b c) := by
  intro n
  induction n with
  | zero =>
    intro a b c hn _ _
    obtain rfl : a = [] := List.eq_nil_of_length_eq_zero (by omega)
    obtain rfl : b = [] := List.eq_nil_of_length_eq_zero (by omega)
    obtain rfl : c = [] := List.eq_nil_of_length_eq_zero (by omega)
    rw [comp_nn]
  | succ n ih =>
    intro a b c hn h1 h2
    have hcase : ∀ (c' : List At), NP c' → c = c' → compA (compA a b) c = compA a (compA b c) := by
      intro c' hc e
      subst e
      match b with
      | .put e :: b =>
        simp only [List.length_cons] at hn
        simp only [inA] at h1
        simp only [outA] at h2
        rw [comp_bput]
        match c, hc with
        | .keep :: c, _ =>
          simp only [List.length_cons] at hn
          simp only [inA] at h2
          rw [comp_xk _ (by trivial), comp_xk _ (by trivial), comp_bput, ih a b c (by omega) h1 (by omega)]
        | .drop :: c, _ =>
          simp only [List.length_cons] at hn
          simp only [inA] at h2
          rw [comp_pd, comp_pd, ih a b c (by omega) h1 (by omega)]
        | [], _ => simp [inA] at h2
      | [] =>
        match a with
        | .drop :: a =>
          simp only [List.length_cons] at hn
          have hb : NP (compA [] c) := comp_np _ _ (by trivial) hc
          rw [comp_adrop _ _ (by trivial), comp_adrop _ _ hc, comp_adrop _ _ hb, ih a [] c (by omega) (by simpa [outA] using h1) h2]
        | .keep :: a => simp [outA, inA] at h1
        | .put e :: a => simp [outA, inA] at h1
        | [] =>
          match c, hc with
          | [], _ => rw [comp_nn]
          | .keep :: c, _ => simp [outA, inA] at h2
          | .drop :: c, _ => simp [outA, inA] at h2
      | .keep :: b =>
        simp only [List.length_cons] at hn
        match a with
        | .drop :: a =>
          simp only [List.length_cons] at hn
          have hb : NP (compA (.keep :: b) c) := comp_np _ _ (by trivial) hc
          rw [comp_adrop _ _ (by trivial), comp_adrop _ _ hc, comp_adrop _ _ hb, ih a (.keep :: b) c (by simp only [List.length_cons]; omega) (by simpa [outA] using h1) h2]
        | [] => simp [outA, inA] at h1
        | .keep :: a =>
          simp only [List.length_cons] at hn
          simp only [outA, inA] at h1 h2
          rw [comp_xk _ (by trivial)]
          match c, hc with
          | .keep :: c, _ =>
            simp only [List.length_cons] at hn
            simp only [inA] at h2
            rw [comp_xk _ (by trivial), comp_xk _ (by trivial), comp_xk _ (by trivial), ih a b c (by omega) (by omega) (by omega)]
          | .drop :: c, _ =>
            simp only [List.length_cons] at hn
            simp only [inA] at h2
            rw [comp_kd, comp_kd, comp_kd, ih a b c (by omega) (by omega) (by omega)]
          | [], _ => simp [inA] at h2
        | .put e :: a =>
          simp only [List.length_cons] at hn
          simp only [outA, inA] at h1 h2
          rw [comp_xk _ (by trivial)]
          match c, hc with
          | .keep :: c, _ =>
            simp only [List.length_cons] at hn
            simp only [inA] at h2
            rw [comp_xk _ (by trivial), comp_xk _ (by trivial), comp_xk _ (by trivial), ih a b c (by omega) (by omega) (by omega)]
          | .drop :: c, _ =>
            simp only [List.length_cons] at hn
            simp only [inA] at h2
            rw [comp_pd, comp_kd, comp_pd, ih a b c (by omega) (by omega) (by omega)]
          | [], _ => simp [inA] at h2
      | .drop :: b =>
        simp only [List.length_cons] at hn
        match a with
        | .drop :: a =>
          simp only [List.length_cons] at hn
          have hb : NP (compA (.drop :: b) c) := comp_np _ _ (by trivial) hc
          rw [comp_adrop _ _ (by trivial), comp_adrop _ _ hc, comp_adrop _ _ hb, ih a (.drop :: b) c (by simp only [List.length_cons]; omega) (by simpa [outA] using h1) h2]
        | [] => simp [outA, inA] at h1
        | .keep :: a =>
          simp only [List.length_cons] at hn
          simp only [outA, inA] at h1 h2
          rw [comp_kd, comp_adrop _ _ hc, comp_adrop _ _ hc, comp_kd, ih a b c (by omega) (by omega) h2]
        | .put e :: a =>
          simp only [List.length_cons] at hn
          simp only [outA, inA] at h1 h2
          rw [comp_pd, comp_adrop _ _ hc, comp_pd, ih a b c (by omega) (by omega) h2]
    match c with
    | .put e :: c =>
      simp only [List.length_cons] at hn
      simp only [inA] at h2
      rw [comp_bput, comp_bput, comp_bput, ih a b c (by omega) h1 h2]
    | [] => exact hcase [] (by trivial) rfl
    | .keep :: c => exact hcase (.keep :: c) (by trivial) rfl
    | .drop :: c => exact hcase (.drop :: c) (by trivial) rfl

/-! ### sizes -/
theorem comp_io : ∀ (n : Nat) (a b : List At), a.length + b.length ≤ n → outA a = inA b → inA (compA a b) = inA a ∧ outA (compA a b) = outA b := by
  intro n
  induction n with
  | zero =>
    intro a b hn _
    obtain rfl : a = [] := List.eq_nil_of_length_eq_zero (by omega)
    obtain rfl : b = [] := List.eq_nil_of_length_eq_zero (by omega)
    rw [comp_nn]; exact ⟨rfl, rfl⟩
  | succ n ih =>
    intro a b hn h
    match b with
    | .put c :: b =>
      simp only [List.length_cons] at hn
      obtain ⟨h1, h2⟩ := ih a b (by omega) (by simpa [inA] using h)
      rw [comp_bput]; simp [inA, outA, h1, h2]
    | [] =>
      match a with
      | .drop :: a =>
        simp only [List.length_cons] at hn
        obtain ⟨h1, h2⟩ := ih a [] (by omega) (by simpa [outA] using h)
        rw [comp_adrop _ _ (by trivial)]; simp [inA, outA, h1, h2]
      | .keep :: a => simp [outA, inA] at h
      | .put e :: a => simp [outA, inA] at h
      | [] => rw [comp_nn]; exact ⟨rfl, rfl⟩
    | .keep :: b =>
      simp only [List.length_cons] at hn
      match a with
      | .drop :: a =>
        simp only [List.length_cons] at hn
        obtain ⟨h1, h2⟩ := ih a (.keep :: b) (by simp only [List.length_cons]; omega) (by simpa [outA] using h)
        rw [comp_adrop _ _ (by trivial)]; simp only [inA, outA, h1, h2]; exact ⟨trivial, trivial⟩
      | [] => simp [outA, inA] at h
      | .keep :: a =>
        simp only [List.length_cons] at hn
        obtain ⟨h1, h2⟩ := ih a b (by omega) (by simpa [outA, inA] using h)
        rw [comp_xk _ (by trivial)]; simp [inA, outA, h1, h2]
      | .put e :: a =>
        simp only [List.length_cons] at hn
        obtain ⟨h1, h2⟩ := ih a b (by omega) (by simpa [outA, inA] using h)
        rw [comp_xk _ (by trivial)]; simp [inA, outA, h1, h2]
    | .drop :: b =>
      simp only [List.length_cons] at hn
      match a with
      | .drop :: a =>
        simp only [List.length_cons] at hn
        obtain ⟨h1, h2⟩ := ih a (.drop :: b) (by simp only [List.length_cons]; omega) (by simpa [outA] using h)
        rw [comp_adrop _ _ (by trivial)]; simp only [inA, outA, h1, h2]; exact ⟨trivial, trivial⟩
      | [] => simp [outA, inA] at h
      | .keep :: a =>
        simp only [List.length_cons] at hn
        obtain ⟨h1, h2⟩ := ih a b (by omega) (by simpa [outA, inA] using h)
        rw [comp_kd]; simp [inA, outA, h1, h2]
      | .put e :: a =>
        simp only [List.length_cons] at hn
        obtain ⟨h1, h2⟩ := ih a b (by omega) (by simpa [outA, inA] using h)
        rw [comp_pd]; simp [inA, outA, h1, h2]

def dropsA : List At → Nat
  | [] => 0
  | .drop :: l => dropsA l + 1
  | _ :: l => dropsA l
def putsA : List At → List Nat
  | [] => []
  | .put c :: l => c :: putsA l
  | _ :: l => putsA l
theorem in_drops : ∀ l : List At, outA l + dropsA l = inA l + (putsA l).length
  | [] => rfl
  | .keep :: l => by have := in_drops l; simp only [outA, dropsA, inA, putsA]; omega
  | .drop :: l => by have := in_drops l; simp only [outA, dropsA, inA, putsA]; omega
  | .put c :: l => by have := in_drops l; simp only [outA, dropsA, inA, putsA, List.length_cons]; omega
/-- What is behind the other takes what that gives; both give as much, and drop what the other left. -/
theorem over_io : ∀ (n : Nat) (a s : List At), a.length + s.length ≤ n → inA a = inA s →
    inA (overA a s) = outA s ∧ inA (underA s a) = outA a ∧ outA (overA a s) = outA (underA s a) ∧ dropsA s + dropsA (overA a s) = dropsA a + dropsA (underA s a) ∧ putsA (overA a s) = putsA a ∧ putsA (underA s a) = putsA s := by
  intro n
  induction n with
  | zero =>
    intro a s hn _
    obtain rfl : a = [] := List.eq_nil_of_length_eq_zero (by omega)
    obtain rfl : s = [] := List.eq_nil_of_length_eq_zero (by omega)
    rw [over_nn, under_nn]; exact ⟨rfl, rfl, rfl, rfl, rfl, rfl⟩
  | succ n ih =>
    intro a s hn h
    have hput : ∀ c a', a = .put c :: a' → NP s → inA (overA a s) = outA s ∧ inA (underA s a) = outA a ∧ outA (overA a s) = outA (underA s a) ∧ dropsA s + dropsA (overA a s) = dropsA a + dropsA (underA s a) ∧ putsA (overA a s) = putsA a ∧ putsA (underA s a) = putsA s := by
      rintro c a' rfl hs
      simp only [List.length_cons] at hn
      obtain ⟨h1, h2, h3, h4, h5, h6⟩ := ih a' s (by omega) (by simpa [inA] using h)
      rw [over_aput _ _ _ hs, under_aput _ _ _ hs]
      simp only [inA, outA, dropsA, putsA, h1, h2, h3, h5, h6]
      exact ⟨trivial, trivial, trivial, h4, trivial, trivial⟩
    match s with
    | .put c :: s =>
      simp only [List.length_cons] at hn
      obtain ⟨h1, h2, h3, h4, h5, h6⟩ := ih a s (by omega) (by simpa [inA] using h)
      rw [over_sput, under_sput]
      simp only [inA, outA, dropsA, putsA, h1, h2, h3, h5, h6]
      exact ⟨trivial, trivial, trivial, h4, trivial, trivial⟩
    | [] =>
      match a with
      | .put c :: a => exact hput c a rfl (by trivial)
      | .keep :: a => simp [inA] at h
      | .drop :: a => simp [inA] at h
      | [] => rw [over_nn, under_nn]; exact ⟨rfl, rfl, rfl, rfl, rfl, rfl⟩
    | .keep :: s =>
      match a with
      | .put c :: a => exact hput c a rfl (by trivial)
      | [] => simp [inA] at h
      | .keep :: a =>
        simp only [List.length_cons] at hn
        obtain ⟨h1, h2, h3, h4, h5, h6⟩ := ih a s (by omega) (by simpa [inA] using h)
        rw [over_xk _ (by trivial), under_xk _ (by trivial)]
        simp only [inA, outA, dropsA, putsA, h1, h2, h3, h5, h6]
        exact ⟨trivial, trivial, trivial, h4, trivial, trivial⟩
      | .drop :: a =>
        simp only [List.length_cons] at hn
        obtain ⟨h1, h2, h3, h4, h5, h6⟩ := ih a s (by omega) (by simpa [inA] using h)
        rw [over_xk _ (by trivial), under_xd _ (by trivial)]
        simp only [inA, outA, dropsA, putsA, h1, h2, h3, h5, h6]
        exact ⟨trivial, trivial, trivial, by omega, trivial, trivial⟩
    | .drop :: s =>
      match a with
      | .put c :: a => exact hput c a rfl (by trivial)
      | [] => simp [inA] at h
      | .keep :: a =>
        simp only [List.length_cons] at hn
        obtain ⟨h1, h2, h3, h4, h5, h6⟩ := ih a s (by omega) (by simpa [inA] using h)
        rw [over_xd _ (by trivial), under_xk _ (by trivial)]
        simp only [inA, outA, dropsA, putsA, h1, h2, h3, h5, h6]
        exact ⟨trivial, trivial, trivial, by omega, trivial, trivial⟩
      | .drop :: a =>
        simp only [List.length_cons] at hn
        obtain ⟨h1, h2, h3, h4, h5, h6⟩ := ih a s (by omega) (by simpa [inA] using h)
        rw [over_xd _ (by trivial), under_xd _ (by trivial)]
        simp only [outA, dropsA, putsA, h1, h2, h3, h5, h6]
        exact ⟨trivial, trivial, trivial, by omega, trivial, trivial⟩

/-! ### texts -/
theorem apply_length : ∀ (l : List At) (u : List Nat), inA l = u.length → (applyA l u).length = outA l
  | [], _, _ => by rw [applyA] <;> first | rfl | (intros; simp_all)
  | .put c :: l, u, h => by rw [applyA]; simp [outA, apply_length l u (by simpa [inA] using h)]
  | .keep :: l, x :: u, h => by rw [applyA]; simp [outA, apply_length l u (by simpa [inA] using h)]
  | .drop :: l, x :: u, h => by rw [applyA]; simp [outA, apply_length l u (by simpa [inA] using h)]
  | .keep :: l, [], h => by simp [inA] at h
  | .drop :: l, [], h => by simp [inA] at h
theorem apply_comp : ∀ (n : Nat) (a b : List At) (u : List Nat), a.length + b.length ≤ n → inA a = u.length → outA a = inA b → applyA b (applyA a u) = applyA (compA a b) u := by
  intro n
  induction n with
  | zero =>
    intro a b u hn _ _
    obtain rfl : a = [] := List.eq_nil_of_length_eq_zero (by omega)
    obtain rfl : b = [] := List.eq_nil_of_length_eq_zero (by omega)
    rw [comp_nn]; simp [applyA]
  | succ n ih =>
    intro a b u hn hu h
    match b with
    | .put c :: b =>
      simp only [List.length_cons] at hn
      rw [comp_bput, applyA, applyA, ih a b u (by omega) hu (by simpa [inA] using h)]
    | [] =>
      match a, u with
      | .drop :: a, x :: u =>
        simp only [List.length_cons] at hn
        rw [comp_adrop _ _ (by trivial), applyA, applyA, ih a [] u (by omega) (by simpa [inA] using hu) (by simpa [outA] using h)]
      | .drop :: a, [] => simp [inA] at hu
      | .keep :: a, _ => simp [outA, inA] at h
      | .put e :: a, _ => simp [outA, inA] at h
      | [], _ => rw [comp_nn]; simp [applyA]
    | .keep :: b =>
      simp only [List.length_cons] at hn
      match a, u with
      | .drop :: a, x :: u =>
        simp only [List.length_cons] at hn
        rw [comp_adrop _ _ (by trivial), applyA, applyA, ih a (.keep :: b) u (by simp only [List.length_cons]; omega) (by simpa [inA] using hu) (by simpa [outA] using h)]
      | .drop :: a, [] => simp [inA] at hu
      | [], _ => simp [outA, inA] at h
      | .keep :: a, x :: u =>
        simp only [List.length_cons] at hn
        rw [comp_xk _ (by trivial), applyA, applyA, applyA, ih a b u (by omega) (by simpa [inA] using hu) (by simpa [outA, inA] using h)]
      | .keep :: a, [] => simp [inA] at hu
      | .put e :: a, u =>
        simp only [List.length_cons] at hn
        rw [comp_xk _ (by trivial), applyA, applyA, applyA, ih a b u (by omega) (by simpa [inA] using hu) (by simpa [outA, inA] using h)]
    | .drop :: b =>
      simp only [List.length_cons] at hn
      match a, u with
      | .drop :: a, x :: u =>
        simp only [List.length_cons] at hn
        rw [comp_adrop _ _ (by trivial), applyA, applyA, ih a (.drop :: b) u (by simp only [List.length_cons]; omega) (by simpa [inA] using hu) (by simpa [outA] using h)]
      | .drop :: a, [] => simp [inA] at hu
      | [], _ => simp [outA, inA] at h
      | .keep :: a, x :: u =>
        simp only [List.length_cons] at hn
        rw [comp_kd, applyA, applyA, applyA, ih a b u (by omega) (by simpa [inA] using hu) (by simpa [outA, inA] using h)]
      | .keep :: a, [] => simp [inA] at hu
      | .put e :: a, u =>
        simp only [List.length_cons] at hn
        rw [comp_pd, applyA, applyA, ih a b u (by omega) (by simpa [inA] using hu) (by simpa [outA, inA] using h)]
/-- Both meet. -/
theorem apply_meet : ∀ (n : Nat) (a s : List At) (u : List Nat), a.length + s.length ≤ n → inA a = u.length → inA s = u.length → applyA (overA a s) (applyA s u) = applyA (underA s a) (applyA a u) := by
  intro n
  induction n with
  | zero =>
    intro a s u hn _ _
    obtain rfl : a = [] := List.eq_nil_of_length_eq_zero (by omega)
    obtain rfl : s = [] := List.eq_nil_of_length_eq_zero (by omega)
    rw [over_nn, under_nn]
  | succ n ih =>
    intro a s u hn ha hs
    have hput : ∀ c a', a = .put c :: a' → NP s → applyA (overA a s) (applyA s u) = applyA (underA s a) (applyA a u) := by
      rintro c a' rfl hsn
      simp only [List.length_cons] at hn
      rw [over_aput _ _ _ hsn, under_aput _ _ _ hsn]
      rw [applyA, applyA, applyA, ih a' s u (by omega) (by simpa [inA] using ha) hs]
    match s with
    | .put c :: s =>
      simp only [List.length_cons] at hn
      rw [over_sput, under_sput, applyA, applyA, applyA, ih a s u (by omega) ha (by simpa [inA] using hs)]
    | [] =>
      match a with
      | .put c :: a => exact hput c a rfl (by trivial)
      | .keep :: a => simp only [inA] at ha hs; omega
      | .drop :: a => simp only [inA] at ha hs; omega
      | [] => rw [over_nn, under_nn]
    | .keep :: s =>
      match a, u with
      | .put c :: a, _ => exact hput c a rfl (by trivial)
      | [], _ => simp only [inA] at ha hs; omega
      | _, [] => simp [inA] at hs
      | .keep :: a, x :: u =>
        simp only [List.length_cons] at hn
        rw [over_xk _ (by trivial), under_xk _ (by trivial), applyA, applyA, applyA, applyA, ih a s u (by omega) (by simpa [inA] using ha) (by simpa [inA] using hs)]
      | .drop :: a, x :: u =>
        simp only [List.length_cons] at hn
        rw [over_xk _ (by trivial), under_xd _ (by trivial), applyA, applyA, applyA, ih a s u (by omega) (by simpa [inA] using ha) (by simpa [inA] using hs)]
    | .drop :: s =>
      match a, u with
      | .put c :: a, _ => exact hput c a rfl (by trivial)
      | [], _ => simp only [inA] at ha hs; omega
      | _, [] => simp [inA] at hs
      | .keep :: a, x :: u =>
        simp only [List.length_cons] at hn
        rw [over_xd _ (by trivial), under_xk _ (by trivial), applyA, applyA, applyA, ih a s u (by omega) (by simpa [inA] using ha) (by simpa [inA] using hs)]
      | .drop :: a, x :: u =>
        simp only [List.length_cons] at hn
        rw [over_xd _ (by trivial), under_xd _ (by trivial), applyA, applyA, ih a s u (by omega) (by simpa [inA] using ha) (by simpa [inA] using hs)]

end Go.Proofs.YtmfpfipjhhfbhaaDoor
