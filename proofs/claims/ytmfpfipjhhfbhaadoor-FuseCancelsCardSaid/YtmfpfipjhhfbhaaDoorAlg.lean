/- The algebra of rows of steps: two as one (compA), one behind another (overA), one that came first behind another (underA), and what they do to a text. No program in sight. -/
import Derived.Test.YtmfpfipjhhfbhaaDoorCanon
namespace Go.Proofs.YtmfpfipjhhfbhaaDoor

/-- No text is put at once. -/
def NP : List At → Prop
  | .put _ :: _ => False
  | _ => True
/-- a behind s, which came first. -/
def overA (a s : List At) : List At :=
  match a, s with
  | a, .put _ :: s => .keep :: overA a s
  | .put c :: a, s => .put c :: overA a s
  | x :: a, .keep :: s => x :: overA a s
  | _ :: a, .drop :: s => overA a s
  | _, _ => []
termination_by a.length + s.length
/-- s, which came first, behind a. -/
def underA (s a : List At) : List At :=
  match s, a with
  | .put c :: s, a => .put c :: underA s a
  | s, .put _ :: a => .keep :: underA s a
  | x :: s, .keep :: a => x :: underA s a
  | _ :: s, .drop :: a => underA s a
  | _, _ => []
termination_by s.length + a.length
/-- What a gives, and b makes of it. -/
def compA (a b : List At) : List At :=
  match a, b with
  | a, .put c :: b => .put c :: compA a b
  | .drop :: a, b => .drop :: compA a b
  | x :: a, .keep :: b => x :: compA a b
  | .keep :: a, .drop :: b => .drop :: compA a b
  | .put _ :: a, .drop :: b => compA a b
  | _, _ => []
termination_by a.length + b.length
/-- What a row of steps makes of a text. -/
def applyA : List At → List Nat → List Nat
  | .put c :: l, u => c :: applyA l u
  | .keep :: l, x :: u => x :: applyA l u
  | .drop :: l, _ :: u => applyA l u
  | _, _ => []

theorem over_sput (a : List At) (c : Nat) (s : List At) : overA a (.put c :: s) = .keep :: overA a s := by rw [overA]
theorem over_aput (c : Nat) (a s : List At) (h : NP s) : overA (.put c :: a) s = .put c :: overA a s := by
  match s, h with
  | [], _ => rw [overA]; intro _ _ h; cases h
  | .keep :: s, _ => rw [overA]; intro _ _ h; cases h
  | .drop :: s, _ => rw [overA]; intro _ _ h; cases h
theorem over_xk (x : At) (hx : NP [x]) (a s : List At) : overA (x :: a) (.keep :: s) = x :: overA a s := by
  match x, hx with
  | .keep, _ => rw [overA]; intro _ h; cases h
  | .drop, _ => rw [overA]; intro _ h; cases h
theorem over_xd (x : At) (hx : NP [x]) (a s : List At) : overA (x :: a) (.drop :: s) = overA a s := by
  match x, hx with
  | .keep, _ => rw [overA]; intro _ h; cases h
  | .drop, _ => rw [overA]; intro _ h; cases h
theorem over_nn : overA [] [] = [] := by rw [overA] <;> intros <;> simp_all
theorem under_sput (c : Nat) (s a : List At) : underA (.put c :: s) a = .put c :: underA s a := by rw [underA]
theorem under_aput (s : List At) (c : Nat) (a : List At) (h : NP s) : underA s (.put c :: a) = .keep :: underA s a := by
  match s, h with
  | [], _ => rw [underA]; intro _ _ h; cases h
  | .keep :: s, _ => rw [underA]; intro _ _ h; cases h
  | .drop :: s, _ => rw [underA]; intro _ _ h; cases h
theorem under_xk (x : At) (hx : NP [x]) (s a : List At) : underA (x :: s) (.keep :: a) = x :: underA s a := by
  match x, hx with
  | .keep, _ => rw [underA]; intro _ h; cases h
  | .drop, _ => rw [underA]; intro _ h; cases h
theorem under_xd (x : At) (hx : NP [x]) (s a : List At) : underA (x :: s) (.drop :: a) = underA s a := by
  match x, hx with
  | .keep, _ => rw [underA]; intro _ h; cases h
  | .drop, _ => rw [underA]; intro _ h; cases h
theorem under_nn : underA [] [] = [] := by rw [underA] <;> intros <;> simp_all
theorem comp_bput (a : List At) (c : Nat) (b : List At) : compA a (.put c :: b) = .put c :: compA a b := by rw [compA]
theorem comp_adrop (a b : List At) (h : NP b) : compA (.drop :: a) b = .drop :: compA a b := by
  match b, h with
  | [], _ => rw [compA]; intro _ _ h; cases h
  | .keep :: b, _ => rw [compA]; intro _ _ h; cases h
  | .drop :: b, _ => rw [compA]; intro _ _ h; cases h
/-- It gives a code point. -/
def Giv : At → Prop
  | .drop => False
  | _ => True
theorem comp_xk (x : At) (hx : Giv x) (a b : List At) : compA (x :: a) (.keep :: b) = x :: compA a b := by
  match x, hx with
  | .keep, _ => rw [compA]; intro h; cases h
  | .put c, _ => rw [compA]; intro h; cases h
theorem comp_kd (a b : List At) : compA (.keep :: a) (.drop :: b) = .drop :: compA a b := by rw [compA]
theorem comp_pd (c : Nat) (a b : List At) : compA (.put c :: a) (.drop :: b) = compA a b := by rw [compA]
theorem comp_nn : compA [] [] = [] := by rw [compA] <;> intros <;> simp_all

/-! ### an operation behind two others is behind the one that these come to -/
theorem over_comp : ∀ (n : Nat) (x s t : List At), x.length + s.length + t.length ≤ n → inA x = inA s → outA s = inA t → overA x (compA s t) = overA (overA x s) t := by
  intro n
  induction n with
  | zero =>
    intro x s t hn _ _
    obtain rfl : x = [] := List.eq_nil_of_length_eq_zero (by omega)
    obtain rfl : s = [] := List.eq_nil_of_length_eq_zero (by omega)
    obtain rfl : t = [] := List.eq_nil_of_length_eq_zero (by omega)
    rw [comp_nn, over_nn, over_nn]
  | succ n ih =>
    intro x s t hn hi ho
    match t with
    | .put c :: t =>
      simp only [List.length_cons] at hn
      simp only [inA] at ho
      rw [comp_bput, over_sput, over_sput, ih x s t (by omega) hi ho]
    | [] =>
      match s with
      | .drop :: s =>
        rw [comp_adrop _ _ (by trivial)]
        simp only [List.length_cons] at hn
        match x with
        | .put c :: x =>
          simp only [List.length_cons] at hn
          simp only [inA] at hi
          have := ih x (.drop :: s) [] (by simp only [List.length_cons]; omega) (by simpa [inA] using hi) (by simpa [outA] using ho)
          rw [comp_adrop _ _ (by trivial)] at this
          rw [over_aput _ _ _ (by trivial), over_aput _ _ _ (by trivial), over_aput _ _ _ (by trivial), this]
        | .keep :: x =>
          simp only [List.length_cons] at hn
          simp only [inA] at hi
          rw [over_xd _ (by trivial), over_xd _ (by trivial), ih x s [] (by omega) (by omega) (by simpa [outA] using ho)]
        | .drop :: x =>
          simp only [List.length_cons] at hn
          simp only [inA] at hi
          rw [over_xd _ (by trivial), over_xd _ (by trivial), ih x s [] (by omega) (by omega) (by simpa [outA] using ho)]
        | [] => simp [inA] at hi
      | .keep :: s => simp [outA, inA] at ho
      | .put c :: s => simp [outA, inA] at ho
      | [] =>
        match x with
        | .put c :: x =>
          simp only [List.length_cons] at hn
          simp only [inA] at hi
          have := ih x [] [] (by omega) (by simpa [inA] using hi) rfl
          rw [comp_nn] at this ⊢
          rw [over_aput _ _ _ (by trivial), over_aput _ _ _ (by trivial)]
          exact congrArg _ this
        | .keep :: x => simp [inA] at hi
        | .drop :: x => simp [inA] at hi
        | [] => rw [comp_nn, over_nn, over_nn]
    | .keep :: t =>
      match s with
      | .drop :: s =>
        rw [comp_adrop _ _ (by trivial)]
        simp only [List.length_cons] at hn
        match x with
        | .put c :: x =>
          simp only [List.length_cons] at hn
          simp only [inA] at hi
          have := ih x (.drop :: s) (.keep :: t) (by simp only [List.length_cons]; omega) (by simpa [inA] using hi) (by simpa [outA] using ho)
          rw [comp_adrop _ _ (by trivial)] at this
          rw [over_aput _ _ _ (by trivial), over_aput _ _ _ (by trivial), over_aput _ _ _ (by trivial), this]
        | .keep :: x =>
          simp only [List.length_cons] at hn
          simp only [inA] at hi
          rw [over_xd _ (by trivial), over_xd _ (by trivial), ih x s (.keep :: t) (by simp only [List.length_cons]; omega) (by omega) (by simpa [outA] using ho)]
        | .drop :: x =>
          simp only [List.length_cons] at hn
          simp only [inA] at hi
          rw [over_xd _ (by trivial), over_xd _ (by trivial), ih x s (.keep :: t) (by simp only [List.length_cons]; omega) (by omega) (by simpa [outA] using ho)]
        | [] => simp [inA] at hi
      | .put c :: s =>
        simp only [List.length_cons] at hn
        simp only [inA] at hi ho
        simp only [outA] at ho
        rw [comp_xk _ (by trivial), over_sput, over_sput, over_xk _ (by trivial), ih x s t (by omega) hi (by omega)]
      | .keep :: s =>
        simp only [List.length_cons] at hn
        simp only [inA] at hi ho
        simp only [outA] at ho
        rw [comp_xk _ (by trivial)]
        match x with
        | .put c :: x =>
          simp only [List.length_cons] at hn
          simp only [inA] at hi
          have := ih x (.keep :: s) (.keep :: t) (by simp only [List.length_cons]; omega) (by simpa [inA] using hi) (by simp only [outA, inA]; omega)
          rw [comp_xk _ (by trivial)] at this
          rw [over_aput _ _ _ (by trivial), over_aput _ _ _ (by trivial), over_aput _ _ _ (by trivial), this]
        | .keep :: x =>
          simp only [List.length_cons] at hn
          simp only [inA] at hi
          rw [over_xk _ (by trivial), over_xk _ (by trivial), over_xk _ (by trivial), ih x s t (by omega) (by omega) (by omega)]
        | .drop :: x =>
          simp only [List.length_cons] at hn
          simp only [inA] at hi
          rw [over_xk _ (by trivial), over_xk _ (by trivial), over_xk _ (by trivial), ih x s t (by omega) (by omega) (by omega)]
        | [] => simp [inA] at hi
      | [] => simp [outA, inA] at ho
    | .drop :: t =>
      match s with
      | .drop :: s =>
        rw [comp_adrop _ _ (by trivial)]
        simp only [List.length_cons] at hn
        match x with
        | .put c :: x =>
          simp only [List.length_cons] at hn
          simp only [inA] at hi
          have := ih x (.drop :: s) (.drop :: t) (by simp only [List.length_cons]; omega) (by simpa [inA] using hi) (by simpa [outA] using ho)
          rw [comp_adrop _ _ (by trivial)] at this
          rw [over_aput _ _ _ (by trivial), over_aput _ _ _ (by trivial), over_aput _ _ _ (by trivial), this]
        | .keep :: x =>
          simp only [List.length_cons] at hn
          simp only [inA] at hi
          rw [over_xd _ (by trivial), over_xd _ (by trivial), ih x s (.drop :: t) (by simp only [List.length_cons]; omega) (by omega) (by simpa [outA] using ho)]
        | .drop :: x =>
          simp only [List.length_cons] at hn
          simp only [inA] at hi
          rw [over_xd _ (by trivial), over_xd _ (by trivial), ih x s (.drop :: t) (by simp only [List.length_cons]; omega) (by omega) (by simpa [outA] using ho)]
        | [] => simp [inA] at hi
      | .put c :: s =>
        simp only [List.length_cons] at hn
        simp only [inA] at hi ho
        simp only [outA] at ho
        rw [comp_pd, over_sput, over_xd _ (by trivial), ih x s t (by omega) hi (by omega)]
      | .keep :: s =>
        simp only [List.length_cons] at hn
        simp only [inA] at hi ho
        simp only [outA] at ho
        rw [comp_kd]
        match x with
        | .put c :: x =>
          simp only [List.length_cons] at hn
          simp only [inA] at hi
          have := ih x (.keep :: s) (.drop :: t) (by simp only [List.length_cons]; omega) (by simpa [inA] using hi) (by simp only [outA, inA]; omega)
          rw [comp_kd] at this
          rw [over_aput _ _ _ (by trivial), over_aput _ _ _ (by trivial), over_aput _ _ _ (by trivial), this]
        | .keep :: x =>
          simp only [List.length_cons] at hn
          simp only [inA] at hi
          rw [over_xd _ (by trivial), over_xk _ (by trivial), over_xd _ (by trivial), ih x s t (by omega) (by omega) (by omega)]
        | .drop :: x =>
          simp only [List.length_cons] at hn
          simp only [inA] at hi
          rw [over_xd _ (by trivial), over_xk _ (by trivial), over_xd _ (by trivial), ih x s t (by omega) (by omega) (by omega)]
        | [] => simp [inA] at hi
      | [] => simp [outA, inA] at ho

end Go.Proofs.YtmfpfipjhhfbhaaDoor
