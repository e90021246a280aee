/- Rows of spans, one by one: their steps, and that they are in their shortest form. -/
import Derived.Test.YtmfpfipjhhfbhaaDoorLit
import Derived.Test.YtmfpfipjhhfbhaaDoorComp
import Derived.Test.YtmfpfipjhhfbhaaDoorFitRw
namespace Go.Proofs.YtmfpfipjhhfbhaaDoor
open Go.Lib Go.RowKit Go.Proofs.YtmfpfipjhhfbhaaDoorW.PrintWords

theorem rw_nil (b : Nat) : Rw [] [] b := ⟨fun _ h => (by cases h), rfl, fun _ h => (by cases h), Nat.zero_le _, Nat.zero_le _, Nat.zero_le _⟩
theorem rw_cons {s : Sp} {X : List Sp} {l k : List At} {b c : Nat} (hs : spMay s = 0) (ha : spAtoms s = k) (hl : k.length + 1 ≤ c) (h : Rw X l b) : Rw (s :: X) (k ++ l) (b + c) := by
  have hv : Valid (s :: X) := by
    intro x hx
    rcases List.mem_cons.1 hx with rfl | e
    · exact hs
    · exact h.valid x e
  have hat : atoms (s :: X) = k ++ l := by rw [atoms_cons, ha, h.ato]
  have h1 := h.few; have h2 := h.len; have h3 := h.byt
  refine ⟨hv, hat, by rw [← hat]; exact good_atoms hv, by simp; omega, by simp; omega, ?_⟩
  rw [bytesL_cons]
  have : s.t.size ≤ 4 * k.length := by
    rcases may_cases hs with ⟨_, _, ht⟩ | ⟨hk, _, ht⟩
    · rw [ht]; exact Nat.zero_le _
    · have := (cps_length_le s.t ht).2
      rw [← ha]
      simp [spAtoms, hk]; exact this
  omega
theorem rw_keep {X : List Sp} {l : List At} {b : Nat} (n : Nat) (hn : n ≤ 1048576) (h : Rw X l b) : Rw (⟨1, n, ⟨#[]⟩⟩ :: X) (List.replicate n .keep ++ l) (b + (n + 1)) := rw_cons (may_keep (.inl rfl) hn) (by simp [spAtoms]) (by simp) h
theorem rw_drop {X : List Sp} {l : List At} {b : Nat} (n : Nat) (hn : n ≤ 1048576) (h : Rw X l b) : Rw (⟨3, n, ⟨#[]⟩⟩ :: X) (List.replicate n .drop ++ l) (b + (n + 1)) := rw_cons (may_keep (.inr rfl) hn) (by simp [spAtoms]) (by simp) h
theorem rw_put {X : List Sp} {l : List At} {b : Nat} (cs : List Nat) (hg : ∀ c ∈ cs, goodC c) (h : Rw X l b) : Rw (⟨2, 0, encB cs⟩ :: X) (cs.map .put ++ l) (b + (cs.length + 1)) := rw_cons (may_put (validD_encB _ hg)) (by simp [spAtoms, cps_enc _ hg]) (by simp) h
/-- Full spans of unlike kinds, side by side. -/
def Alt2 : List Sp → Prop
  | [] => True
  | [s] => full s = true
  | s :: t :: X => full s = true ∧ s.k ≠ t.k ∧ Alt2 (t :: X)
theorem alt2_all : ∀ {X : List Sp}, Alt2 X → X.filter full = X
  | [], _ => rfl
  | [s], h => by simp [show full s = true from h]
  | s :: t :: X, h => by rw [List.filter_cons_of_pos h.1, alt2_all h.2.2]
theorem alt2_fold : ∀ (X acc : List Sp), Alt2 X → (∀ l s Y, acc.getLast? = some l → X = s :: Y → l.k ≠ s.k) → X.foldl nstep acc = acc ++ X
  | [], acc, _, _ => by simp
  | [s], acc, _, h => by
    show nstep acc s = _
    cases hl : acc.getLast? with
    | none => rw [List.getLast?_eq_none_iff.1 hl]; rfl
    | some l => exact nstep_other hl (h l s [] hl rfl)
  | s :: t :: X, acc, h0, h => by
    rw [List.foldl_cons]
    have e : nstep acc s = acc ++ [s] := by
      cases hl : acc.getLast? with
      | none => rw [List.getLast?_eq_none_iff.1 hl]; rfl
      | some l => exact nstep_other hl (h l s _ hl rfl)
    rw [e, alt2_fold (t :: X) (acc ++ [s]) h0.2.2 (fun l u Y hl hu => by
      injection hu with hu1 hu2
      rw [List.getLast?_concat] at hl
      injection hl with hl
      subst hl hu1
      exact h0.2.1), List.append_assoc]
    rfl
theorem alt2_norm {X : List Sp} (h : Alt2 X) : normS X = X := by
  unfold normS
  rw [alt2_all h, alt2_fold X [] h (fun l s Y hl => (by simp at hl))]
  rfl
theorem alt2_of {X : List Sp} {l : List At} {b : Nat} (h : Alt2 X) (hr : Rw X l b) : ofA l = X := by rw [← hr.norm, alt2_norm h]
/-- compose, in steps. -/
theorem few_comp {a b : List At} {m n : Nat} (ha : Few a m) (hb : Few b n) (_h : outA a = inA b) : Few (compA a b) (m + n) := by
  refine ⟨?_, by have := comp_len _ a b (Nat.le_refl _); have := ha.len; have := hb.len; omega⟩
  exact comp_good _ a b (Nat.le_refl _) ha.good hb.good
theorem Rw.fitC {X Y : List Sp} {a s : List At} {b c : Nat} (hx : Rw X a b) (hy : Rw Y s c) (hio : outA a = inA s) (hb : b ≤ 262144) (hc : c ≤ 262144) : FitC X Y := by
  have h1 := in_le a; have h0 := in_le s
  have h2 := hx.few; have h3 := hx.len; have h4 := hx.byt; have h5 := hy.len; have h6 := hy.byt; have h7 := hy.few
  exact ⟨hx.valid, hy.valid, by rw [hx.ato, hy.ato]; exact hio, by rw [hx.ato]; omega, by rw [hy.ato]; omega, by omega, by omega, by omega, by omega⟩
theorem Rw.comp {X Y : List Sp} {a s : List At} {b c : Nat} (hx : Rw X a b) (hy : Rw Y s c) (hio : outA a = inA s) (hb : b + c ≤ 262144) : Rw (ofA (compA a s)) (compA a s) (b + c) := Rw.of (few_comp hx.fw hy.fw hio) hb
theorem comp_rw {X Y : List Sp} {a s : List At} {b c : Nat} (hx : Rw X a b) (hy : Rw Y s c) (hio : outA a = inA s) (hb : b + c ≤ 262144) (A B : Option Addr) (ca cb : Nat) (w : World) (hL : Laid w) (h1 : Kd.C kSp w A X.length X) (h2 : Kd.C kSp w B Y.length Y) :
    Calls Tryd.prog 35 #[.slice A X.length ca, .slice B Y.length cb] w fun e w' => ∃ v, e = .returned (.tuple #[v, .int .i64 0]) ∧ Gives w w' v (ofA (compA a s)) ∧ Below w.heap.size w w' := by
  have h := comp_ok A B ca cb X Y w hL h1 h2 (hx.fitC hy hio (by omega) (by omega))
  rw [hx.ato, hy.ato] at h
  exact h

end Go.Proofs.YtmfpfipjhhfbhaaDoor

/- What keeps all, ahead of another one, and behind it. -/
namespace Go.Proofs.YtmfpfipjhhfbhaaDoor
open Go.RowKit Go.Proofs.YtmfpfipjhhfbhaaDoorW.PrintWords

theorem comp_keep1 : ∀ b : List At, compA (List.replicate (inA b) .keep) b = b
  | [] => comp_nn
  | .put c :: b => by rw [comp_bput, show inA (.put c :: b) = inA b from rfl, comp_keep1 b]
  | .keep :: b => by rw [show inA (.keep :: b) = inA b + 1 from rfl, List.replicate_succ, comp_xk .keep trivial, comp_keep1 b]
  | .drop :: b => by rw [show inA (.drop :: b) = inA b + 1 from rfl, List.replicate_succ, comp_kd, comp_keep1 b]
theorem comp_keep2 : ∀ a : List At, compA a (List.replicate (outA a) .keep) = a
  | [] => comp_nn
  | .put c :: a => by rw [show outA (.put c :: a) = outA a + 1 from rfl, List.replicate_succ, comp_xk (.put c) trivial, comp_keep2 a]
  | .keep :: a => by rw [show outA (.keep :: a) = outA a + 1 from rfl, List.replicate_succ, comp_xk .keep trivial, comp_keep2 a]
  | .drop :: a => by rw [comp_adrop _ _ (np_keeps _), show outA (.drop :: a) = outA a from rfl, comp_keep2 a]

end Go.Proofs.YtmfpfipjhhfbhaaDoor
