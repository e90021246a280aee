/- An argument that is a row of spans, opened. -/
import Derived.Test.YtmfpfipjhhfbhaaDoorOp
import Derived.Deep.Slices
import Derived.ProofKit
namespace Go.Proofs.YtmfpfipjhhfbhaaDoor
open Go.RowKit Go.ChangeShapes Go.WideShapes Go.Deep Go.Proofs.YtmfpfipjhhfbhaaDoorW.PrintWords

theorem list_of {α : Type} {Q : Nat → α → Prop} : ∀ n : Nat, (∀ i, i < n → ∃ s, Q i s) → ∃ xs : List α, xs.length = n ∧ ∀ i s, xs[i]? = some s → Q i s
  | 0, _ => ⟨[], rfl, fun i s h => by simp at h⟩
  | n + 1, h => by
    obtain ⟨xs, hl, hx⟩ := list_of n (fun i hi => h i (by omega))
    obtain ⟨s, hs⟩ := h n (by omega)
    refine ⟨xs ++ [s], by simp [hl], fun i t ht => ?_⟩
    rcases Nat.lt_or_ge i n with hi | hi
    · rw [List.getElem?_append_left (by omega)] at ht; exact hx i t ht
    · have hlt := (List.getElem?_eq_some_iff.1 ht).1
      simp [hl] at hlt
      obtain rfl : i = n := by omega
      rw [List.getElem?_append_right (by omega), hl] at ht
      simp at ht
      rw [← ht]; exact hs
theorem fields_Sp : ∃ f0 f1 f2 : Field, Tryd.prog.underlying 26 = some (.struct #[f0, f1, f2]) ∧ (f0.offset = 0 ∧ f0.type = 3) ∧ (f1.offset = 1 ∧ f1.type = 3) ∧ (f2.offset = 2 ∧ f2.type = 9) := ⟨_, _, _, Tryd.underlying26, ⟨rfl, rfl⟩, ⟨rfl, rfl⟩, ⟨rfl, rfl⟩⟩
set_option maxRecDepth 100000 in
theorem open_rowSp {H : Type} {enc : TypeId × Value → H} {W : World} {r : Reach} {b0 : Nat} {v : Value} {d : DataW H} {p : List MemPlace} (hval : Value.okWide Tryd.prog W r b0 27 v)
    (h : DataW.Trod enc Tryd.prog W 0 (fun _ => true) true 27 v d p) : ∃ A c xs, v = .slice A xs.length c ∧ Kd.C kSp W A xs.length xs ∧ ∀ s ∈ xs, s.t.size ≤ 9223372036854775807 := by
  obtain ⟨A, n, c, rfl⟩ := okWide_slice Tryd.underlying27 hval
  obtain ⟨fuel, hf⟩ := h
  have c3 : Tryd.prog.cellsOf 3 = 1 := by kernel_rfl
  have c9 : Tryd.prog.cellsOf 9 = 1 := by kernel_rfl
  have c26 : Tryd.prog.cellsOf 26 = 3 := by kernel_rfl
  obtain ⟨f0, f1, f2, hS, ⟨o0, t0⟩, ⟨o1, t1⟩, ⟨o2, t2⟩⟩ := fields_Sp
  rcases open_slice Tryd.underlying27 hf with ⟨hcs, _⟩ | ⟨a, len, cap, m, k, D, Pl, hcs, _, hl, hm, hmm, _, hi⟩
  · have hcs : [Value.slice A n c] = [.slice none 0 0] := hcs
    injection hcs with hcs _
    injection hcs with e1 e2 e3
    subst e1 e2 e3
    exact ⟨none, 0, [], rfl, ⟨rfl, by simp, fun h => by simp at h⟩, fun s h => by cases h⟩
  · have hcs : [Value.slice A n c] = [.slice (some a) len cap] := hcs
    injection hcs with hcs _
    injection hcs with e1 e2 e3
    subst e1 e2 e3
    have hmm : m = c := hmm
    subst hmm
    obtain ⟨xs, hxl, hx⟩ := list_of (Q := fun i (s : Sp) => (∀ j u, [Value.int .i64 s.k, .int .i64 s.n, .string s.t][j]? = some u → W.cell? (a.add (i * 3 + j)) = some u) ∧ s.t.size ≤ maxLen) n (fun i him => by
      obtain ⟨cs', hc, ht'⟩ := hi i (by omega)
      rw [c26] at hc
      obtain ⟨ys, n', _, _, hlen, hyl, hff⟩ := DataW.trod_struct hS ht'
      obtain ⟨_, hcl, hat⟩ := World.cells?_some hc
      match cs', hcl with
      | [u0, u1, u2], _ =>
        have g0 := hff 0 f0 rfl
        have g1 := hff 1 f1 rfl
        have g2 := hff 2 f2 rfl
        rw [o0, t0, c3] at g0
        rw [o1, t1, c3] at g1
        rw [o2, t2, c9] at g2
        simp only [List.drop_zero, List.drop_succ_cons, List.take_succ_cons, List.take_zero] at g0 g1 g2
        have hys : ys.length = 3 := by simpa using hyl
        have e0 : ys[0]? = some (ys[0]'(by omega)) := List.getElem?_eq_getElem _
        have e1 : ys[1]? = some (ys[1]'(by omega)) := List.getElem?_eq_getElem _
        have e2 : ys[2]? = some (ys[2]'(by omega)) := List.getElem?_eq_getElem _
        obtain ⟨z0, q0, _, _⟩ := DataW.trod_int Tryd.underlying3 (g0.trans e0)
        obtain ⟨z1, q1, _, _⟩ := DataW.trod_int Tryd.underlying3 (g1.trans e1)
        obtain ⟨z2, q2, _, hz⟩ := DataW.trod_string Tryd.underlying9 (g2.trans e2)
        simp only [List.cons.injEq, and_true] at q0 q1 q2
        refine ⟨⟨z0, z1, z2⟩, fun j u hu => ?_, hz⟩
        have hj : j < 3 := by
          have := (List.getElem?_eq_some_iff.1 hu).1
          simpa using this
        have := hat j hj
        rw [q0, q1, q2] at this
        rw [← Go.Deep.add_add, this]; exact hu)
    refine ⟨some a, _, xs, by rw [hxl], ⟨rfl, by rw [hxl]; unfold maxLen at hm; omega, fun _ => ⟨a, rfl, fun j s hj => ⟨[.int .i64 s.k, .int .i64 s.n, .string s.t], rfl, kSp_mk W s, fun i u hu => ?_⟩⟩⟩, fun s hs => ?_⟩
    · exact (hx j s hj).1 i u hu
    · obtain ⟨i, hi'⟩ := List.getElem?_of_mem hs
      have := (hx i s hi').2
      unfold maxLen at this
      omega

end Go.Proofs.YtmfpfipjhhfbhaaDoor
