/- Arguments that hold several rows of spans, opened. -/
import Derived.Test.YtmfpfipjhhfbhaaDoorDoor
import Derived.Test.YtmfpfipjhhfbhaaDoorLit
import Derived.OpenShut
namespace Go.Proofs.YtmfpfipjhhfbhaaDoor
open Go.RowKit Go.ChangeShapes Go.WideShapes Go.Deep Go.Proofs.YtmfpfipjhhfbhaaDoorW.PrintWords

set_option maxRecDepth 100000 in
theorem open_cell {H : Type} {enc : TypeId × Value → H} {W : World} {v : Value} {x : DataW H × List MemPlace} {fuel : Nat}
    (hf : DataW.trod enc Tryd.prog W 0 (fun _ => true) true fuel 27 [v] = some x) : ∃ A c xs, v = .slice A xs.length c ∧ xs.length ≤ c ∧ Kd.C kSp W A xs.length xs ∧ ∀ s ∈ xs, s.t.size ≤ 9223372036854775807 := by
  have c3 : Tryd.prog.cellsOf 3 = 1 := by kernel_rfl
  have c9 : Tryd.prog.cellsOf 9 = 1 := by kernel_rfl
  have c26 : Tryd.prog.cellsOf 26 = 3 := by kernel_rfl
  obtain ⟨f0, f1, f2, hS, ⟨o0, t0⟩, ⟨o1, t1⟩, ⟨o2, t2⟩⟩ := fields_Sp
  rcases open_slice Tryd.underlying27 hf with ⟨hcs, _⟩ | ⟨a, len, cap, m, k, D, Pl, hcs, _, hl, hm, hmm, _, hi⟩
  · injection hcs with hcs _
    subst hcs
    exact ⟨none, 0, [], rfl, Nat.le_refl _, ⟨rfl, by simp, fun h => by simp at h⟩, fun s h => by cases h⟩
  · injection hcs with hcs _
    subst hcs
    have hmm : m = cap := hmm
    subst hmm
    obtain ⟨xs, hxl, hx⟩ := list_of (Q := fun i (s : Sp) => (∀ j u, [Value.int .i64 s.k, .int .i64 s.n, .string s.t][j]? = some u → W.cell? (a.add (i * 3 + j)) = some u) ∧ s.t.size ≤ maxLen) len (fun i him => by
      obtain ⟨cs', hc, ht'⟩ := hi i (by omega)
      rw [c26] at hc
      obtain ⟨ys, n', _, _, hlen, hyl, hff⟩ := DataW.trod_struct hS ht'
      obtain ⟨_, hcl, hat⟩ := World.cells?_some hc
      match cs', hcl with
      | [u0, u1, u2], _ =>
        have g0 := hff 0 f0 rfl
        have g1 := hff 1 f1 rfl
        have g2 := hff 2 f2 rfl
        rw [o0, t0, c3] at g0
        rw [o1, t1, c3] at g1
        rw [o2, t2, c9] at g2
        simp only [List.drop_zero, List.drop_succ_cons, List.take_succ_cons, List.take_zero] at g0 g1 g2
        have hys : ys.length = 3 := by simpa using hyl
        have e0 : ys[0]? = some (ys[0]'(by omega)) := List.getElem?_eq_getElem _
        have e1 : ys[1]? = some (ys[1]'(by omega)) := List.getElem?_eq_getElem _
        have e2 : ys[2]? = some (ys[2]'(by omega)) := List.getElem?_eq_getElem _
        obtain ⟨z0, q0, _, _⟩ := DataW.trod_int Tryd.underlying3 (g0.trans e0)
        obtain ⟨z1, q1, _, _⟩ := DataW.trod_int Tryd.underlying3 (g1.trans e1)
        obtain ⟨z2, q2, _, hz⟩ := DataW.trod_string Tryd.underlying9 (g2.trans e2)
        simp only [List.cons.injEq, and_true] at q0 q1 q2
        refine ⟨⟨z0, z1, z2⟩, fun j u hu => ?_, hz⟩
        have hj : j < 3 := by
          have := (List.getElem?_eq_some_iff.1 hu).1
          simpa using this
        have := hat j hj
        rw [q0, q1, q2] at this
        rw [← Go.Deep.add_add, this]; exact hu)
    refine ⟨some a, m, xs, by rw [hxl], by rw [hxl]; omega, ⟨rfl, by rw [hxl]; unfold maxLen at hm; omega, fun _ => ⟨a, rfl, fun j s hj => ⟨[.int .i64 s.k, .int .i64 s.n, .string s.t], rfl, kSp_mk W s, fun i u hu => ?_⟩⟩⟩, fun s hs => ?_⟩
    · exact (hx j s hj).1 i u hu
    · obtain ⟨i, hi'⟩ := List.getElem?_of_mem hs
      have := (hx i s hi').2
      unfold maxLen at this
      omega
set_option maxRecDepth 100000 in
/-- A row of rows. -/
theorem open_rowsSp {H : Type} {enc : TypeId × Value → H} {W : World} {r : Reach} {b0 : Nat} {v : Value} {d : DataW H} {p : List MemPlace} (hval : Value.okWide Tryd.prog W r b0 53 v)
    (h : DataW.Trod enc Tryd.prog W 0 (fun _ => true) true 53 v d p) : ∃ A c xss, v = .slice A xss.length c ∧ Kd.C kRow W A xss.length xss ∧ ∀ xs ∈ xss, ∀ s ∈ xs, s.t.size ≤ 9223372036854775807 := by
  obtain ⟨A, n, c, rfl⟩ := okWide_slice Tryd.underlying53 hval
  obtain ⟨fuel, hf⟩ := h
  have c27 : Tryd.prog.cellsOf 27 = 1 := by kernel_rfl
  rcases open_slice Tryd.underlying53 hf with ⟨hcs, _⟩ | ⟨a, len, cap, m, k, D, Pl, hcs, _, hl, hm, hmm, _, hi⟩
  · have hcs : [Value.slice A n c] = [.slice none 0 0] := hcs
    injection hcs with hcs _
    injection hcs with e1 e2 e3
    subst e1 e2 e3
    exact ⟨none, 0, [], rfl, ⟨rfl, by simp, fun h => by simp at h⟩, fun s h => by cases h⟩
  · have hcs : [Value.slice A n c] = [.slice (some a) len cap] := hcs
    injection hcs with hcs _
    injection hcs with e1 e2 e3
    subst e1 e2 e3
    have hmm : m = c := hmm
    subst hmm
    obtain ⟨xss, hxl, hx⟩ := list_of (Q := fun i (xs : List Sp) => (∃ B cc, W.cell? (a.add i) = some (.slice B xs.length cc) ∧ xs.length ≤ cc ∧ Kd.C kSp W B xs.length xs) ∧ ∀ s ∈ xs, s.t.size ≤ 9223372036854775807) n (fun i him => by
      obtain ⟨cs', hc, ht'⟩ := hi i (by omega)
      rw [c27] at hc
      obtain ⟨_, hcl, hat⟩ := World.cells?_some hc
      match cs', hcl with
      | [u0], _ =>
        obtain ⟨B, cc, xs, rfl, hle, hC, hT⟩ := open_cell ht'
        have h0 := hat 0 (by omega)
        refine ⟨xs, ⟨B, cc, ?_, hle, hC⟩, hT⟩
        rw [Nat.mul_one] at h0
        exact h0)
    refine ⟨some a, m, xss, by rw [hxl], ⟨rfl, by rw [hxl]; unfold maxLen at hm; omega, fun _ => ⟨a, rfl, fun j xs hj => ?_⟩⟩, fun xs hxs => ?_⟩
    · obtain ⟨⟨B, cc, h1, _, h3⟩, _⟩ := hx j xs hj
      refine ⟨[.slice B xs.length cc], rfl, ⟨B, cc, rfl, h3⟩, fun i u hu => ?_⟩
      rw [show j * kRow.sz = j from Nat.mul_one j]
      match i, hu with
      | 0, hu => simp at hu; subst hu; exact h1
    · obtain ⟨i, hi'⟩ := List.getElem?_of_mem hxs
      exact (hx i xs hi').2
set_option maxRecDepth 100000 in
/-- Two rows. -/
theorem open_rows2 {H : Type} {enc : TypeId × Value → H} {W : World} {r : Reach} {b0 : Nat} {v : Value} {d : DataW H} {p : List MemPlace} (hval : Value.okWide Tryd.prog W r b0 51 v)
    (h : DataW.Trod enc Tryd.prog W 0 (fun _ => true) true 51 v d p) : ∃ A c xs B e ys, v = .agg #[.slice A xs.length c, .slice B ys.length e] ∧ Kd.C kSp W A xs.length xs ∧ (∀ s ∈ xs, s.t.size ≤ 9223372036854775807) ∧ Kd.C kSp W B ys.length ys ∧ ∀ s ∈ ys, s.t.size ≤ 9223372036854775807 := by
  have c27 : Tryd.prog.cellsOf 27 = 1 := by kernel_rfl
  have c51 : Tryd.prog.cellsOf 51 = 2 := by kernel_rfl
  simp only [Value.okWide, Tryd.underlying51] at hval
  obtain ⟨cs, rfl, h2, _⟩ := hval
  rw [c51] at h2
  obtain ⟨l⟩ := cs
  match l, h2 with
  | [u0, u1], _ =>
    obtain ⟨fuel, hf⟩ := h
    obtain ⟨zs, m, _, _, _, hzl, hall⟩ := DataW.trod_array Tryd.underlying51 hf
    have g0 := hall 0 (by omega)
    have g1 := hall 1 (by omega)
    rw [c27] at g0 g1
    have e0 : zs[0]? = some (zs[0]'(by omega)) := List.getElem?_eq_getElem _
    have e1 : zs[1]? = some (zs[1]'(by omega)) := List.getElem?_eq_getElem _
    obtain ⟨A, c, xs, rfl, _, h3, h4⟩ := open_cell (g0.trans e0)
    obtain ⟨B, e, ys, rfl, _, h5, h6⟩ := open_cell (g1.trans e1)
    exact ⟨A, c, xs, B, e, ys, rfl, h3, h4, h5, h6⟩

end Go.Proofs.YtmfpfipjhhfbhaaDoor
