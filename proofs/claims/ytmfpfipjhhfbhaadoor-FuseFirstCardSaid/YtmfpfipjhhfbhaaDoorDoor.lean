/- An argument that is a row of spans, opened. -/
import Derived.Test.YtmfpfipjhhfbhaaDoorOp
import Derived.Deep.Slices
import Derived.ProofKit
import Derived.Test.YtmfpfipjhhfbhaaDoorShelf
import Derived.Test.YtmfpfipjhhfbhaaDoorRows
import Derived.Lib.LaidIn
import Derived.Lib.LaidU8T
import Derived.PinnedBridge
import Derived.OpenShut
import Derived.LaidMore
import Derived.Deep.DeepHandedRow
import Derived.Deep.DeepWitnessRowRef
import Derived.SizedLaws
namespace Go.Proofs.YtmfpfipjhhfbhaaDoor
open Go.RowKit Go.ChangeShapes Go.WideShapes Go.Deep Go.Proofs.YtmfpfipjhhfbhaaDoorW.PrintWords

theorem list_of {α : Type} {Q : Nat → α → Prop} : ∀ n : Nat, (∀ i, i < n → ∃ s, Q i s) → ∃ xs : List α, xs.length = n ∧ ∀ i s, xs[i]? = some s → Q i s
  | 0, _ => ⟨[], rfl, fun i s h => by simp at h⟩
  | n + 1, h => by
    obtain ⟨xs, hl, hx⟩ := list_of n (fun i hi => h i (by omega))
    obtain ⟨s, hs⟩ := h n (by omega)
    refine ⟨xs ++ [s], by simp [hl], fun i t ht => ?_⟩
    rcases Nat.lt_or_ge i n with hi | hi
    · rw [List.getElem?_append_left (by omega)] at ht; exact hx i t ht
    · have hlt := (List.getElem?_eq_some_iff.1 ht).1
      simp [hl] at hlt
      obtain rfl : i = n := by omega
      rw [List.getElem?_append_right (by omega), hl] at ht
      simp at ht
      rw [← ht]; exact hs
theorem fields_Sp : ∃ f0 f1 f2 : Field, Tryd.prog.underlying 26 = some (.struct #[f0, f1, f2]) ∧ (f0.offset = 0 ∧ f0.type = 3) ∧ (f1.offset = 1 ∧ f1.type = 3) ∧ (f2.offset = 2 ∧ f2.type = 9) := ⟨_, _, _, Tryd.underlying26, ⟨rfl, rfl⟩, ⟨rfl, rfl⟩, ⟨rfl, rfl⟩⟩
set_option maxRecDepth 100000 in
theorem open_rowSp {H : Type} {enc : TypeId × Value → H} {W : World} {r : Reach} {b0 : Nat} {v : Value} {d : DataW H} {p : List MemPlace} (hval : Value.okWide Tryd.prog W r b0 27 v)
    (h : DataW.Trod enc Tryd.prog W 0 (fun _ => true) true 27 v d p) : ∃ A c xs, v = .slice A xs.length c ∧ Kd.C kSp W A xs.length xs ∧ ∀ s ∈ xs, s.t.size ≤ 9223372036854775807 := by
  obtain ⟨A, n, c, rfl⟩ := okWide_slice Tryd.underlying27 hval
  obtain ⟨fuel, hf⟩ := h
  have c3 : Tryd.prog.cellsOf 3 = 1 := by kernel_rfl
  have c9 : Tryd.prog.cellsOf 9 = 1 := by kernel_rfl
  have c26 : Tryd.prog.cellsOf 26 = 3 := by kernel_rfl
  obtain ⟨f0, f1, f2, hS, ⟨o0, t0⟩, ⟨o1, t1⟩, ⟨o2, t2⟩⟩ := fields_Sp
  rcases open_slice Tryd.underlying27 hf with ⟨hcs, _⟩ | ⟨a, len, cap, m, k, D, Pl, hcs, _, hl, hm, hmm, _, hi⟩
  · have hcs : [Value.slice A n c] = [.slice none 0 0] := hcs
    injection hcs with hcs _
    injection hcs with e1 e2 e3
    subst e1 e2 e3
    exact ⟨none, 0, [], rfl, ⟨rfl, by simp, fun h => by simp at h⟩, fun s h => by cases h⟩
  · have hcs : [Value.slice A n c] = [.slice (some a) len cap] := hcs
    injection hcs with hcs _
    injection hcs with e1 e2 e3
    subst e1 e2 e3
    have hmm : m = c := hmm
    subst hmm
    obtain ⟨xs, hxl, hx⟩ := list_of (Q := fun i (s : Sp) => (∀ j u, [Value.int .i64 s.k, .int .i64 s.n, .string s.t][j]? = some u → W.cell? (a.add (i * 3 + j)) = some u) ∧ s.t.size ≤ maxLen) n (fun i him => by
      obtain ⟨cs', hc, ht'⟩ := hi i (by omega)
      rw [c26] at hc
      obtain ⟨ys, n', _, _, hlen, hyl, hff⟩ := DataW.trod_struct hS ht'
      obtain ⟨_, hcl, hat⟩ := World.cells?_some hc
      match cs', hcl with
      | [u0, u1, u2], _ =>
        have g0 := hff 0 f0 rfl
        have g1 := hff 1 f1 rfl
        have g2 := hff 2 f2 rfl
        rw [o0, t0, c3] at g0
        rw [o1, t1, c3] at g1
        rw [o2, t2, c9] at g2
        simp only [List.drop_zero, List.drop_succ_cons, List.take_succ_cons, List.take_zero] at g0 g1 g2
        have hys : ys.length = 3 := by simpa using hyl
        have e0 : ys[0]? = some (ys[0]'(by omega)) := List.getElem?_eq_getElem _
        have e1 : ys[1]? = some (ys[1]'(by omega)) := List.getElem?_eq_getElem _
        have e2 : ys[2]? = some (ys[2]'(by omega)) := List.getElem?_eq_getElem _
        obtain ⟨z0, q0, _, _⟩ := DataW.trod_int Tryd.underlying3 (g0.trans e0)
        obtain ⟨z1, q1, _, _⟩ := DataW.trod_int Tryd.underlying3 (g1.trans e1)
        obtain ⟨z2, q2, _, hz⟩ := DataW.trod_string Tryd.underlying9 (g2.trans e2)
        simp only [List.cons.injEq, and_true] at q0 q1 q2
        refine ⟨⟨z0, z1, z2⟩, fun j u hu => ?_, hz⟩
        have hj : j < 3 := by
          have := (List.getElem?_eq_some_iff.1 hu).1
          simpa using this
        have := hat j hj
        rw [q0, q1, q2] at this
        rw [← Go.Deep.add_add, this]; exact hu)
    refine ⟨some a, _, xs, by rw [hxl], ⟨rfl, by rw [hxl]; unfold maxLen at hm; omega, fun _ => ⟨a, rfl, fun j s hj => ⟨[.int .i64 s.k, .int .i64 s.n, .string s.t], rfl, kSp_mk W s, fun i u hu => ?_⟩⟩⟩, fun s hs => ?_⟩
    · exact (hx j s hj).1 i u hu
    · obtain ⟨i, hi'⟩ := List.getElem?_of_mem hs
      have := (hx i s hi').2
      unfold maxLen at this
      omega

end Go.Proofs.YtmfpfipjhhfbhaaDoor

/- From the rows' cell 'laid' to what the walks ask. -/
namespace Go.Proofs.YtmfpfipjhhfbhaaDoor
open Go.RowKit Go.ChangeShapes Go.WideShapes Go.Proofs.YtmfpfipjhhfbhaaDoorW.PrintWords

theorem accept_eq : (Rows.laid_unicode_utf8_acceptRanges : DataW Unit) = Lib.acceptData := by kernel_rfl
theorem kinds_eq : (Rows.laid_epitome_span_kinds : DataW Unit) = .agg ([(false, false), (true, true), (false, false), (true, false)].map fun r => .agg [.lit (.bool r.1), .lit (.bool r.2)]) := by kernel_rfl
theorem fields_kind : ∃ f0 f1 : Field, Tryd.prog.underlying 107 = some (.struct #[f0, f1]) ∧ (f0.offset = 0 ∧ f0.type = 4) ∧ (f1.offset = 1 ∧ f1.type = 4) := ⟨_, _, Tryd.underlying107, ⟨rfl, rfl⟩, ⟨rfl, rfl⟩⟩
theorem of_laid {W : World} (hA : Lib.VarReads Tryd.prog W "unicode/utf8.acceptRanges" Rows.laid_unicode_utf8_acceptRanges) (hK : Lib.VarReads Tryd.prog W "epitome/span.kinds" Rows.laid_epitome_span_kinds) (hF : Lib.VarReads Tryd.prog W "unicode/utf8.first" Rows.laid_unicode_utf8_first) : Laid W := by
  rw [accept_eq] at hA
  rw [show Rows.laid_unicode_utf8_first = Lib.firstData from Pinned.utf8First_eq] at hF
  have hU : Lib.Utf8Tabs 1 2 W := utf8Tabs_of_readsT (U8Types.of196 Tryd.laysValid) ⟨by kernel_rfl, by kernel_rfl, by kernel_rfl, by kernel_rfl, by kernel_rfl, by kernel_rfl, by kernel_rfl⟩ hF hA
  refine ⟨World.block_lt_of_cell? W _ (hU.2 0 (by omega)).1, ?_, hU⟩
  · rw [kinds_eq] at hK
    obtain ⟨g, t, cs, fuel, p, hg, hty, hvar, hd⟩ := hK
    obtain rfl := Option.some.inj ((show Tryd.prog.globalNamed "epitome/span.kinds" = some 0 by kernel_rfl).symm.trans hg)
    obtain rfl := Option.some.inj ((show (Tryd.prog.globals[0]?).map (·.type) = some 115 by kernel_rfl).symm.trans hty)
    have cB : Tryd.prog.cellsOf 4 = 1 := by kernel_rfl
    have cK : Tryd.prog.cellsOf 107 = 2 := by kernel_rfl
    have cT : Tryd.prog.cellsOf 115 = 8 := by kernel_rfl
    obtain ⟨f0, f1, hS, ⟨o0, t0⟩, ⟨o1, t1⟩⟩ := fields_kind
    obtain ⟨xs, m, rfl, hx, hl, hxl, hall⟩ := DataW.trod_array Tryd.underlying115 hd
    rw [cT] at hl
    have hx1 := congrArg Prod.fst hx
    simp only [DataW.agg.injEq] at hx1
    have key : ∀ (i : Nat) (a b : Bool), [(false, false), (true, true), (false, false), (true, false)][i]? = some (a, b) → cs.toList[i * 2]? = some (.bool a) ∧ cs.toList[i * 2 + 1]? = some (.bool b) := by
      intro i a b hi
      have hi4 : i < 4 := by have := (List.getElem?_eq_some_iff.1 hi).1; simpa using this
      have h1 := hall i hi4
      have hxi : xs[i]? = some (xs[i]'(by omega)) := List.getElem?_eq_getElem _
      rw [cK, hxi] at h1
      obtain ⟨ys, n', hn', hy, hlen, hyl, hff⟩ := DataW.trod_struct hS h1
      have g0 := hff 0 f0 rfl
      have g1 := hff 1 f1 rfl
      have hys : ys.length = 2 := by simpa using hyl
      obtain ⟨y0, y1, rfl⟩ : ∃ y0 y1, ys = [y0, y1] := by
        match ys, hys with
        | [y0, y1], _ => exact ⟨_, _, rfl⟩
      rw [o0, t0, cB] at g0
      rw [o1, t1, cB] at g1
      obtain ⟨b0, q0, r0⟩ := DataW.trod_bool Tryd.underlying4 (g0.trans (show _ = some y0 from rfl))
      obtain ⟨b1, q1, r1⟩ := DataW.trod_bool Tryd.underlying4 (g1.trans (show _ = some y1 from rfl))
      have hfst : (xs[i]'(by omega)).1 = .agg [.lit (.bool a), .lit (.bool b)] := by
        have h3 : (xs.map (·.1))[i]? = some (.agg [.lit (.bool a), .lit (.bool b)]) := by
          rw [← hx1, List.getElem?_map, hi]; rfl
        rw [List.getElem?_map, hxi] at h3
        simpa using h3
      have hy1 := congrArg Prod.fst hy
      simp only at hy1
      rw [hfst] at hy1
      simp at hy1
      rw [r0, r1] at hy1
      simp at hy1
      obtain ⟨rfl, rfl⟩ := hy1
      have l1 : i * 2 + 1 < cs.toList.length := by rw [hl]; omega
      constructor
      · have := congrArg (fun l => l[0]?) q0
        simpa [List.getElem?_take, List.getElem?_drop] using this
      · have := congrArg (fun l => l[0]?) q1
        simpa [List.getElem?_take, List.getElem?_drop] using this
    have hcell : ∀ j, W.cell? ⟨0, j, none⟩ = cs.toList[j]? := fun j => by
      have := World.var?_cell hg hvar j
      rw [Array.getElem?_toList]; exact this
    intro j v hv
    rw [hcell]
    have hj : j < 8 := by have := (List.getElem?_eq_some_iff.1 hv).1; simpa using this
    have k0 := key 0 false false rfl
    have k1 := key 1 true true rfl
    have k2 := key 2 false false rfl
    have k3 := key 3 true false rfl
    match j, hj with
    | 0, _ => exact k0.1.trans hv
    | 1, _ => exact k0.2.trans hv
    | 2, _ => exact k1.1.trans hv
    | 3, _ => exact k1.2.trans hv
    | 4, _ => exact k2.1.trans hv
    | 5, _ => exact k2.2.trans hv
    | 6, _ => exact k3.1.trans hv
    | 7, _ => exact k3.2.trans hv

end Go.Proofs.YtmfpfipjhhfbhaaDoor

/- The witness's world: the three listed variables hold what their initialisers lay. -/
namespace Go.Proofs.YtmfpfipjhhfbhaaDoor
open Go.RowKit Go.ChangeShapes Go.WideShapes

theorem Tryd.ownK : ownKnob Tryd.prog.godebug = none := by kernel_rfl
noncomputable def laidWorld (os : Os) : World :=
  let w0 := World.holding Tryd.prog os ⟨#[], #[], []⟩
  let put (h : Array Obj) (g : Nat) (cs : Array Value) : Array Obj := h.modify g fun
    | .cells _ t frozen => .cells cs t frozen
    | o => o
  let h1 := put w0.heap 1 (Lib.firstTab.map fun z => Value.int .u8 z).toArray
  let h2 := put h1 2 ((List.range 16).flatMap fun i => [Value.int .u8 (Lib.accLo i), Value.int .u8 (Lib.accHi i)]).toArray
  let h3 := put h2 0 #[.bool false, .bool false, .bool true, .bool true, .bool false, .bool false, .bool true, .bool false]
  { w0 with heap := h3 }
theorem laid_met (os : Os) (args : Array Value) : laidMet Tryd.prog [("unicode/utf8.acceptRanges", Rows.laid_unicode_utf8_acceptRanges), ("epitome/span.kinds", Rows.laid_epitome_span_kinds), ("unicode/utf8.first", Rows.laid_unicode_utf8_first)] ((laidWorld os).forCall (fun _ _ => 0) ⟨#[], args, []⟩).memory :=
  (LaidIn.of_run (l := [("unicode/utf8.acceptRanges", Rows.laid_unicode_utf8_acceptRanges), ("epitome/span.kinds", Rows.laid_epitome_span_kinds), ("unicode/utf8.first", Rows.laid_unicode_utf8_first)]) [2, 0, 1] 8 (by kernel_rfl) (by kernel_rfl) (by kernel_rfl) (by kernel_rfl)).met

end Go.Proofs.YtmfpfipjhhfbhaaDoor
