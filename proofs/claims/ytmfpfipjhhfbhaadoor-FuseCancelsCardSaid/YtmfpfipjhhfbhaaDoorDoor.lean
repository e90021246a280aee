/- From the rows' cell 'laid' to what the walks ask. -/
import Derived.Test.YtmfpfipjhhfbhaaDoorOpen
import Derived.Test.YtmfpfipjhhfbhaaDoorShelf
import Derived.Test.YtmfpfipjhhfbhaaDoorRows
import Derived.Lib.LaidIn
import Derived.Lib.LaidU8T
import Derived.PinnedBridge
import Derived.OpenShut
import Derived.LaidMore
import Derived.Deep.DeepHandedRow
import Derived.Deep.DeepWitnessRowRef
import Derived.SizedLaws
namespace Go.Proofs.YtmfpfipjhhfbhaaDoor
open Go.RowKit Go.ChangeShapes Go.WideShapes Go.Proofs.YtmfpfipjhhfbhaaDoorW.PrintWords

theorem accept_eq : (Rows.laid_unicode_utf8_acceptRanges : DataW Unit) = Lib.acceptData := by kernel_rfl
theorem kinds_eq : (Rows.laid_epitome_span_kinds : DataW Unit) = .agg ([(false, false), (true, true), (false, false), (true, false)].map fun r => .agg [.lit (.bool r.1), .lit (.bool r.2)]) := by kernel_rfl
theorem fields_kind : ∃ f0 f1 : Field, Tryd.prog.underlying 107 = some (.struct #[f0, f1]) ∧ (f0.offset = 0 ∧ f0.type = 4) ∧ (f1.offset = 1 ∧ f1.type = 4) := ⟨_, _, Tryd.underlying107, ⟨rfl, rfl⟩, ⟨rfl, rfl⟩⟩
theorem of_laid {W : World} (hA : Lib.VarReads Tryd.prog W "unicode/utf8.acceptRanges" Rows.laid_unicode_utf8_acceptRanges) (hK : Lib.VarReads Tryd.prog W "epitome/span.kinds" Rows.laid_epitome_span_kinds) (hF : Lib.VarReads Tryd.prog W "unicode/utf8.first" Rows.laid_unicode_utf8_first) : Laid W := by
  rw [accept_eq] at hA
  rw [show Rows.laid_unicode_utf8_first = Lib.firstData from Pinned.utf8First_eq] at hF
  have hU : Lib.Utf8Tabs 1 2 W := utf8Tabs_of_readsT (U8Types.of196 Tryd.laysValid) ⟨by kernel_rfl, by kernel_rfl, by kernel_rfl, by kernel_rfl, by kernel_rfl, by kernel_rfl, by kernel_rfl⟩ hF hA
  refine ⟨World.block_lt_of_cell? W _ (hU.2 0 (by omega)).1, ?_, hU⟩
  · rw [kinds_eq] at hK
    obtain ⟨g, t, cs, fuel, p, hg, hty, hvar, hd⟩ := hK
    obtain rfl := Option.some.inj ((show Tryd.prog.globalNamed "epitome/span.kinds" = some 0 by kernel_rfl).symm.trans hg)
    obtain rfl := Option.some.inj ((show (Tryd.prog.globals[0]?).map (·.type) = some 115 by kernel_rfl).symm.trans hty)
    have cB : Tryd.prog.cellsOf 4 = 1 := by kernel_rfl
    have cK : Tryd.prog.cellsOf 107 = 2 := by kernel_rfl
    have cT : Tryd.prog.cellsOf 115 = 8 := by kernel_rfl
    obtain ⟨f0, f1, hS, ⟨o0, t0⟩, ⟨o1, t1⟩⟩ := fields_kind
    obtain ⟨xs, m, rfl, hx, hl, hxl, hall⟩ := DataW.trod_array Tryd.underlying115 hd
    rw [cT] at hl
    have hx1 := congrArg Prod.fst hx
    simp only [DataW.agg.injEq] at hx1
    have key : ∀ (i : Nat) (a b : Bool), [(false, false), (true, true), (false, false), (true, false)][i]? = some (a, b) → cs.toList[i * 2]? = some (.bool a) ∧ cs.toList[i * 2 + 1]? = some (.bool b) := by
      intro i a b hi
      have hi4 : i < 4 := by have := (List.getElem?_eq_some_iff.1 hi).1; simpa using this
      have h1 := hall i hi4
      have hxi : xs[i]? = some (xs[i]'(by omega)) := List.getElem?_eq_getElem _
      rw [cK, hxi] at h1
      obtain ⟨ys, n', hn', hy, hlen, hyl, hff⟩ := DataW.trod_struct hS h1
      have g0 := hff 0 f0 rfl
      have g1 := hff 1 f1 rfl
      have hys : ys.length = 2 := by simpa using hyl
      obtain ⟨y0, y1, rfl⟩ : ∃ y0 y1, ys = [y0, y1] := by
        match ys, hys with
        | [y0, y1], _ => exact ⟨_, _, rfl⟩
      rw [o0, t0, cB] at g0
      rw [o1, t1, cB] at g1
      obtain ⟨b0, q0, r0⟩ := DataW.trod_bool Tryd.underlying4 (g0.trans (show _ = some y0 from rfl))
      obtain ⟨b1, q1, r1⟩ := DataW.trod_bool Tryd.underlying4 (g1.trans (show _ = some y1 from rfl))
      have hfst : (xs[i]'(by omega)).1 = .agg [.lit (.bool a), .lit (.bool b)] := by
        have h3 : (xs.map (·.1))[i]? = some (.agg [.lit (.bool a), .lit (.bool b)]) := by
          rw [← hx1, List.getElem?_map, hi]; rfl
        rw [List.getElem?_map, hxi] at h3
        simpa using h3
      have hy1 := congrArg Prod.fst hy
      simp only at hy1
      rw [hfst] at hy1
      simp at hy1
      rw [r0, r1] at hy1
      simp at hy1
      obtain ⟨rfl, rfl⟩ := hy1
      have l1 : i * 2 + 1 < cs.toList.length := by rw [hl]; omega
      constructor
      · have := congrArg (fun l => l[0]?) q0
        simpa [List.getElem?_take, List.getElem?_drop] using this
      · have := congrArg (fun l => l[0]?) q1
        simpa [List.getElem?_take, List.getElem?_drop] using this
    have hcell : ∀ j, W.cell? ⟨0, j, none⟩ = cs.toList[j]? := fun j => by
      have := World.var?_cell hg hvar j
      rw [Array.getElem?_toList]; exact this
    intro j v hv
    rw [hcell]
    have hj : j < 8 := by have := (List.getElem?_eq_some_iff.1 hv).1; simpa using this
    have k0 := key 0 false false rfl
    have k1 := key 1 true true rfl
    have k2 := key 2 false false rfl
    have k3 := key 3 true false rfl
    match j, hj with
    | 0, _ => exact k0.1.trans hv
    | 1, _ => exact k0.2.trans hv
    | 2, _ => exact k1.1.trans hv
    | 3, _ => exact k1.2.trans hv
    | 4, _ => exact k2.1.trans hv
    | 5, _ => exact k2.2.trans hv
    | 6, _ => exact k3.1.trans hv
    | 7, _ => exact k3.2.trans hv

end Go.Proofs.YtmfpfipjhhfbhaaDoor
