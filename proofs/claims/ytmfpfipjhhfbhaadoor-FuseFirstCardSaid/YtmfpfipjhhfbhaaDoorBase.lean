/- The common words of this seat's proofs: a span as a Lean value, rows of spans as they are read and made, what the package-level variables hold. -/
import Derived.Test.YtmfpfipjhhfbhaaDoorProg
import Derived.Test.YtmfpfipjhhfbhaaDoorWWords
import Derived.WalkKit
import Derived.WalkSpells
import Derived.WalkLawsBesides
import Derived.Outline
import Derived.Lib.RuneCount
import Derived.Lib.ValidLaws
import Derived.Laws.RangeString
import Derived.Laws.RangeAny
import Derived.Shelf.Unicode.DecodeSlow
import Derived.Lib.Hide
import Derived.Deep.QuietTactic
import Derived.BigQuiet
import Derived.StillTailTactics
import Derived.RegionTactic
import Derived.Deep.RegionHeld3
import Derived.Deep.LoopGhost
namespace Go.Proofs.YtmfpfipjhhfbhaaDoor
open Go.RowKit Go.Proofs.YtmfpfipjhhfbhaaDoorW.PrintWords

/-- A span. -/
structure Sp where
  k : Int
  n : Int
  t : ByteArray
def Sp.z : Sp := ⟨0, 0, ⟨#[]⟩⟩
def kSp : Kd Sp := Kd.iso (Kd.pair (Kd.int .i64) (Kd.pair (Kd.int .i64) Kd.string)) (fun x : Sp => (x.k, x.n, x.t))
theorem kSp_open {w : World} {x : Sp} {cs : List Value} (h : kSp.K w x cs) : cs = [.int .i64 x.k, .int .i64 x.n, .string x.t] := by
  obtain ⟨_, _, rfl, rfl, ⟨_, _, rfl, rfl, rfl⟩⟩ := h
  rfl
theorem kSp_mk (w : World) (x : Sp) : kSp.K w x [.int .i64 x.k, .int .i64 x.n, .string x.t] := ⟨[.int .i64 x.k], [.int .i64 x.n, .string x.t], rfl, rfl, ⟨[.int .i64 x.n], [.string x.t], rfl, rfl, rfl⟩⟩
theorem kSp_mkM (w : World) (base : Nat) (ok : Nat → Prop) (x : Sp) : kSp.M w base ok x [.int .i64 x.k, .int .i64 x.n, .string x.t] := ⟨[.int .i64 x.k], [.int .i64 x.n, .string x.t], rfl, rfl, ⟨[.int .i64 x.n], [.string x.t], rfl, rfl, rfl⟩⟩
/-- The cells of element j of a row of spans that is read. -/
theorem at_Sp {w : World} {A : Option Addr} {n : Nat} {xs : List Sp} (h : Kd.C kSp w A n xs) {j : Nat} {s : Sp} (hj : xs[j]? = some s) : ∃ ad, A = some ad ∧ w.cell? (ad.add (j * 3)) = some (.int .i64 s.k) ∧ w.cell? ⟨(ad.add (j * 3)).block, (ad.add (j * 3)).off + 1, none⟩ = some (.int .i64 s.n) ∧ w.cell? ⟨(ad.add (j * 3)).block, (ad.add (j * 3)).off + 2, none⟩ = some (.string s.t) := by
  have hl := (List.getElem?_eq_some_iff.1 hj).1
  have h1 := h.1
  obtain ⟨ad, e, hc⟩ := h.2.2 (by omega)
  obtain ⟨c, _, hK, hcell⟩ := hc j s hj
  obtain rfl := kSp_open hK
  exact ⟨ad, e, hcell 0 _ rfl, by rw [← add_field _ _ 1 (by omega)]; exact hcell 1 _ rfl, by rw [← add_field _ _ 2 (by omega)]; exact hcell 2 _ rfl⟩

/-- What the package-level variables hold: span.kinds, and the tables of unicode/utf8. -/
structure Laid (w : World) : Prop where
  size : 2 < w.heap.size
  kinds : ∀ j v, [Value.bool false, .bool false, .bool true, .bool true, .bool false, .bool false, .bool true, .bool false][j]? = some v → w.cell? ⟨0, j, none⟩ = some v
  utf8 : Lib.Utf8Tabs 1 2 w
theorem Laid.below {w w' : World} (h : Laid w) (hb : Below w.heap.size w w') : Laid w' := by
  refine ⟨Nat.lt_of_lt_of_le h.size hb.size, fun j v hv => ?_, ?_⟩
  · rw [hb.cell (by have := h.size; show 0 < _; omega)]; exact h.kinds j v hv
  · refine ⟨fun c hc => ?_, fun i hi => ?_⟩
    · rw [hb.cell (by have := h.size; show 1 < _; omega)]; exact h.utf8.1 c hc
    · refine ⟨?_, ?_⟩
      · rw [hb.cell (by have := h.size; show 2 < _; omega)]; exact (h.utf8.2 i hi).1
      · rw [hb.cell (by have := h.size; show 2 < _; omega)]; exact (h.utf8.2 i hi).2

/-- Behind a call: the old cells and the old marks read as before, and no block has gone. -/
theorem bcell {W w1 : World} (hb : Below W.heap.size W w1) : (∀ b o, b < W.heap.size → w1.cell? ⟨b, o, none⟩ = W.cell? ⟨b, o, none⟩) ∧ (∀ b o, b < W.heap.size → w1.frozen? ⟨b, o, none⟩ = W.frozen? ⟨b, o, none⟩) ∧ W.heap.size ≤ w1.heap.size :=
  ⟨fun b o h => hb.cell (p := ⟨b, o, none⟩) h, fun b o h => hb.frozen (p := ⟨b, o, none⟩) h, hb.size⟩

theorem ret_int {k : IntKind} {a b : Int} (h : a = b) : Ending.returned (.int k a) = .returned (.int k b) := by rw [h]
theorem ret_bool {a b : Bool} (h : a = b) : Ending.returned (.bool a) = .returned (.bool b) := by rw [h]
theorem ret_str {a b : ByteArray} (h : a = b) : Ending.returned (.string a) = .returned (.string b) := by rw [h]
@[go_sem] theorem max2_i (k k' : IntKind) (x y : Int) : Builtin.max2 (.int k x) (.int k' y) = pure (.int k (max x y)) := by
  simp only [Builtin.max2, gt_iff_lt]; congr 2; split <;> omega
@[go_sem] theorem min2_i (k k' : IntKind) (x y : Int) : Builtin.min2 (.int k x) (.int k' y) = pure (.int k (min x y)) := by
  simp only [Builtin.min2]; congr 2; split <;> omega
@[go_sem] theorem max_two_i (ats : Array TypeId) (ty : TypeId) (a b : Value) : Builtin.max_ ats ty #[a, b] = (Builtin.max2 a b >>= fun s => pure s) := by simp only [Builtin.max_, List.foldlM_cons, List.foldlM_nil]
@[go_sem] theorem min_two_i (ats : Array TypeId) (ty : TypeId) (a b : Value) : Builtin.min_ ats ty #[a, b] = (Builtin.min2 a b >>= fun s => pure s) := by simp only [Builtin.min_, List.foldlM_cons, List.foldlM_nil]

end Go.Proofs.YtmfpfipjhhfbhaaDoor
