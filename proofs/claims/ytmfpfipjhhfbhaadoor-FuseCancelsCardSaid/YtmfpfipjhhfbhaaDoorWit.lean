/- The witness's world: the three listed variables hold what their initialisers lay. -/
import Derived.Test.YtmfpfipjhhfbhaaDoorDoor
namespace Go.Proofs.YtmfpfipjhhfbhaaDoor
open Go.RowKit Go.ChangeShapes Go.WideShapes

theorem Tryd.ownK : ownKnob Tryd.prog.godebug = none := by kernel_rfl
noncomputable def laidWorld (os : Os) : World :=
  let w0 := World.holding Tryd.prog os ⟨#[], #[], []⟩
  let put (h : Array Obj) (g : Nat) (cs : Array Value) : Array Obj := h.modify g fun
    | .cells _ t frozen => .cells cs t frozen
    | o => o
  let h1 := put w0.heap 1 (Lib.firstTab.map fun z => Value.int .u8 z).toArray
  let h2 := put h1 2 ((List.range 16).flatMap fun i => [Value.int .u8 (Lib.accLo i), Value.int .u8 (Lib.accHi i)]).toArray
  let h3 := put h2 0 #[.bool false, .bool false, .bool true, .bool true, .bool false, .bool false, .bool true, .bool false]
  { w0 with heap := h3 }
theorem laid_met (os : Os) (args : Array Value) : laidMet Tryd.prog [("unicode/utf8.acceptRanges", Rows.laid_unicode_utf8_acceptRanges), ("epitome/span.kinds", Rows.laid_epitome_span_kinds), ("unicode/utf8.first", Rows.laid_unicode_utf8_first)] ((laidWorld os).forCall (fun _ _ => 0) ⟨#[], args, []⟩).memory :=
  (LaidIn.of_run (l := [("unicode/utf8.acceptRanges", Rows.laid_unicode_utf8_acceptRanges), ("epitome/span.kinds", Rows.laid_epitome_span_kinds), ("unicode/utf8.first", Rows.laid_unicode_utf8_first)]) [2, 0, 1] 8 (by kernel_rfl) (by kernel_rfl) (by kernel_rfl) (by kernel_rfl)).met

end Go.Proofs.YtmfpfipjhhfbhaaDoor
