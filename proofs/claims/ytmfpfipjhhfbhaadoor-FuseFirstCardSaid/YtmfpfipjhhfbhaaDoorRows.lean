/-
  NARROWER THAN 'FOR EVERY INPUT', by the rows' own cells (each row's printed sentence says how): UnderTie: laid · UnderAll: laid · UnderDrops: laid · OverGaps: laid · UnderKeeps: laid · OverOne: laid · FuseAll: laid · FuseParts: laid · FuseCancels: laid · FuseOne: laid · FuseFirst: laid · ComposeDoes: laid.
  DERIVED. THE GIVEN ROWS OF THIS SEAT. 12 by the template 'for every input the law returns true; each argument reads behind the call as it read before'; 0 by the template 'total and deterministic' (their statements: YtmfpfipjhhfbhaaDoorTotals.lean).
  GIVEN WITH THE SEED: the statements are not yours to turn. If you find one false, say at which input.
  Laid BY PROGRAM, IN A SANDBOX (cutbox-rows.mjs): the forced cells as the released guide's own fill.sh prints them over the translation 90fc5148ac76dba4… (all of the seat's roots in one cut). By AI agents, Wed Nov 11 2026. No macro, syntax, notation, axiom, sorry.
-/
import Derived.Test.YtmfpfipjhhfbhaaDoorChecked
import GoSem.PinnedTables
import GoSem.Claim
import GoSem.ClaimJoined
import GoSem.ClaimMapViews
import Derived.JoinedTies
import Derived.KernelRfl
namespace Go.Proofs.YtmfpfipjhhfbhaaDoor
/- THE CELL 'sum', in the pinned program and in every row, IS THE sha256 OF THE DUMP (.gsa) THAT YtmfpfipjhhfbhaaDoorProg.lean LOADS. Nothing in Lean hashes anything: it is a label: what it is worth is what the hold of that sum in a sandbox is worth. -/
noncomputable def Tryd.pinned : Pinned := { name := "ytmfpfipjhhfbhaadoor", sum := "90fc5148ac76dba4f4de3d1ef5b5e0dfcde659807c37ed6c9505bf17f7b142c7", checked := Tryd.checked }
namespace Rows
def none {H : Type} : Left H := { results := [], args := [] }

/- WHAT THE LISTED PACKAGE-LEVEL VARIABLES READ AS WHEN THE CALL BEGINS. Each datum BY PROGRAM (the guide's laid-datum.mjs) off the statement by which the dump's own 'gosem.cut.vars' lays the variable. In a bare row this is a premise. The card (YtmfpfipjhhfbhaaDoorCards.lean) ties it to the program's text. -/
def laid_unicode_utf8_acceptRanges {H : Type} : DataW H := .agg [.agg [.lit (.int .u8 128), .lit (.int .u8 191)], .agg [.lit (.int .u8 160), .lit (.int .u8 191)], .agg [.lit (.int .u8 128), .lit (.int .u8 159)], .agg [.lit (.int .u8 144), .lit (.int .u8 191)], .agg [.lit (.int .u8 128), .lit (.int .u8 143)], .agg [.lit (.int .u8 0), .lit (.int .u8 0)], .agg [.lit (.int .u8 0), .lit (.int .u8 0)], .agg [.lit (.int .u8 0), .lit (.int .u8 0)], .agg [.lit (.int .u8 0), .lit (.int .u8 0)], .agg [.lit (.int .u8 0), .lit (.int .u8 0)], .agg [.lit (.int .u8 0), .lit (.int .u8 0)], .agg [.lit (.int .u8 0), .lit (.int .u8 0)], .agg [.lit (.int .u8 0), .lit (.int .u8 0)], .agg [.lit (.int .u8 0), .lit (.int .u8 0)], .agg [.lit (.int .u8 0), .lit (.int .u8 0)], .agg [.lit (.int .u8 0), .lit (.int .u8 0)]]
def laid_epitome_span_kinds {H : Type} : DataW H := .agg [.agg [.lit (.bool false), .lit (.bool false)], .agg [.lit (.bool true), .lit (.bool true)], .agg [.lit (.bool false), .lit (.bool false)], .agg [.lit (.bool true), .lit (.bool false)]]
/-- One of Go's own tables, pinned by name: the form's constant. -/
def laid_unicode_utf8_first : DataW Unit := Go.Pinned.utf8First

/-- 'epitomelaw12.UnderTie': WHATEVER THE INPUT: true; the input reads as it did. -/
def underTieSpec : ChangeSpec := { name := "underTie", fn := fun _ => fun
  | [d1, d2, d3] => { results := [.lit (.bool true)], args := [d1, d2, d3] }
  | _ => none }
def underTieRow : OpenClaim := { program := "ytmfpfipjhhfbhaadoor", sum := "90fc5148ac76dba4f4de3d1ef5b5e0dfcde659807c37ed6c9505bf17f7b142c7", func := "epitome/epitomelaw12.UnderTie", spec := "underTie", unfollowed := true, recurses := true, named := ["epitome/span.kinds", "unicode/utf8.first", "unicode/utf8.acceptRanges"], apart := false, laid := [("unicode/utf8.acceptRanges", laid_unicode_utf8_acceptRanges), ("epitome/span.kinds", laid_epitome_span_kinds), ("unicode/utf8.first", laid_unicode_utf8_first)] }
def UnderTieSaid : Prop := underTieRow.holds Tryd.pinned (OpenSpec.ofChange underTieSpec)

/-- ITS FALSE NEIGHBOUR: 'it returns false'. Refute it at one input. -/
def underTieWrong : ChangeSpec := { name := "underTie", fn := fun _ => fun
  | [d1, d2, d3] => { results := [.lit (.bool false)], args := [d1, d2, d3] }
  | _ => none }
def UnderTieWrongFalsely : Prop := underTieRow.holds Tryd.pinned (OpenSpec.ofChange underTieWrong)

/-- 'epitomelaw12.UnderAll': WHATEVER THE INPUT: true; the input reads as it did. -/
def underAllSpec : ChangeSpec := { name := "underAll", fn := fun _ => fun
  | [d1, d2, d3] => { results := [.lit (.bool true)], args := [d1, d2, d3] }
  | _ => none }
def underAllRow : OpenClaim := { program := "ytmfpfipjhhfbhaadoor", sum := "90fc5148ac76dba4f4de3d1ef5b5e0dfcde659807c37ed6c9505bf17f7b142c7", func := "epitome/epitomelaw12.UnderAll", spec := "underAll", unfollowed := true, recurses := true, named := ["epitome/span.kinds", "unicode/utf8.first", "unicode/utf8.acceptRanges"], apart := false, laid := [("unicode/utf8.acceptRanges", laid_unicode_utf8_acceptRanges), ("epitome/span.kinds", laid_epitome_span_kinds), ("unicode/utf8.first", laid_unicode_utf8_first)] }
def UnderAllSaid : Prop := underAllRow.holds Tryd.pinned (OpenSpec.ofChange underAllSpec)

/-- ITS FALSE NEIGHBOUR: 'it returns false'. Refute it at one input. -/
def underAllWrong : ChangeSpec := { name := "underAll", fn := fun _ => fun
  | [d1, d2, d3] => { results := [.lit (.bool false)], args := [d1, d2, d3] }
  | _ => none }
def UnderAllWrongFalsely : Prop := underAllRow.holds Tryd.pinned (OpenSpec.ofChange underAllWrong)

/-- 'epitomelaw12.UnderDrops': WHATEVER THE INPUT: true; the input reads as it did. -/
def underDropsSpec : ChangeSpec := { name := "underDrops", fn := fun _ => fun
  | [d1, d2, d3] => { results := [.lit (.bool true)], args := [d1, d2, d3] }
  | _ => none }
def underDropsRow : OpenClaim := { program := "ytmfpfipjhhfbhaadoor", sum := "90fc5148ac76dba4f4de3d1ef5b5e0dfcde659807c37ed6c9505bf17f7b142c7", func := "epitome/epitomelaw12.UnderDrops", spec := "underDrops", unfollowed := true, recurses := true, named := ["epitome/span.kinds", "unicode/utf8.first", "unicode/utf8.acceptRanges"], apart := false, laid := [("unicode/utf8.acceptRanges", laid_unicode_utf8_acceptRanges), ("epitome/span.kinds", laid_epitome_span_kinds), ("unicode/utf8.first", laid_unicode_utf8_first)] }
def UnderDropsSaid : Prop := underDropsRow.holds Tryd.pinned (OpenSpec.ofChange underDropsSpec)

/-- ITS FALSE NEIGHBOUR: 'it returns false'. Refute it at one input. -/
def underDropsWrong : ChangeSpec := { name := "underDrops", fn := fun _ => fun
  | [d1, d2, d3] => { results := [.lit (.bool false)], args := [d1, d2, d3] }
  | _ => none }
def UnderDropsWrongFalsely : Prop := underDropsRow.holds Tryd.pinned (OpenSpec.ofChange underDropsWrong)

/-- 'epitomelaw11.OverGaps': WHATEVER THE INPUT: true; the input reads as it did. -/
def overGapsSpec : ChangeSpec := { name := "overGaps", fn := fun _ => fun
  | [d1, d2, d3] => { results := [.lit (.bool true)], args := [d1, d2, d3] }
  | _ => none }
def overGapsRow : OpenClaim := { program := "ytmfpfipjhhfbhaadoor", sum := "90fc5148ac76dba4f4de3d1ef5b5e0dfcde659807c37ed6c9505bf17f7b142c7", func := "epitome/epitomelaw11.OverGaps", spec := "overGaps", unfollowed := true, recurses := true, named := ["epitome/span.kinds", "unicode/utf8.first", "unicode/utf8.acceptRanges"], apart := false, laid := [("unicode/utf8.acceptRanges", laid_unicode_utf8_acceptRanges), ("epitome/span.kinds", laid_epitome_span_kinds), ("unicode/utf8.first", laid_unicode_utf8_first)] }
def OverGapsSaid : Prop := overGapsRow.holds Tryd.pinned (OpenSpec.ofChange overGapsSpec)

/-- ITS FALSE NEIGHBOUR: 'it returns false'. Refute it at one input. -/
def overGapsWrong : ChangeSpec := { name := "overGaps", fn := fun _ => fun
  | [d1, d2, d3] => { results := [.lit (.bool false)], args := [d1, d2, d3] }
  | _ => none }
def OverGapsWrongFalsely : Prop := overGapsRow.holds Tryd.pinned (OpenSpec.ofChange overGapsWrong)

/-- 'epitomelaw12.UnderKeeps': WHATEVER THE INPUT: true; the input reads as it did. -/
def underKeepsSpec : ChangeSpec := { name := "underKeeps", fn := fun _ => fun
  | [d1, d2] => { results := [.lit (.bool true)], args := [d1, d2] }
  | _ => none }
def underKeepsRow : OpenClaim := { program := "ytmfpfipjhhfbhaadoor", sum := "90fc5148ac76dba4f4de3d1ef5b5e0dfcde659807c37ed6c9505bf17f7b142c7", func := "epitome/epitomelaw12.UnderKeeps", spec := "underKeeps", unfollowed := true, recurses := true, named := ["epitome/span.kinds", "unicode/utf8.first", "unicode/utf8.acceptRanges"], apart := false, laid := [("unicode/utf8.acceptRanges", laid_unicode_utf8_acceptRanges), ("epitome/span.kinds", laid_epitome_span_kinds), ("unicode/utf8.first", laid_unicode_utf8_first)] }
def UnderKeepsSaid : Prop := underKeepsRow.holds Tryd.pinned (OpenSpec.ofChange underKeepsSpec)

/-- ITS FALSE NEIGHBOUR: 'it returns false'. Refute it at one input. -/
def underKeepsWrong : ChangeSpec := { name := "underKeeps", fn := fun _ => fun
  | [d1, d2] => { results := [.lit (.bool false)], args := [d1, d2] }
  | _ => none }
def UnderKeepsWrongFalsely : Prop := underKeepsRow.holds Tryd.pinned (OpenSpec.ofChange underKeepsWrong)

/-- 'epitomelaw11.OverOne': WHATEVER THE INPUT: true; the input reads as it did. -/
def overOneSpec : ChangeSpec := { name := "overOne", fn := fun _ => fun
  | [d1, d2, d3] => { results := [.lit (.bool true)], args := [d1, d2, d3] }
  | _ => none }
def overOneRow : OpenClaim := { program := "ytmfpfipjhhfbhaadoor", sum := "90fc5148ac76dba4f4de3d1ef5b5e0dfcde659807c37ed6c9505bf17f7b142c7", func := "epitome/epitomelaw11.OverOne", spec := "overOne", unfollowed := true, recurses := true, named := ["epitome/span.kinds", "unicode/utf8.first", "unicode/utf8.acceptRanges"], apart := false, laid := [("unicode/utf8.acceptRanges", laid_unicode_utf8_acceptRanges), ("epitome/span.kinds", laid_epitome_span_kinds), ("unicode/utf8.first", laid_unicode_utf8_first)] }
def OverOneSaid : Prop := overOneRow.holds Tryd.pinned (OpenSpec.ofChange overOneSpec)

/-- ITS FALSE NEIGHBOUR: 'it returns false'. Refute it at one input. -/
def overOneWrong : ChangeSpec := { name := "overOne", fn := fun _ => fun
  | [d1, d2, d3] => { results := [.lit (.bool false)], args := [d1, d2, d3] }
  | _ => none }
def OverOneWrongFalsely : Prop := overOneRow.holds Tryd.pinned (OpenSpec.ofChange overOneWrong)

/-- 'epitomelaw10.FuseAll': WHATEVER THE INPUT: true; the input reads as it did. -/
def fuseAllSpec : ChangeSpec := { name := "fuseAll", fn := fun _ => fun
  | [d1, d2, d3] => { results := [.lit (.bool true)], args := [d1, d2, d3] }
  | _ => none }
def fuseAllRow : OpenClaim := { program := "ytmfpfipjhhfbhaadoor", sum := "90fc5148ac76dba4f4de3d1ef5b5e0dfcde659807c37ed6c9505bf17f7b142c7", func := "epitome/epitomelaw10.FuseAll", spec := "fuseAll", unfollowed := true, recurses := true, named := ["epitome/span.kinds", "unicode/utf8.first", "unicode/utf8.acceptRanges"], apart := false, laid := [("unicode/utf8.acceptRanges", laid_unicode_utf8_acceptRanges), ("epitome/span.kinds", laid_epitome_span_kinds), ("unicode/utf8.first", laid_unicode_utf8_first)] }
def FuseAllSaid : Prop := fuseAllRow.holds Tryd.pinned (OpenSpec.ofChange fuseAllSpec)

/-- ITS FALSE NEIGHBOUR: 'it returns false'. Refute it at one input. -/
def fuseAllWrong : ChangeSpec := { name := "fuseAll", fn := fun _ => fun
  | [d1, d2, d3] => { results := [.lit (.bool false)], args := [d1, d2, d3] }
  | _ => none }
def FuseAllWrongFalsely : Prop := fuseAllRow.holds Tryd.pinned (OpenSpec.ofChange fuseAllWrong)

/-- 'epitomelaw10.FuseParts': WHATEVER THE INPUT: true; the input reads as it did. -/
def fusePartsSpec : ChangeSpec := { name := "fuseParts", fn := fun _ => fun
  | [d1, d2, d3] => { results := [.lit (.bool true)], args := [d1, d2, d3] }
  | _ => none }
def fusePartsRow : OpenClaim := { program := "ytmfpfipjhhfbhaadoor", sum := "90fc5148ac76dba4f4de3d1ef5b5e0dfcde659807c37ed6c9505bf17f7b142c7", func := "epitome/epitomelaw10.FuseParts", spec := "fuseParts", unfollowed := true, recurses := true, named := ["epitome/span.kinds", "unicode/utf8.first", "unicode/utf8.acceptRanges"], apart := false, laid := [("unicode/utf8.acceptRanges", laid_unicode_utf8_acceptRanges), ("epitome/span.kinds", laid_epitome_span_kinds), ("unicode/utf8.first", laid_unicode_utf8_first)] }
def FusePartsSaid : Prop := fusePartsRow.holds Tryd.pinned (OpenSpec.ofChange fusePartsSpec)

/-- ITS FALSE NEIGHBOUR: 'it returns false'. Refute it at one input. -/
def fusePartsWrong : ChangeSpec := { name := "fuseParts", fn := fun _ => fun
  | [d1, d2, d3] => { results := [.lit (.bool false)], args := [d1, d2, d3] }
  | _ => none }
def FusePartsWrongFalsely : Prop := fusePartsRow.holds Tryd.pinned (OpenSpec.ofChange fusePartsWrong)

/-- 'epitomelaw10.FuseCancels': WHATEVER THE INPUT: true; the input reads as it did. -/
def fuseCancelsSpec : ChangeSpec := { name := "fuseCancels", fn := fun _ => fun
  | [d1, d2, d3] => { results := [.lit (.bool true)], args := [d1, d2, d3] }
  | _ => none }
def fuseCancelsRow : OpenClaim := { program := "ytmfpfipjhhfbhaadoor", sum := "90fc5148ac76dba4f4de3d1ef5b5e0dfcde659807c37ed6c9505bf17f7b142c7", func := "epitome/epitomelaw10.FuseCancels", spec := "fuseCancels", unfollowed := true, recurses := true, named := ["epitome/span.kinds", "unicode/utf8.first", "unicode/utf8.acceptRanges"], apart := false, laid := [("unicode/utf8.acceptRanges", laid_unicode_utf8_acceptRanges), ("epitome/span.kinds", laid_epitome_span_kinds), ("unicode/utf8.first", laid_unicode_utf8_first)] }
def FuseCancelsSaid : Prop := fuseCancelsRow.holds Tryd.pinned (OpenSpec.ofChange fuseCancelsSpec)

/-- ITS FALSE NEIGHBOUR: 'it returns false'. Refute it at one input. -/
def fuseCancelsWrong : ChangeSpec := { name := "fuseCancels", fn := fun _ => fun
  | [d1, d2, d3] => { results := [.lit (.bool false)], args := [d1, d2, d3] }
  | _ => none }
def FuseCancelsWrongFalsely : Prop := fuseCancelsRow.holds Tryd.pinned (OpenSpec.ofChange fuseCancelsWrong)

/-- 'epitomelaw10.FuseOne': WHATEVER THE INPUT: true; the input reads as it did. -/
def fuseOneSpec : ChangeSpec := { name := "fuseOne", fn := fun _ => fun
  | [d1, d2, d3] => { results := [.lit (.bool true)], args := [d1, d2, d3] }
  | _ => none }
def fuseOneRow : OpenClaim := { program := "ytmfpfipjhhfbhaadoor", sum := "90fc5148ac76dba4f4de3d1ef5b5e0dfcde659807c37ed6c9505bf17f7b142c7", func := "epitome/epitomelaw10.FuseOne", spec := "fuseOne", unfollowed := true, recurses := true, named := ["epitome/span.kinds", "unicode/utf8.first", "unicode/utf8.acceptRanges"], apart := false, laid := [("unicode/utf8.acceptRanges", laid_unicode_utf8_acceptRanges), ("epitome/span.kinds", laid_epitome_span_kinds), ("unicode/utf8.first", laid_unicode_utf8_first)] }
def FuseOneSaid : Prop := fuseOneRow.holds Tryd.pinned (OpenSpec.ofChange fuseOneSpec)

/-- ITS FALSE NEIGHBOUR: 'it returns false'. Refute it at one input. -/
def fuseOneWrong : ChangeSpec := { name := "fuseOne", fn := fun _ => fun
  | [d1, d2, d3] => { results := [.lit (.bool false)], args := [d1, d2, d3] }
  | _ => none }
def FuseOneWrongFalsely : Prop := fuseOneRow.holds Tryd.pinned (OpenSpec.ofChange fuseOneWrong)

/-- 'epitomelaw10.FuseFirst': WHATEVER THE INPUT: true; the input reads as it did. -/
def fuseFirstSpec : ChangeSpec := { name := "fuseFirst", fn := fun _ => fun
  | [d1, d2, d3] => { results := [.lit (.bool true)], args := [d1, d2, d3] }
  | _ => none }
def fuseFirstRow : OpenClaim := { program := "ytmfpfipjhhfbhaadoor", sum := "90fc5148ac76dba4f4de3d1ef5b5e0dfcde659807c37ed6c9505bf17f7b142c7", func := "epitome/epitomelaw10.FuseFirst", spec := "fuseFirst", unfollowed := true, recurses := true, named := ["epitome/span.kinds", "unicode/utf8.first", "unicode/utf8.acceptRanges"], apart := false, laid := [("unicode/utf8.acceptRanges", laid_unicode_utf8_acceptRanges), ("epitome/span.kinds", laid_epitome_span_kinds), ("unicode/utf8.first", laid_unicode_utf8_first)] }
def FuseFirstSaid : Prop := fuseFirstRow.holds Tryd.pinned (OpenSpec.ofChange fuseFirstSpec)

/-- ITS FALSE NEIGHBOUR: 'it returns false'. Refute it at one input. -/
def fuseFirstWrong : ChangeSpec := { name := "fuseFirst", fn := fun _ => fun
  | [d1, d2, d3] => { results := [.lit (.bool false)], args := [d1, d2, d3] }
  | _ => none }
def FuseFirstWrongFalsely : Prop := fuseFirstRow.holds Tryd.pinned (OpenSpec.ofChange fuseFirstWrong)

/-- 'epitomelaw09.ComposeDoes': WHATEVER THE INPUT: true; the input reads as it did. -/
def composeDoesSpec : ChangeSpec := { name := "composeDoes", fn := fun _ => fun
  | [d1, d2, d3] => { results := [.lit (.bool true)], args := [d1, d2, d3] }
  | _ => none }
def composeDoesRow : OpenClaim := { program := "ytmfpfipjhhfbhaadoor", sum := "90fc5148ac76dba4f4de3d1ef5b5e0dfcde659807c37ed6c9505bf17f7b142c7", func := "epitome/epitomelaw09.ComposeDoes", spec := "composeDoes", unfollowed := true, recurses := true, named := ["epitome/span.kinds", "unicode/utf8.first", "unicode/utf8.acceptRanges"], apart := false, laid := [("unicode/utf8.acceptRanges", laid_unicode_utf8_acceptRanges), ("epitome/span.kinds", laid_epitome_span_kinds), ("unicode/utf8.first", laid_unicode_utf8_first)] }
def ComposeDoesSaid : Prop := composeDoesRow.holds Tryd.pinned (OpenSpec.ofChange composeDoesSpec)

/-- ITS FALSE NEIGHBOUR: 'it returns false'. Refute it at one input. -/
def composeDoesWrong : ChangeSpec := { name := "composeDoes", fn := fun _ => fun
  | [d1, d2, d3] => { results := [.lit (.bool false)], args := [d1, d2, d3] }
  | _ => none }
def ComposeDoesWrongFalsely : Prop := composeDoesRow.holds Tryd.pinned (OpenSpec.ofChange composeDoesWrong)

/- THE SECOND FORM. 'bulk': how many values and letters a reading holds, each counted each time it is reached (what is shared counts as often as it is met; a slice's spare places count too). A statement '..UptoSaid' is the law's where the arguments, and the package variables that the reading takes, are together of bulk at most 1048576: NARROWER than '..Said'. Prove '..Said' where nothing that the law and all that it calls make is longer than what came in: it says more and counts as full. Else prove '..UptoSaid'. A law counts once. -/
mutual
def uptoBulk {H : Type} : DataW H → Nat
  | .lit (.string bytes) => bytes.length + 1
  | .lit _ => 1
  | .nil => 1
  | .ptr d => uptoBulk d + 1
  | .slice elems spare => uptoBulkAll elems + uptoBulkAll spare + 1
  | .agg parts => uptoBulkAll parts + 1
  | .iface _ d => uptoBulk d + 1
  | .map entries => uptoBulkEntries entries + 1
  | .held _ => 1
def uptoBulkAll {H : Type} : List (DataW H) → Nat
  | [] => 0
  | d :: r => uptoBulk d + uptoBulkAll r
def uptoBulkEntries {H : Type} : List (Lit × DataW H) → Nat
  | [] => 0
  | x :: r => uptoBulkEntry x + uptoBulkEntries r
def uptoBulkEntry {H : Type} : Lit × DataW H → Nat
  | (.string bytes, d) => bytes.length + uptoBulk d + 1
  | (_, d) => uptoBulk d + 1
 end
def uptoSmall : (H : Type) → List (DataW H) → Bool := fun _ ds => decide (uptoBulkAll ds ≤ 1048576)
def OpenSpec.upto (s : _root_.Go.ChangeSpec) : _root_.Go.OpenSpec := { _root_.Go.OpenSpec.ofChange s with cond := some uptoSmall }

/-- 'epitomelaw12.UnderTie', WHERE WHAT IT READS IS OF BULK AT MOST 1048576: true; the input reads as it did. -/
def underTieUptoRow : OpenClaim := { program := "ytmfpfipjhhfbhaadoor", sum := "90fc5148ac76dba4f4de3d1ef5b5e0dfcde659807c37ed6c9505bf17f7b142c7", func := "epitome/epitomelaw12.UnderTie", spec := "underTie", unfollowed := true, recurses := true, named := ["epitome/span.kinds", "unicode/utf8.first", "unicode/utf8.acceptRanges"], apart := false, laid := [("unicode/utf8.acceptRanges", laid_unicode_utf8_acceptRanges), ("epitome/span.kinds", laid_epitome_span_kinds), ("unicode/utf8.first", laid_unicode_utf8_first)], narrowed := true }
def UnderTieUptoSaid : Prop := underTieUptoRow.holds Tryd.pinned (OpenSpec.upto underTieSpec)

/-- 'epitomelaw12.UnderAll', WHERE WHAT IT READS IS OF BULK AT MOST 1048576: true; the input reads as it did. -/
def underAllUptoRow : OpenClaim := { program := "ytmfpfipjhhfbhaadoor", sum := "90fc5148ac76dba4f4de3d1ef5b5e0dfcde659807c37ed6c9505bf17f7b142c7", func := "epitome/epitomelaw12.UnderAll", spec := "underAll", unfollowed := true, recurses := true, named := ["epitome/span.kinds", "unicode/utf8.first", "unicode/utf8.acceptRanges"], apart := false, laid := [("unicode/utf8.acceptRanges", laid_unicode_utf8_acceptRanges), ("epitome/span.kinds", laid_epitome_span_kinds), ("unicode/utf8.first", laid_unicode_utf8_first)], narrowed := true }
def UnderAllUptoSaid : Prop := underAllUptoRow.holds Tryd.pinned (OpenSpec.upto underAllSpec)

/-- 'epitomelaw12.UnderDrops', WHERE WHAT IT READS IS OF BULK AT MOST 1048576: true; the input reads as it did. -/
def underDropsUptoRow : OpenClaim := { program := "ytmfpfipjhhfbhaadoor", sum := "90fc5148ac76dba4f4de3d1ef5b5e0dfcde659807c37ed6c9505bf17f7b142c7", func := "epitome/epitomelaw12.UnderDrops", spec := "underDrops", unfollowed := true, recurses := true, named := ["epitome/span.kinds", "unicode/utf8.first", "unicode/utf8.acceptRanges"], apart := false, laid := [("unicode/utf8.acceptRanges", laid_unicode_utf8_acceptRanges), ("epitome/span.kinds", laid_epitome_span_kinds), ("unicode/utf8.first", laid_unicode_utf8_first)], narrowed := true }
def UnderDropsUptoSaid : Prop := underDropsUptoRow.holds Tryd.pinned (OpenSpec.upto underDropsSpec)

/-- 'epitomelaw11.OverGaps', WHERE WHAT IT READS IS OF BULK AT MOST 1048576: true; the input reads as it did. -/
def overGapsUptoRow : OpenClaim := { program := "ytmfpfipjhhfbhaadoor", sum := "90fc5148ac76dba4f4de3d1ef5b5e0dfcde659807c37ed6c9505bf17f7b142c7", func := "epitome/epitomelaw11.OverGaps", spec := "overGaps", unfollowed := true, recurses := true, named := ["epitome/span.kinds", "unicode/utf8.first", "unicode/utf8.acceptRanges"], apart := false, laid := [("unicode/utf8.acceptRanges", laid_unicode_utf8_acceptRanges), ("epitome/span.kinds", laid_epitome_span_kinds), ("unicode/utf8.first", laid_unicode_utf8_first)], narrowed := true }
def OverGapsUptoSaid : Prop := overGapsUptoRow.holds Tryd.pinned (OpenSpec.upto overGapsSpec)

/-- 'epitomelaw12.UnderKeeps', WHERE WHAT IT READS IS OF BULK AT MOST 1048576: true; the input reads as it did. -/
def underKeepsUptoRow : OpenClaim := { program := "ytmfpfipjhhfbhaadoor", sum := "90fc5148ac76dba4f4de3d1ef5b5e0dfcde659807c37ed6c9505bf17f7b142c7", func := "epitome/epitomelaw12.UnderKeeps", spec := "underKeeps", unfollowed := true, recurses := true, named := ["epitome/span.kinds", "unicode/utf8.first", "unicode/utf8.acceptRanges"], apart := false, laid := [("unicode/utf8.acceptRanges", laid_unicode_utf8_acceptRanges), ("epitome/span.kinds", laid_epitome_span_kinds), ("unicode/utf8.first", laid_unicode_utf8_first)], narrowed := true }
def UnderKeepsUptoSaid : Prop := underKeepsUptoRow.holds Tryd.pinned (OpenSpec.upto underKeepsSpec)

/-- 'epitomelaw11.OverOne', WHERE WHAT IT READS IS OF BULK AT MOST 1048576: true; the input reads as it did. -/
def overOneUptoRow : OpenClaim := { program := "ytmfpfipjhhfbhaadoor", sum := "90fc5148ac76dba4f4de3d1ef5b5e0dfcde659807c37ed6c9505bf17f7b142c7", func := "epitome/epitomelaw11.OverOne", spec := "overOne", unfollowed := true, recurses := true, named := ["epitome/span.kinds", "unicode/utf8.first", "unicode/utf8.acceptRanges"], apart := false, laid := [("unicode/utf8.acceptRanges", laid_unicode_utf8_acceptRanges), ("epitome/span.kinds", laid_epitome_span_kinds), ("unicode/utf8.first", laid_unicode_utf8_first)], narrowed := true }
def OverOneUptoSaid : Prop := overOneUptoRow.holds Tryd.pinned (OpenSpec.upto overOneSpec)

/-- 'epitomelaw10.FuseAll', WHERE WHAT IT READS IS OF BULK AT MOST 1048576: true; the input reads as it did. -/
def fuseAllUptoRow : OpenClaim := { program := "ytmfpfipjhhfbhaadoor", sum := "90fc5148ac76dba4f4de3d1ef5b5e0dfcde659807c37ed6c9505bf17f7b142c7", func := "epitome/epitomelaw10.FuseAll", spec := "fuseAll", unfollowed := true, recurses := true, named := ["epitome/span.kinds", "unicode/utf8.first", "unicode/utf8.acceptRanges"], apart := false, laid := [("unicode/utf8.acceptRanges", laid_unicode_utf8_acceptRanges), ("epitome/span.kinds", laid_epitome_span_kinds), ("unicode/utf8.first", laid_unicode_utf8_first)], narrowed := true }
def FuseAllUptoSaid : Prop := fuseAllUptoRow.holds Tryd.pinned (OpenSpec.upto fuseAllSpec)

/-- 'epitomelaw10.FuseParts', WHERE WHAT IT READS IS OF BULK AT MOST 1048576: true; the input reads as it did. -/
def fusePartsUptoRow : OpenClaim := { program := "ytmfpfipjhhfbhaadoor", sum := "90fc5148ac76dba4f4de3d1ef5b5e0dfcde659807c37ed6c9505bf17f7b142c7", func := "epitome/epitomelaw10.FuseParts", spec := "fuseParts", unfollowed := true, recurses := true, named := ["epitome/span.kinds", "unicode/utf8.first", "unicode/utf8.acceptRanges"], apart := false, laid := [("unicode/utf8.acceptRanges", laid_unicode_utf8_acceptRanges), ("epitome/span.kinds", laid_epitome_span_kinds), ("unicode/utf8.first", laid_unicode_utf8_first)], narrowed := true }
def FusePartsUptoSaid : Prop := fusePartsUptoRow.holds Tryd.pinned (OpenSpec.upto fusePartsSpec)

/-- 'epitomelaw10.FuseCancels', WHERE WHAT IT READS IS OF BULK AT MOST 1048576: true; the input reads as it did. -/
def fuseCancelsUptoRow : OpenClaim := { program := "ytmfpfipjhhfbhaadoor", sum := "90fc5148ac76dba4f4de3d1ef5b5e0dfcde659807c37ed6c9505bf17f7b142c7", func := "epitome/epitomelaw10.FuseCancels", spec := "fuseCancels", unfollowed := true, recurses := true, named := ["epitome/span.kinds", "unicode/utf8.first", "unicode/utf8.acceptRanges"], apart := false, laid := [("unicode/utf8.acceptRanges", laid_unicode_utf8_acceptRanges), ("epitome/span.kinds", laid_epitome_span_kinds), ("unicode/utf8.first", laid_unicode_utf8_first)], narrowed := true }
def FuseCancelsUptoSaid : Prop := fuseCancelsUptoRow.holds Tryd.pinned (OpenSpec.upto fuseCancelsSpec)

/-- 'epitomelaw10.FuseOne', WHERE WHAT IT READS IS OF BULK AT MOST 1048576: true; the input reads as it did. -/
def fuseOneUptoRow : OpenClaim := { program := "ytmfpfipjhhfbhaadoor", sum := "90fc5148ac76dba4f4de3d1ef5b5e0dfcde659807c37ed6c9505bf17f7b142c7", func := "epitome/epitomelaw10.FuseOne", spec := "fuseOne", unfollowed := true, recurses := true, named := ["epitome/span.kinds", "unicode/utf8.first", "unicode/utf8.acceptRanges"], apart := false, laid := [("unicode/utf8.acceptRanges", laid_unicode_utf8_acceptRanges), ("epitome/span.kinds", laid_epitome_span_kinds), ("unicode/utf8.first", laid_unicode_utf8_first)], narrowed := true }
def FuseOneUptoSaid : Prop := fuseOneUptoRow.holds Tryd.pinned (OpenSpec.upto fuseOneSpec)

/-- 'epitomelaw10.FuseFirst', WHERE WHAT IT READS IS OF BULK AT MOST 1048576: true; the input reads as it did. -/
def fuseFirstUptoRow : OpenClaim := { program := "ytmfpfipjhhfbhaadoor", sum := "90fc5148ac76dba4f4de3d1ef5b5e0dfcde659807c37ed6c9505bf17f7b142c7", func := "epitome/epitomelaw10.FuseFirst", spec := "fuseFirst", unfollowed := true, recurses := true, named := ["epitome/span.kinds", "unicode/utf8.first", "unicode/utf8.acceptRanges"], apart := false, laid := [("unicode/utf8.acceptRanges", laid_unicode_utf8_acceptRanges), ("epitome/span.kinds", laid_epitome_span_kinds), ("unicode/utf8.first", laid_unicode_utf8_first)], narrowed := true }
def FuseFirstUptoSaid : Prop := fuseFirstUptoRow.holds Tryd.pinned (OpenSpec.upto fuseFirstSpec)

/-- 'epitomelaw09.ComposeDoes', WHERE WHAT IT READS IS OF BULK AT MOST 1048576: true; the input reads as it did. -/
def composeDoesUptoRow : OpenClaim := { program := "ytmfpfipjhhfbhaadoor", sum := "90fc5148ac76dba4f4de3d1ef5b5e0dfcde659807c37ed6c9505bf17f7b142c7", func := "epitome/epitomelaw09.ComposeDoes", spec := "composeDoes", unfollowed := true, recurses := true, named := ["epitome/span.kinds", "unicode/utf8.first", "unicode/utf8.acceptRanges"], apart := false, laid := [("unicode/utf8.acceptRanges", laid_unicode_utf8_acceptRanges), ("epitome/span.kinds", laid_epitome_span_kinds), ("unicode/utf8.first", laid_unicode_utf8_first)], narrowed := true }
def ComposeDoesUptoSaid : Prop := composeDoesUptoRow.holds Tryd.pinned (OpenSpec.upto composeDoesSpec)

end Rows
end Go.Proofs.YtmfpfipjhhfbhaaDoor
