/- compose's newReader; what its readers hold, in steps. -/
import Derived.Test.YtmfpfipjhhfbhaaDoorReader2
import Derived.Test.YtmfpfipjhhfbhaaDoorOverOk
namespace Go.Proofs.YtmfpfipjhhfbhaaDoor
open Go.RowKit Go.Proofs.YtmfpfipjhhfbhaaDoorW.PrintWords

def NewPost (xs : List Sp) (w : World) (e : Ending) (w' : World) : Prop :=
  ∃ p, e = .returned (.pointer (some ⟨p, 0, none⟩)) ∧ Rdr w' p w.heap.size (normS xs) (firstT (normS xs)) ∧ w.heap.size < p ∧ p < w'.heap.size ∧ Below w.heap.size w w'
set_option maxRecDepth 100000 in
set_option maxHeartbeats 1000000 in
theorem newReader_calls (A : Option Addr) (c : Nat) (xs : List Sp) (w : World) (hr : Kd.C kSp w A xs.length xs) (hm : xs.length ≤ 4194304) (hb : bytesL xs ≤ 4194304) (hT : ∀ s ∈ normS xs, s.t.size ≤ 1048576 ∧ txtOk s.t = true) :
    Calls Tryd.prog 68 #[.slice A xs.length c] w (NewPost xs w) := by
  have n1 := normOf_calls A c xs w hr (by omega) (by omega)
  clear hr
  go_enter Tryd.func68, Tryd.ntmps68
  go_wp2_with fail
  refine n1.mono ?_
  intro e w1 hN
  obtain ⟨v, rfl, hR, hb1⟩ := Rd.of_norm hN (by omega)
  clear hN n1
  have hlt := hR.lt
  obtain ⟨Av, cv, nX, rfl, hnX, HnX⟩ := hR.formN
  have hR2 := hR.alloc (.cells #[.slice Av nX cv, .slice none 0 0] 114)
  have hp2 := blk_new w1 (.cells #[.slice Av nX cv, .slice none 0 0] 114)
  have lc := load_calls w1.heap.size w.heap.size (normS xs) _ _ _ hp2 hR2 hT
  have HR2 := Lib.hid hR2
  clear hR hR2 hp2
  go_wp2_with fail
  refine lc.mono ?_
  rintro e w3 ⟨rfl, tv3, hp5, hR5, hg5⟩
  have hW : Rdr w3 w1.heap.size w.heap.size (normS xs) (firstT (normS xs)) := ⟨_, tv3, hp5, HR2.out.grown hg5 (by intro e; injection e with e; omega), hR5⟩
  have hpl := blk_lt hp5
  have hB : Below w.heap.size w w3 := ((hb1.alloc hb1.size _).grown hg5 (by simp; omega) (by simp; omega))
  clear lc hp5 hR5 hg5
  go_wp2_with fail
  go_ret
  exact ⟨w1.heap.size, rfl, hW, hlt, hpl, hB⟩

end Go.Proofs.YtmfpfipjhhfbhaaDoor
