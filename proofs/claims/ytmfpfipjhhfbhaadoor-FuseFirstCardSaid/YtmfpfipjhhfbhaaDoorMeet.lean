/- The contract of under.Meet; and over.Of, under.Of, under.Meet of any two. -/
import Derived.Test.YtmfpfipjhhfbhaaDoorUnder
namespace Go.Proofs.YtmfpfipjhhfbhaaDoor
open Go.RowKit Go.Proofs.YtmfpfipjhhfbhaaDoorW.PrintWords

/-- A row that a function gives: what is in it, in memory of the call's own. -/
def Gives (w w' : World) (v : Value) (xs : List Sp) : Prop := Kd.R kSp 26 w' w.heap.size (fun _ => True) v xs
theorem Fit2.swap {xs ys : List Sp} (h : Fit2 xs ys) : Fit2 ys xs := ⟨h.vy, h.vx, h.io.symm, by rw [← h.io]; exact h.few, h.ly, h.lx, h.bound_y, h.bx⟩

set_option maxRecDepth 100000 in
set_option maxHeartbeats 1000000 in
theorem meet_ok (A B : Option Addr) (ca cb : Nat) (xs ys : List Sp) (w : World) (hL : Laid w) (hx : Kd.C kSp w A xs.length xs) (hy : Kd.C kSp w B ys.length ys) (hF : Fit2 xs ys) :
    Calls Tryd.prog 25 #[.slice A xs.length ca, .slice B ys.length cb] w fun e w' => ∃ v u, e = .returned (.tuple #[v, u, .int .i64 0]) ∧ Gives w w' v (ofA (overA (atoms xs) (atoms ys))) ∧ Gives w w' u (ofA (underA (atoms ys) (atoms xs))) ∧ Below w.heap.size w w' := by
  have HX := Aside0.mk hx
  have HY := Aside0.mk hy
  have c1 := over_ok A B ca cb xs ys w hL hx hy hF
  clear hx hy
  go_enter Tryd.func25, Tryd.ntmps25
  go_wp2_with fail
  refine c1.mono ?_
  rintro e w1 ⟨v, rfl, hv, hb1⟩
  obtain ⟨Av, cv, rfl⟩ := Kd.R_slice hv
  have hL1 := hL.below hb1
  have c2 := under_ok B A cb ca ys xs w1 hL1 (Kd.C_below HY.out hb1) (Kd.C_below HX.out hb1) hF.swap hL1.size
  clear c1
  go_wp2_with fail
  refine c2.mono ?_
  rintro e w2 ⟨u, rfl, hu, hb2⟩
  obtain ⟨Au, cu, rfl⟩ := Kd.R_slice hu
  clear c2
  go_wp2_with fail
  refine bodyPost_ret (v := .tuple #[_, _, .int .i64 0]) (by simp [results, Tryd.results25, go_sem]) rfl ⟨_, _, rfl, Kd.R_below hv hb2, Kd.R_lower hu hb1.size, hb1.trans (hb2.mono hb1.size)⟩

end Go.Proofs.YtmfpfipjhhfbhaaDoor
