/- epitomelaw10.shown is true. -/
import Derived.Test.YtmfpfipjhhfbhaaDoorFuse
import Derived.Test.YtmfpfipjhhfbhaaDoorWEqStruct
namespace Go.Proofs.YtmfpfipjhhfbhaaDoor
open Go.Lib Go.RowKit Go.Proofs.YtmfpfipjhhfbhaaDoorW.PrintWords

theorem good97 : goodC 97 := by unfold goodC; omega
theorem g97 : ∀ c ∈ [97], goodC c := fun c h => by rw [List.mem_singleton.1 h]; exact good97
def r10a : List Sp := [⟨2, 0, ⟨#[97]⟩⟩, ⟨1, 1, ⟨#[]⟩⟩]
def r10b : List Sp := [⟨3, 1, ⟨#[]⟩⟩, ⟨1, 1, ⟨#[]⟩⟩]
theorem w10a : Rw r10a [.put 97, .keep] 20 := (rw_put [97] g97 (rw_keep 1 (by omega) (rw_nil 1))).up (by decide)
theorem w10b : Rw r10b [.drop, .keep] 20 := (rw_drop 1 (by omega) (rw_keep 1 (by omega) (rw_nil 1))).up (by decide)
theorem c10 : Chn 1 [r10a, r10b] := ⟨by rw [w10a.ato]; rfl, by rw [w10a.ato, w10b.ato]; rfl, trivial⟩
theorem b10 : Bnd [r10a, r10b] 20 := ⟨fun X hX => by
  simp at hX
  rcases hX with rfl | rfl
  · have h := w10a; rw [← h.ato] at h; exact h
  · have h := w10b; rw [← h.ato] at h; exact h⟩
theorem o10 : ofA (fuseA 1 [r10a, r10b]) = [⟨1, 1, ⟨#[]⟩⟩] := by
  have h : fuseA 1 [r10a, r10b] = List.replicate 1 .keep := by
    show compA (compA [.keep] (atoms r10a)) (atoms r10b) = _
    rw [w10a.ato, w10b.ato, comp_bput, comp_xk .keep trivial, comp_nn, comp_pd, comp_xk .keep trivial, comp_nn]
    rfl
  rw [h, ofA_keeps 1 (by omega)]
  rfl
theorem lit10a : (#[.int .i64 2, .int .i64 0, .string ⟨#[97]⟩, .int .i64 1, .int .i64 1, .string ⟨#[]⟩] : Array Value) = (spCells r10a).toArray := rfl
theorem lit10b : (#[.int .i64 3, .int .i64 1, .string ⟨#[]⟩, .int .i64 1, .int .i64 1, .string ⟨#[]⟩] : Array Value) = (spCells r10b).toArray := rfl
set_option maxRecDepth 100000 in
set_option maxHeartbeats 1000000 in
theorem shown10_calls (w : World) (hL : Laid w) : Calls Tryd.prog 36 #[] w fun e w' => e = .returned (.bool true) ∧ Below w.heap.size w w' := by
  have e0 := Env.start hL
  have e1 := (e0.lit r10a (by decide)).lit r10b (by decide)
  have hz : (w.alloc (.cells (spCells r10a).toArray 26)).heap.size = w.heap.size + 1 := by simp
  rw [hz] at e1
  have e2 := e1.lits [(some ⟨w.heap.size, 0, none⟩, r10a, 2), (some ⟨w.heap.size + 1, 0, none⟩, r10b, 2)] (fun p hp => by
    simp at hp
    rcases hp with rfl | rfl <;> simp) (by show 2 ≤ 100; omega)
  have hz2 : ((w.alloc (.cells (spCells r10a).toArray 26)).alloc (.cells (spCells r10b).toArray 26)).heap.size = w.heap.size + 2 := by simp
  rw [hz2] at e2
  have cc := fuse_ok 1 _ 2 _ 20 _ e2.laid (by omega) (e2.rows 0 rfl) c10 b10 (by show 1 + 1 + 2 * 20 ≤ 262144; omega)
  have ch := fun W hW => chain_ok 3 none 0 [] 20 W hW (by omega) (Kd.C_nil _ _) trivial ⟨fun X hX => by cases hX⟩ (by omega)
  rw [show endN 3 [] = 3 from rfl] at ch
  simp only [List.map_cons, List.map_nil] at cc e2
  rw [o10] at cc
  have E2 := Lib.hid e2
  have CH := Lib.hid ch
  clear hz hz2 e0 e1 e2 ch
  go_enter Tryd.func36, Tryd.ntmps36
  go_wp2_with fail
  refine cc.mono ?_
  rintro e w1 ⟨A1, d1, rfl, hC, hb⟩
  clear cc
  have e3 := (E2.out.next hb).add hC
  clear E2 hb hC
  have cc := CH.out w1 e3.laid
  go_wp2_with fail
  refine cc.mono ?_
  rintro e w2 ⟨rfl, hb⟩
  clear cc
  have e4 := e3.next hb
  obtain ⟨ad, rfl, h0, h1, h2⟩ := at_Sp (e4.row 0 rfl) (j := 0) rfl
  rw [show ad.add (0 * 3) = ad by simp [Addr.add]] at h0 h1 h2
  clear hb e3
  go_wp2_with fail
  go_ret
  exact ⟨rfl, e4.bel⟩

end Go.Proofs.YtmfpfipjhhfbhaaDoor
