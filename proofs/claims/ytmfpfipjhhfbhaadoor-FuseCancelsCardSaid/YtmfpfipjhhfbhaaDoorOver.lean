/- The contract of over.Of. -/
import Derived.Test.YtmfpfipjhhfbhaaDoorRd
import Derived.Test.YtmfpfipjhhfbhaaDoorStep
import Derived.Defers
import Derived.Recover
import Derived.Deep.AppendLies
namespace Go.Proofs.YtmfpfipjhhfbhaaDoor
open Go.RowKit Go.Proofs.YtmfpfipjhhfbhaaDoorW.PrintWords

/-- Which error is told of two operations that ought to take the same. -/
def bothE (xs ys : List Sp) : Int := if opMay xs ≠ 0 then opMay xs else if opMay ys ≠ 0 then opMay ys else if sumW spIn xs ≠ sumW spIn ys then 5 else 0
theorem bothE_1 {xs ys : List Sp} (h : opMay xs ≠ 0) : bothE xs ys = opMay xs := by unfold bothE; rw [if_pos h]
theorem bothE_2 {xs ys : List Sp} (h : opMay xs = 0) (h2 : opMay ys ≠ 0) : bothE xs ys = opMay ys := by unfold bothE; rw [if_neg (by simpa using h), if_pos h2]
theorem bothE_3 {xs ys : List Sp} (h : opMay xs = 0) (h2 : opMay ys = 0) (h3 : sumW spIn xs ≠ sumW spIn ys) : bothE xs ys = 5 := by
  unfold bothE; rw [if_neg (by simpa using h), if_neg (by simpa using h2), if_pos h3]
/-- The two blocks that a function has laid at its begin, in a later world. -/
theorem two_boxes {w W : World} {u v0 v1 : Value} {t0 t1 : TypeId} (h : Below (w.heap.size + 2) ((w.alloc (.cells #[u] t0)).alloc (.cells #[v0, v1] t1)) W) :
    W.cell? ⟨w.heap.size, 0, none⟩ = some u ∧ W.cell? ⟨w.heap.size + 1, 0, none⟩ = some v0 ∧ W.cell? ⟨w.heap.size + 1, 1, none⟩ = some v1 ∧ W.frozen? ⟨w.heap.size, 0, none⟩ = false ∧ Below w.heap.size w W ∧ w.heap.size + 2 ≤ W.heap.size := by
  refine ⟨?_, ?_, ?_, ?_, ?_, ?_⟩
  · rw [h.cell (show w.heap.size < w.heap.size + 2 by omega)]; simp
  · rw [h.cell (show w.heap.size + 1 < w.heap.size + 2 by omega)]; simp
  · rw [h.cell (show w.heap.size + 1 < w.heap.size + 2 by omega)]; simp
  · rw [h.frozen (show w.heap.size < w.heap.size + 2 by omega)]; simp
  · exact (((Below.refl _ _).alloc (Nat.le_refl _) _).alloc (by simp) _).trans (h.mono (by omega))
  · have := h.size; simpa using this

set_option maxRecDepth 100000 in
set_option maxHeartbeats 1000000 in
theorem over_err1 (A B : Option Addr) (ca cb : Nat) (xs ys : List Sp) (w : World) (hL : Laid w) (hTx : TextsOk xs) (hx : Kd.C kSp w A xs.length xs) (hy : Kd.C kSp w B ys.length ys) (he : opMay xs ≠ 0) :
    Calls Tryd.prog 17 #[.slice A xs.length ca, .slice B ys.length cb] w fun e w' => e = .returned (.tuple #[.slice none 0 0, .int .i64 (opMay xs)]) ∧ Below w.heap.size w w' := by
  have HX := Aside0.mk hx
  have HY := Aside0.mk hy
  have hm := hx.2.1
  clear hx hy
  have hmf : ∀ (fn : Fn) (first cap : Array Value) (w : World), (Instr.makeFunc fn first cap).run Tryd.prog w = .ok (.func fn first cap) w := fun _ _ _ _ => rfl
  obtain ⟨W0, hW0⟩ : ∃ W0, W0 = (w.alloc (.cells #[.slice none 0 0] 27)).alloc (.cells #[.slice A xs.length ca, .slice B ys.length cb] 27) := ⟨_, rfl⟩
  have T0 : Below (w.heap.size + 2) ((w.alloc (.cells #[.slice none 0 0] 27)).alloc (.cells #[.slice A xs.length ca, .slice B ys.length cb] 27)) W0 := by rw [hW0]; exact Below.refl _ _
  have HW0 := Lib.hid hW0
  clear hW0
  obtain ⟨k0, k1, k2, k3, B0, hz⟩ := two_boxes T0
  have c1 := opMay_calls A ca xs W0 (hL.below B0) hTx (Kd.C_below HX.out B0)
  generalize opMay xs = E at c1 he
  have he' : (E != 0) = true := by simpa using he
  have he2 := Lib.hid he
  clear he
  go_enter_defers Tryd.func17, Tryd.ntmps17
  go_wp2_with fail
  refine wp_loop_rounds 2 ?_
  rw [rounds_succ]
  go_wp2_with fail
  rw [← HW0.out]
  refine c1.mono ?_
  rintro e w1 ⟨rfl, hb⟩
  have T1 := T0.trans (hb.mono (by omega))
  clear hb hz k0 k1 k2 k3
  obtain ⟨k0, k1, k2, k3, B1, hz⟩ := two_boxes T1
  go_wp2_with fail
  exact ⟨_, by simp [results, Tryd.results17, go_sem, k0], rfl, B1.setCell (Nat.le_refl _) _⟩

set_option maxRecDepth 100000 in
set_option maxHeartbeats 1000000 in
theorem over_err2 (A B : Option Addr) (ca cb : Nat) (xs ys : List Sp) (w : World) (hL : Laid w) (hTx : TextsOk xs) (hTy : TextsOk ys) (hx : Kd.C kSp w A xs.length xs) (hy : Kd.C kSp w B ys.length ys) (h1 : opMay xs = 0) (he : opMay ys ≠ 0) :
    Calls Tryd.prog 17 #[.slice A xs.length ca, .slice B ys.length cb] w fun e w' => e = .returned (.tuple #[.slice none 0 0, .int .i64 (opMay ys)]) ∧ Below w.heap.size w w' := by
  have HX := Aside0.mk hx
  have HY := Aside0.mk hy
  have hm := hx.2.1
  clear hx hy
  have hmf : ∀ (fn : Fn) (first cap : Array Value) (w : World), (Instr.makeFunc fn first cap).run Tryd.prog w = .ok (.func fn first cap) w := fun _ _ _ _ => rfl
  obtain ⟨W0, hW0⟩ : ∃ W0, W0 = (w.alloc (.cells #[.slice none 0 0] 27)).alloc (.cells #[.slice A xs.length ca, .slice B ys.length cb] 27) := ⟨_, rfl⟩
  have T0 : Below (w.heap.size + 2) ((w.alloc (.cells #[.slice none 0 0] 27)).alloc (.cells #[.slice A xs.length ca, .slice B ys.length cb] 27)) W0 := by rw [hW0]; exact Below.refl _ _
  have HW0 := Lib.hid hW0
  clear hW0
  obtain ⟨k0, k1, k2, k3, B0, hz⟩ := two_boxes T0
  have c1 := opMay_calls A ca xs W0 (hL.below B0) hTx (Kd.C_below HX.out B0)
  rw [h1] at c1
  clear h1
  have c2' := fun W (hL' : Laid W) hC => opMay_calls B cb ys W hL' hTy hC
  generalize opMay ys = E at c2' he ⊢
  have C2 := Lib.hid c2'
  clear c2'
  have he' : (E != 0) = true := by simpa using he
  have he2 := Lib.hid he
  clear he
  go_enter_defers Tryd.func17, Tryd.ntmps17
  go_wp2_with fail
  refine wp_loop_rounds 3 ?_
  rw [rounds_succ]
  go_wp2_with fail
  rw [← HW0.out]
  refine c1.mono ?_
  rintro e w1 ⟨rfl, hb⟩
  have T1 := T0.trans (hb.mono (by omega))
  clear hb hz k0 k1 k2 k3
  obtain ⟨k0, k1, k2, k3, B1, hz⟩ := two_boxes T1
  have c2 := C2.out w1 (hL.below B1) (Kd.C_below HY.out B1)
  go_wp2_with fail
  rw [rounds_succ]
  go_wp2_with fail
  refine c2.mono ?_
  rintro e w2 ⟨rfl, hb⟩
  have T2 := T1.trans (hb.mono (by omega))
  clear hb hz k0 k1 k2 k3
  obtain ⟨k0, k1, k2, k3, B2, hz⟩ := two_boxes T2
  go_wp2_with fail
  exact ⟨_, by simp [results, Tryd.results17, go_sem, k0], rfl, B2.setCell (Nat.le_refl _) _⟩

set_option maxRecDepth 100000 in
set_option maxHeartbeats 1000000 in
theorem over_err3 (A B : Option Addr) (ca cb : Nat) (xs ys : List Sp) (w : World) (hL : Laid w) (hTx : TextsOk xs) (hTy : TextsOk ys) (hx : Kd.C kSp w A xs.length xs) (hy : Kd.C kSp w B ys.length ys) (h1 : opMay xs = 0) (h2 : opMay ys = 0) (he : sumW spIn xs ≠ sumW spIn ys) :
    Calls Tryd.prog 17 #[.slice A xs.length ca, .slice B ys.length cb] w fun e w' => e = .returned (.tuple #[.slice none 0 0, .int .i64 5]) ∧ Below w.heap.size w w' := by
  have HX := Aside0.mk hx
  have HY := Aside0.mk hy
  have hm := hx.2.1
  clear hx hy
  have hmf : ∀ (fn : Fn) (first cap : Array Value) (w : World), (Instr.makeFunc fn first cap).run Tryd.prog w = .ok (.func fn first cap) w := fun _ _ _ _ => rfl
  obtain ⟨W0, hW0⟩ : ∃ W0, W0 = (w.alloc (.cells #[.slice none 0 0] 27)).alloc (.cells #[.slice A xs.length ca, .slice B ys.length cb] 27) := ⟨_, rfl⟩
  have T0 : Below (w.heap.size + 2) ((w.alloc (.cells #[.slice none 0 0] 27)).alloc (.cells #[.slice A xs.length ca, .slice B ys.length cb] 27)) W0 := by rw [hW0]; exact Below.refl _ _
  have HW0 := Lib.hid hW0
  clear hW0
  obtain ⟨k0, k1, k2, k3, B0, hz⟩ := two_boxes T0
  have c1 := opMay_calls A ca xs W0 (hL.below B0) hTx (Kd.C_below HX.out B0)
  rw [h1] at c1
  clear h1
  go_enter_defers Tryd.func17, Tryd.ntmps17
  go_wp2_with fail
  refine wp_loop_rounds 4 ?_
  rw [rounds_succ]
  go_wp2_with fail
  rw [← HW0.out]
  refine c1.mono ?_
  rintro e w1 ⟨rfl, hb⟩
  have T1 := T0.trans (hb.mono (by omega))
  clear hb hz k0 k1 k2 k3
  obtain ⟨k0, k1, k2, k3, B1, hz⟩ := two_boxes T1
  have c2 := opMay_calls B cb ys w1 (hL.below B1) hTy (Kd.C_below HY.out B1)
  rw [h2] at c2
  clear h2
  go_wp2_with fail
  rw [rounds_succ]
  go_wp2_with fail
  refine c2.mono ?_
  rintro e w2 ⟨rfl, hb⟩
  have T2 := T1.trans (hb.mono (by omega))
  clear hb hz k0 k1 k2 k3
  obtain ⟨k0, k1, k2, k3, B2, hz⟩ := two_boxes T2
  have c3 := opIn_calls A ca xs w2 (hL.below B2) hTx (Kd.C_below HX.out B2)
  generalize sumW spIn xs = u at c3 he
  go_wp2_with fail
  rw [rounds_succ]
  go_wp2_with fail
  refine c3.mono ?_
  rintro e w3 ⟨rfl, hb⟩
  have T3 := T2.trans (hb.mono (by omega))
  clear hb hz k0 k1 k2 k3
  obtain ⟨k0, k1, k2, k3, B3, hz⟩ := two_boxes T3
  have c4 := opIn_calls B cb ys w3 (hL.below B3) hTy (Kd.C_below HY.out B3)
  generalize sumW spIn ys = v at c4 he
  have he' : (u != v) = true := by simpa using he
  have he2 := Lib.hid he
  clear he
  go_wp2_with fail
  refine c4.mono ?_
  rintro e w4 ⟨rfl, hb⟩
  have T4 := T3.trans (hb.mono (by omega))
  clear hb hz k0 k1 k2 k3
  obtain ⟨k0, k1, k2, k3, B4, hz⟩ := two_boxes T4
  go_wp2_with fail
  exact ⟨_, by simp [results, Tryd.results17, go_sem, k0], rfl, B4.setCell (Nat.le_refl _) _⟩

/-- What the deferred closure leaves: the box holds the shortest form of what it held. -/
def DeferPost (b : Nat) (out : List Sp) (w : World) (e : Ending) (w' : World) : Prop :=
  e = .returned (.tuple #[]) ∧ ∃ v, w'.cell? ⟨b, 0, none⟩ = some v ∧ Kd.R kSp 26 w' w.heap.size (fun _ => True) v (normS out) ∧ w.grownBy w' (some b)
theorem norm_owned {xs : List Sp} {w w' : World} {e : Ending} (h : NormPost xs w e w') (hm : xs.length ≤ 4398046511104) : ∃ v, e = .returned v ∧ Kd.R kSp 26 w' w.heap.size (fun _ => True) v (normS xs) ∧ Below w.heap.size w w' := by
  obtain ⟨h1, ⟨ys, h2, h3, h4⟩, h5⟩ := h
  have hle := normS_length_le xs
  have := h2.owned (by simp only [maxLen]; omega) (Nat.le_refl _) (normS xs).length (by omega)
  rw [h4, h3] at this
  exact ⟨_, h1, this, h5⟩
set_option maxHeartbeats 1000000 in
theorem over_defer (b : Nat) (A : Option Addr) (c : Nat) (out : List Sp) (u : FrameMode) (w : World) (hc : w.cell? ⟨b, 0, none⟩ = some (.slice A out.length c)) (hf : w.frozen? ⟨b, 0, none⟩ = false) (hr : Kd.C kSp w A out.length out) (hl : out.length ≤ 4398046511104) (hb : bytesL out ≤ 4611686018427387904) :
    CallsD Tryd.prog 50 #[.pointer (some ⟨b, 0, none⟩)] u w fun e u' w' => u' = u ∧ DeferPost b out w e w' := by
  have n1 := normOf_calls A c out w hr hl hb
  have hlt := World.block_lt_of_cell? w _ hc
  simp only at hlt
  go_enter_d Tryd.func50, Tryd.ntmps50
  go_wp2_with fail
  refine n1.mono ?_
  intro e w1 hN
  obtain ⟨v, rfl, hR, hB⟩ := norm_owned hN hl
  obtain ⟨Av, cv, rfl⟩ := Kd.R_slice hR
  obtain ⟨hc1, hf1, hz1⟩ := bcell hB
  go_wp2_with fail
  go_end0
  refine ⟨rfl, _, ?_, Kd.R_mono (Kd.R_far (p := ⟨b, 0, none⟩) (Kd.R_bound hR) (fun k hk => by have := hk.2.1; show k ≠ b; omega) _) (fun _ hk => hk.1), gb_set (grown_of_below hB _) _ _⟩
  · have h1 : w1.cell? ⟨b, 0, none⟩ = some (.slice A out.length c) := by rw [hc1 b 0 hlt]; exact hc
    exact World.cell?_setCell_same _ _ _ h1

end Go.Proofs.YtmfpfipjhhfbhaaDoor
