/- compose.Of of two that do not fit. -/
import Derived.Test.YtmfpfipjhhfbhaaDoorComp
namespace Go.Proofs.YtmfpfipjhhfbhaaDoor
open Go.RowKit Go.Proofs.YtmfpfipjhhfbhaaDoorW.PrintWords

set_option maxRecDepth 100000 in
set_option maxHeartbeats 1000000 in
theorem comp_err1 (A B : Option Addr) (ca cb : Nat) (xs ys : List Sp) (w : World) (hL : Laid w) (hTx : TextsOk xs) (hx : Kd.C kSp w A xs.length xs) (hy : Kd.C kSp w B ys.length ys) (he : opMay xs ≠ 0) :
    Calls Tryd.prog 35 #[.slice A xs.length ca, .slice B ys.length cb] w fun e w' => e = .returned (.tuple #[.slice none 0 0, .int .i64 (opMay xs)]) ∧ Below w.heap.size w w' := by
  have HX := Aside0.mk hx
  have HY := Aside0.mk hy
  have hm := hx.2.1
  clear hx hy
  have hmf : ∀ (fn : Fn) (first cap : Array Value) (w : World), (Instr.makeFunc fn first cap).run Tryd.prog w = .ok (.func fn first cap) w := fun _ _ _ _ => rfl
  obtain ⟨W0, hW0⟩ : ∃ W0, W0 = w.alloc (.cells #[.slice A xs.length ca, .slice B ys.length cb] 27) := ⟨_, rfl⟩
  have T0 : Below (w.heap.size + 1) (w.alloc (.cells #[.slice A xs.length ca, .slice B ys.length cb] 27)) W0 := by rw [hW0]; exact Below.refl _ _
  have HW0 := Lib.hid hW0
  clear hW0
  obtain ⟨k1, k2, B0, hz⟩ := one_box T0
  have c1 := opMay_calls A ca xs W0 (hL.below B0) hTx (Kd.C_below HX.out B0)
  generalize opMay xs = E at c1 he
  have he' : (E != 0) = true := by simpa using he
  have he2 := Lib.hid he
  clear he
  go_enter Tryd.func35, Tryd.ntmps35
  go_wp2_with fail
  refine wp_scope_straight ?_
  go_wp2_with fail
  refine wp_loop_rounds 2 ?_
  rw [rounds_succ]
  go_wp2_with fail
  rw [← HW0.out]
  refine c1.mono ?_
  rintro e w1 ⟨rfl, hb⟩
  have T1 := T0.trans (hb.mono (by omega))
  clear hb hz k1 k2
  obtain ⟨k1, k2, B1, hz⟩ := one_box T1
  go_wp2_with fail
  rw [Exit.noGoto_ret]
  exact bodyPost_ret (v := .tuple #[.slice none 0 0, .int .i64 E]) (by simp [results, Tryd.results35, go_sem]) rfl ⟨rfl, B1⟩

set_option maxRecDepth 100000 in
set_option maxHeartbeats 1000000 in
theorem comp_err2 (A B : Option Addr) (ca cb : Nat) (xs ys : List Sp) (w : World) (hL : Laid w) (hTx : TextsOk xs) (hTy : TextsOk ys) (hx : Kd.C kSp w A xs.length xs) (hy : Kd.C kSp w B ys.length ys) (h1 : opMay xs = 0) (he : opMay ys ≠ 0) :
    Calls Tryd.prog 35 #[.slice A xs.length ca, .slice B ys.length cb] w fun e w' => e = .returned (.tuple #[.slice none 0 0, .int .i64 (opMay ys)]) ∧ Below w.heap.size w w' := by
  have HX := Aside0.mk hx
  have HY := Aside0.mk hy
  have hm := hx.2.1
  clear hx hy
  have hmf : ∀ (fn : Fn) (first cap : Array Value) (w : World), (Instr.makeFunc fn first cap).run Tryd.prog w = .ok (.func fn first cap) w := fun _ _ _ _ => rfl
  obtain ⟨W0, hW0⟩ : ∃ W0, W0 = w.alloc (.cells #[.slice A xs.length ca, .slice B ys.length cb] 27) := ⟨_, rfl⟩
  have T0 : Below (w.heap.size + 1) (w.alloc (.cells #[.slice A xs.length ca, .slice B ys.length cb] 27)) W0 := by rw [hW0]; exact Below.refl _ _
  have HW0 := Lib.hid hW0
  clear hW0
  obtain ⟨k1, k2, B0, hz⟩ := one_box T0
  have c1 := opMay_calls A ca xs W0 (hL.below B0) hTx (Kd.C_below HX.out B0)
  rw [h1] at c1
  clear h1
  have c2' := fun W (hL' : Laid W) hC => opMay_calls B cb ys W hL' hTy hC
  generalize opMay ys = E at c2' he ⊢
  have C2 := Lib.hid c2'
  clear c2'
  have he' : (E != 0) = true := by simpa using he
  have he2 := Lib.hid he
  clear he
  go_enter Tryd.func35, Tryd.ntmps35
  go_wp2_with fail
  refine wp_scope_straight ?_
  go_wp2_with fail
  refine wp_loop_rounds 3 ?_
  rw [rounds_succ]
  go_wp2_with fail
  rw [← HW0.out]
  refine c1.mono ?_
  rintro e w1 ⟨rfl, hb⟩
  have T1 := T0.trans (hb.mono (by omega))
  clear hb hz k1 k2
  obtain ⟨k1, k2, B1, hz⟩ := one_box T1
  have c2 := C2.out w1 (hL.below B1) (Kd.C_below HY.out B1)
  go_wp2_with fail
  rw [rounds_succ]
  go_wp2_with fail
  refine c2.mono ?_
  rintro e w2 ⟨rfl, hb⟩
  have T2 := T1.trans (hb.mono (by omega))
  clear hb hz k1 k2
  obtain ⟨k1, k2, B2, hz⟩ := one_box T2
  go_wp2_with fail
  rw [Exit.noGoto_ret]
  exact bodyPost_ret (v := .tuple #[.slice none 0 0, .int .i64 E]) (by simp [results, Tryd.results35, go_sem]) rfl ⟨rfl, B2⟩

set_option maxRecDepth 100000 in
set_option maxHeartbeats 1000000 in
theorem comp_err3 (A B : Option Addr) (ca cb : Nat) (xs ys : List Sp) (w : World) (hL : Laid w) (hTx : TextsOk xs) (hTy : TextsOk ys) (hx : Kd.C kSp w A xs.length xs) (hy : Kd.C kSp w B ys.length ys) (h1 : opMay xs = 0) (h2 : opMay ys = 0) (he : sumW spOut xs ≠ sumW spIn ys) :
    Calls Tryd.prog 35 #[.slice A xs.length ca, .slice B ys.length cb] w fun e w' => e = .returned (.tuple #[.slice none 0 0, .int .i64 5]) ∧ Below w.heap.size w w' := by
  have HX := Aside0.mk hx
  have HY := Aside0.mk hy
  have hm := hx.2.1
  clear hx hy
  have hmf : ∀ (fn : Fn) (first cap : Array Value) (w : World), (Instr.makeFunc fn first cap).run Tryd.prog w = .ok (.func fn first cap) w := fun _ _ _ _ => rfl
  obtain ⟨W0, hW0⟩ : ∃ W0, W0 = w.alloc (.cells #[.slice A xs.length ca, .slice B ys.length cb] 27) := ⟨_, rfl⟩
  have T0 : Below (w.heap.size + 1) (w.alloc (.cells #[.slice A xs.length ca, .slice B ys.length cb] 27)) W0 := by rw [hW0]; exact Below.refl _ _
  have HW0 := Lib.hid hW0
  clear hW0
  obtain ⟨k1, k2, B0, hz⟩ := one_box T0
  have c1 := opMay_calls A ca xs W0 (hL.below B0) hTx (Kd.C_below HX.out B0)
  rw [h1] at c1
  clear h1
  go_enter Tryd.func35, Tryd.ntmps35
  go_wp2_with fail
  refine wp_scope_straight ?_
  go_wp2_with fail
  refine wp_loop_rounds 4 ?_
  rw [rounds_succ]
  go_wp2_with fail
  rw [← HW0.out]
  refine c1.mono ?_
  rintro e w1 ⟨rfl, hb⟩
  have T1 := T0.trans (hb.mono (by omega))
  clear hb hz k1 k2
  obtain ⟨k1, k2, B1, hz⟩ := one_box T1
  have c2 := opMay_calls B cb ys w1 (hL.below B1) hTy (Kd.C_below HY.out B1)
  rw [h2] at c2
  clear h2
  go_wp2_with fail
  rw [rounds_succ]
  go_wp2_with fail
  refine c2.mono ?_
  rintro e w2 ⟨rfl, hb⟩
  have T2 := T1.trans (hb.mono (by omega))
  clear hb hz k1 k2
  obtain ⟨k1, k2, B2, hz⟩ := one_box T2
  have c3 := opOut_calls A ca xs w2 (hL.below B2) hTx (Kd.C_below HX.out B2)
  generalize sumW spOut xs = u at c3 he
  go_wp2_with fail
  rw [rounds_succ]
  go_wp2_with fail
  refine c3.mono ?_
  rintro e w3 ⟨rfl, hb⟩
  have T3 := T2.trans (hb.mono (by omega))
  clear hb hz k1 k2
  obtain ⟨k1, k2, B3, hz⟩ := one_box T3
  have c4 := opIn_calls B cb ys w3 (hL.below B3) hTy (Kd.C_below HY.out B3)
  generalize sumW spIn ys = v at c4 he
  have he' : (u != v) = true := by simpa using he
  have he2 := Lib.hid he
  clear he
  go_wp2_with fail
  refine c4.mono ?_
  rintro e w4 ⟨rfl, hb⟩
  have T4 := T3.trans (hb.mono (by omega))
  clear hb hz k1 k2
  obtain ⟨k1, k2, B4, hz⟩ := one_box T4
  go_wp2_with fail
  rw [Exit.noGoto_ret]
  exact bodyPost_ret (v := .tuple #[.slice none 0 0, .int .i64 5]) (by simp [results, Tryd.results35, go_sem]) rfl ⟨rfl, B4⟩

end Go.Proofs.YtmfpfipjhhfbhaaDoor
