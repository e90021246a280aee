/- The contracts of under.Of and under.Meet. -/
import Derived.Test.YtmfpfipjhhfbhaaDoorThrough
import Derived.Test.YtmfpfipjhhfbhaaDoorOverOk
import Derived.Laws.EntriesVeiled
namespace Go.Proofs.YtmfpfipjhhfbhaaDoor
open Go.RowKit Go.Proofs.YtmfpfipjhhfbhaaDoorW.PrintWords

/-- The block that a function has laid at its begin, in a later world. -/
theorem one_box {w W : World} {v0 v1 : Value} {t1 : TypeId} (h : Below (w.heap.size + 1) (w.alloc (.cells #[v0, v1] t1)) W) :
    W.cell? ⟨w.heap.size, 0, none⟩ = some v0 ∧ W.cell? ⟨w.heap.size, 1, none⟩ = some v1 ∧ Below w.heap.size w W ∧ w.heap.size + 1 ≤ W.heap.size := by
  refine ⟨?_, ?_, ?_, ?_⟩
  · rw [h.cell (show w.heap.size < w.heap.size + 1 by omega)]; simp
  · rw [h.cell (show w.heap.size < w.heap.size + 1 by omega)]; simp
  · exact ((Below.refl _ _).alloc (Nat.le_refl _) _).trans (h.mono (by omega))
  · have := h.size; simpa using this

set_option maxRecDepth 100000 in
set_option maxHeartbeats 1000000 in
theorem under_err1 (A B : Option Addr) (ca cb : Nat) (xs ys : List Sp) (w : World) (hL : Laid w) (hTx : TextsOk xs) (hx : Kd.C kSp w A xs.length xs) (hy : Kd.C kSp w B ys.length ys) (he : opMay xs ≠ 0) :
    Calls Tryd.prog 18 #[.slice A xs.length ca, .slice B ys.length cb] w fun e w' => e = .returned (.tuple #[.slice none 0 0, .int .i64 (opMay xs)]) ∧ Below w.heap.size w w' := by
  have HX := Aside0.mk hx
  have HY := Aside0.mk hy
  have hm := hx.2.1
  clear hx hy
  have hmf : ∀ (fn : Fn) (first cap : Array Value) (w : World), (Instr.makeFunc fn first cap).run Tryd.prog w = .ok (.func fn first cap) w := fun _ _ _ _ => rfl
  obtain ⟨W0, hW0⟩ : ∃ W0, W0 = w.alloc (.cells #[.slice A xs.length ca, .slice B ys.length cb] 27) := ⟨_, rfl⟩
  have T0 : Below (w.heap.size + 1) (w.alloc (.cells #[.slice A xs.length ca, .slice B ys.length cb] 27)) W0 := by rw [hW0]; exact Below.refl _ _
  have HW0 := Lib.hid hW0
  clear hW0
  obtain ⟨k1, k2, B0, hz⟩ := one_box T0
  have c1 := opMay_calls A ca xs W0 (hL.below B0) hTx (Kd.C_below HX.out B0)
  generalize opMay xs = E at c1 he
  have he' : (E != 0) = true := by simpa using he
  have he2 := Lib.hid he
  clear he
  go_enter Tryd.func18, Tryd.ntmps18
  go_wp2_with fail
  refine wp_loop_rounds 2 ?_
  rw [rounds_succ]
  go_wp2_with fail
  rw [← HW0.out]
  refine c1.mono ?_
  rintro e w1 ⟨rfl, hb⟩
  have T1 := T0.trans (hb.mono (by omega))
  clear hb hz k1 k2
  obtain ⟨k1, k2, B1, hz⟩ := one_box T1
  go_wp2_with fail
  exact bodyPost_ret (v := .tuple #[.slice none 0 0, .int .i64 E]) (by simp [results, Tryd.results18, go_sem]) rfl ⟨rfl, B1⟩

set_option maxRecDepth 100000 in
set_option maxHeartbeats 1000000 in
theorem under_err2 (A B : Option Addr) (ca cb : Nat) (xs ys : List Sp) (w : World) (hL : Laid w) (hTx : TextsOk xs) (hTy : TextsOk ys) (hx : Kd.C kSp w A xs.length xs) (hy : Kd.C kSp w B ys.length ys) (h1 : opMay xs = 0) (he : opMay ys ≠ 0) :
    Calls Tryd.prog 18 #[.slice A xs.length ca, .slice B ys.length cb] w fun e w' => e = .returned (.tuple #[.slice none 0 0, .int .i64 (opMay ys)]) ∧ Below w.heap.size w w' := by
  have HX := Aside0.mk hx
  have HY := Aside0.mk hy
  have hm := hx.2.1
  clear hx hy
  have hmf : ∀ (fn : Fn) (first cap : Array Value) (w : World), (Instr.makeFunc fn first cap).run Tryd.prog w = .ok (.func fn first cap) w := fun _ _ _ _ => rfl
  obtain ⟨W0, hW0⟩ : ∃ W0, W0 = w.alloc (.cells #[.slice A xs.length ca, .slice B ys.length cb] 27) := ⟨_, rfl⟩
  have T0 : Below (w.heap.size + 1) (w.alloc (.cells #[.slice A xs.length ca, .slice B ys.length cb] 27)) W0 := by rw [hW0]; exact Below.refl _ _
  have HW0 := Lib.hid hW0
  clear hW0
  obtain ⟨k1, k2, B0, hz⟩ := one_box T0
  have c1 := opMay_calls A ca xs W0 (hL.below B0) hTx (Kd.C_below HX.out B0)
  rw [h1] at c1
  clear h1
  have c2' := fun W (hL' : Laid W) hC => opMay_calls B cb ys W hL' hTy hC
  generalize opMay ys = E at c2' he ⊢
  have C2 := Lib.hid c2'
  clear c2'
  have he' : (E != 0) = true := by simpa using he
  have he2 := Lib.hid he
  clear he
  go_enter Tryd.func18, Tryd.ntmps18
  go_wp2_with fail
  refine wp_loop_rounds 3 ?_
  rw [rounds_succ]
  go_wp2_with fail
  rw [← HW0.out]
  refine c1.mono ?_
  rintro e w1 ⟨rfl, hb⟩
  have T1 := T0.trans (hb.mono (by omega))
  clear hb hz k1 k2
  obtain ⟨k1, k2, B1, hz⟩ := one_box T1
  have c2 := C2.out w1 (hL.below B1) (Kd.C_below HY.out B1)
  go_wp2_with fail
  rw [rounds_succ]
  go_wp2_with fail
  refine c2.mono ?_
  rintro e w2 ⟨rfl, hb⟩
  have T2 := T1.trans (hb.mono (by omega))
  clear hb hz k1 k2
  obtain ⟨k1, k2, B2, hz⟩ := one_box T2
  go_wp2_with fail
  exact bodyPost_ret (v := .tuple #[.slice none 0 0, .int .i64 E]) (by simp [results, Tryd.results18, go_sem]) rfl ⟨rfl, B2⟩

set_option maxRecDepth 100000 in
set_option maxHeartbeats 1000000 in
theorem under_err3 (A B : Option Addr) (ca cb : Nat) (xs ys : List Sp) (w : World) (hL : Laid w) (hTx : TextsOk xs) (hTy : TextsOk ys) (hx : Kd.C kSp w A xs.length xs) (hy : Kd.C kSp w B ys.length ys) (h1 : opMay xs = 0) (h2 : opMay ys = 0) (he : sumW spIn xs ≠ sumW spIn ys) :
    Calls Tryd.prog 18 #[.slice A xs.length ca, .slice B ys.length cb] w fun e w' => e = .returned (.tuple #[.slice none 0 0, .int .i64 5]) ∧ Below w.heap.size w w' := by
  have HX := Aside0.mk hx
  have HY := Aside0.mk hy
  have hm := hx.2.1
  clear hx hy
  have hmf : ∀ (fn : Fn) (first cap : Array Value) (w : World), (Instr.makeFunc fn first cap).run Tryd.prog w = .ok (.func fn first cap) w := fun _ _ _ _ => rfl
  obtain ⟨W0, hW0⟩ : ∃ W0, W0 = w.alloc (.cells #[.slice A xs.length ca, .slice B ys.length cb] 27) := ⟨_, rfl⟩
  have T0 : Below (w.heap.size + 1) (w.alloc (.cells #[.slice A xs.length ca, .slice B ys.length cb] 27)) W0 := by rw [hW0]; exact Below.refl _ _
  have HW0 := Lib.hid hW0
  clear hW0
  obtain ⟨k1, k2, B0, hz⟩ := one_box T0
  have c1 := opMay_calls A ca xs W0 (hL.below B0) hTx (Kd.C_below HX.out B0)
  rw [h1] at c1
  clear h1
  go_enter Tryd.func18, Tryd.ntmps18
  go_wp2_with fail
  refine wp_loop_rounds 4 ?_
  rw [rounds_succ]
  go_wp2_with fail
  rw [← HW0.out]
  refine c1.mono ?_
  rintro e w1 ⟨rfl, hb⟩
  have T1 := T0.trans (hb.mono (by omega))
  clear hb hz k1 k2
  obtain ⟨k1, k2, B1, hz⟩ := one_box T1
  have c2 := opMay_calls B cb ys w1 (hL.below B1) hTy (Kd.C_below HY.out B1)
  rw [h2] at c2
  clear h2
  go_wp2_with fail
  rw [rounds_succ]
  go_wp2_with fail
  refine c2.mono ?_
  rintro e w2 ⟨rfl, hb⟩
  have T2 := T1.trans (hb.mono (by omega))
  clear hb hz k1 k2
  obtain ⟨k1, k2, B2, hz⟩ := one_box T2
  have c3 := opIn_calls A ca xs w2 (hL.below B2) hTx (Kd.C_below HX.out B2)
  generalize sumW spIn xs = u at c3 he
  go_wp2_with fail
  rw [rounds_succ]
  go_wp2_with fail
  refine c3.mono ?_
  rintro e w3 ⟨rfl, hb⟩
  have T3 := T2.trans (hb.mono (by omega))
  clear hb hz k1 k2
  obtain ⟨k1, k2, B3, hz⟩ := one_box T3
  have c4 := opIn_calls B cb ys w3 (hL.below B3) hTy (Kd.C_below HY.out B3)
  generalize sumW spIn ys = v at c4 he
  have he' : (u != v) = true := by simpa using he
  have he2 := Lib.hid he
  clear he
  go_wp2_with fail
  refine c4.mono ?_
  rintro e w4 ⟨rfl, hb⟩
  have T4 := T3.trans (hb.mono (by omega))
  clear hb hz k1 k2
  obtain ⟨k1, k2, B4, hz⟩ := one_box T4
  go_wp2_with fail
  exact bodyPost_ret (v := .tuple #[.slice none 0 0, .int .i64 5]) (by simp [results, Tryd.results18, go_sem]) rfl ⟨rfl, B4⟩

/-- The box, and the walk's box behind it, as under.Of has made them. -/
structure UB (w : World) (b : Nat) (W : World) : Prop where
  c : W.cell? ⟨b, 0, none⟩ = some (.slice none 0 0)
  f : W.frozen? ⟨b, 0, none⟩ = false
  k0 : W.cell? ⟨b + 1, 0, none⟩ = some (.func (.func 53) #[] #[.pointer (some ⟨b, 0, none⟩)])
  k1 : W.cell? ⟨b + 1, 1, none⟩ = some (.func (.func 54) #[] #[.pointer (some ⟨b, 0, none⟩)])
  k2 : W.cell? ⟨b + 1, 2, none⟩ = some (.func (.func 55) #[] #[.pointer (some ⟨b, 0, none⟩)])
  bel : Below w.heap.size w W
  z : b + 2 ≤ W.heap.size
  hb : w.heap.size < b
theorem UB.below {w W W' : World} {b : Nat} (h : UB w b W) (hB : Below W.heap.size W W') : UB w b W' := by
  have hz := h.z
  obtain ⟨h1, h2, h3⟩ := bcell hB
  exact ⟨by rw [h1 b 0 (by omega)]; exact h.c, by rw [h2 b 0 (by omega)]; exact h.f, by rw [h1 (b + 1) 0 (by omega)]; exact h.k0, by rw [h1 (b + 1) 1 (by omega)]; exact h.k1, by rw [h1 (b + 1) 2 (by omega)]; exact h.k2, h.bel.trans (hB.mono h.bel.size), by omega, h.hb⟩

set_option maxRecDepth 100000 in
set_option maxHeartbeats 4000000 in
theorem under_ok (A B : Option Addr) (ca cb : Nat) (xs ys : List Sp) (w : World) (hL : Laid w) (hx : Kd.C kSp w A xs.length xs) (hy : Kd.C kSp w B ys.length ys) (hF : Fit2 xs ys) (hlow : 2 < w.heap.size) :
    Calls Tryd.prog 18 #[.slice A xs.length ca, .slice B ys.length cb] w fun e w' => ∃ v, e = .returned (.tuple #[v, .int .i64 0]) ∧ Kd.R kSp 26 w' w.heap.size (fun _ => True) v (ofA (underA (atoms xs) (atoms ys))) ∧ Below w.heap.size w w' := by
  have hTx : TextsOk xs := texts_ok (by have := hF.bx; omega)
  have hTy : TextsOk ys := texts_ok (by have := hF.bound_y; omega)
  have h1 : opMay xs = 0 := (opMay_zero (by have := hF.lx; omega)).2 ⟨hF.vx, hF.few⟩
  have h2 : opMay ys = 0 := (opMay_zero (by have := hF.ly; omega)).2 ⟨hF.vy, by rw [← hF.io]; exact hF.few⟩
  have h3 : sumW spIn xs = inA (atoms xs) := opIn_atoms hF.vx (by have := hF.few; omega)
  have h4 : sumW spIn ys = inA (atoms xs) := by rw [opIn_atoms hF.vy (by have := hF.few; have := hF.io; omega), hF.io]
  have HX := Aside0.mk hx
  have HY := Aside0.mk hy
  have hm := hx.2.1
  clear hx hy
  have hmf : ∀ (fn : Fn) (first cap : Array Value) (w : World), (Instr.makeFunc fn first cap).run Tryd.prog w = .ok (.func fn first cap) w := fun _ _ _ _ => rfl
  obtain ⟨W0, hW0⟩ : ∃ W0, W0 = w.alloc (.cells #[.slice A xs.length ca, .slice B ys.length cb] 27) := ⟨_, rfl⟩
  have T0 : Below (w.heap.size + 1) (w.alloc (.cells #[.slice A xs.length ca, .slice B ys.length cb] 27)) W0 := by rw [hW0]; exact Below.refl _ _
  have HW0 := Lib.hid hW0
  clear hW0
  obtain ⟨k1, k2, B0, hz⟩ := one_box T0
  have c1 := opMay_calls A ca xs W0 (hL.below B0) hTx (Kd.C_below HX.out B0)
  rw [h1] at c1
  clear h1
  go_enter Tryd.func18, Tryd.ntmps18
  go_wp2_with fail
  refine wp_loop_rounds 3 ?_
  rw [rounds_succ]
  go_wp2_with fail
  rw [← HW0.out]
  refine c1.mono ?_
  rintro e w1 ⟨rfl, hb⟩
  have T1 := T0.trans (hb.mono (by omega))
  clear hb hz k1 k2
  obtain ⟨k1, k2, B1, hz⟩ := one_box T1
  have c2 := opMay_calls B cb ys w1 (hL.below B1) hTy (Kd.C_below HY.out B1)
  rw [h2] at c2
  clear h2
  go_wp2_with fail
  rw [rounds_succ]
  go_wp2_with fail
  refine c2.mono ?_
  rintro e w2 ⟨rfl, hb⟩
  have T2 := T1.trans (hb.mono (by omega))
  clear hb hz k1 k2
  obtain ⟨k1, k2, B2, hz⟩ := one_box T2
  have c3 := opIn_calls A ca xs w2 (hL.below B2) hTx (Kd.C_below HX.out B2)
  rw [h3] at c3
  clear h3
  go_wp2_with fail
  rw [rounds_succ]
  go_wp2_with fail
  refine c3.mono ?_
  rintro e w3 ⟨rfl, hb⟩
  have T3 := T2.trans (hb.mono (by omega))
  clear hb hz k1 k2
  obtain ⟨k1, k2, B3, hz⟩ := one_box T3
  have c4 := opIn_calls B cb ys w3 (hL.below B3) hTy (Kd.C_below HY.out B3)
  rw [h4] at c4
  clear h4
  go_wp2_with fail
  refine c4.mono ?_
  rintro e w4 ⟨rfl, hb⟩
  have T4 := T3.trans (hb.mono (by omega))
  clear hb hz k1 k2
  obtain ⟨k1, k2, B4, hz⟩ := one_box T4
  go_wp2_with fail
  obtain ⟨W5, hW5⟩ : ∃ W, W = (w4.alloc (.cells #[.slice none 0 0] 27)).alloc (.cells #[.func (.func 53) #[] #[.pointer (some ⟨w4.heap.size, 0, none⟩)], .func (.func 54) #[] #[.pointer (some ⟨w4.heap.size, 0, none⟩)], .func (.func 55) #[] #[.pointer (some ⟨w4.heap.size, 0, none⟩)]] 77) := ⟨_, rfl⟩
  rw [← hW5]
  have hU : UB w w4.heap.size W5 := by
    rw [hW5]
    refine ⟨?_, ?_, ?_, ?_, ?_, ?_, ?_, ?_⟩
    · simp
    · simp
    · simp
    · simp
    · simp
    · exact (B4.alloc (by omega) _).alloc (by simp; omega) _
    · simp
    · omega
  clear hW5 T0 T1 T2 T3 T4 B0 B1 B2 B3 B4 k1 k2 c1 c2 c3 c4 hmf HW0
  generalize w4.heap.size = b at hU ⊢
  have hUD := hU.below (below_drew (Below.refl _ _))
  have k0 := hU.c
  have k1 := hU.f
  have k2 := hU.k0
  have k3 := hU.k1
  have k4 := hU.k2
  have HU := Lib.hid hU
  obtain ⟨nx1, nx2⟩ := norm_els hF.vx hF.few hF.bx
  obtain ⟨ny1, ny2⟩ := norm_els hF.vy (by rw [← hF.io]; exact hF.few) hF.bound_y
  have hlx := normS_length_le xs
  have hly := normS_length_le ys
  have hbx := bytesL_normS xs
  have hby := bytesL_normS ys
  have n1 := normOf_calls A ca xs W5.drew (Kd.C_below HX.out hUD.bel) (by have := hF.lx; omega) (by have := hF.bx; omega)
  have HE := Lib.hid (And.intro nx2 ny2)
  have HLB := Lib.hid (And.intro (And.intro hlx hly) (And.intro hbx hby))
  clear hU nx2 ny2 hlx hly hbx hby
  go_region_law (go_simp; first
    | (refine tc.mono ?_; rintro e w8 ⟨rfl, out, A8, c8, hc8, hC8, hv8, ha8, hl8, hb8, hK8⟩)
    | (refine n2.mono ?_; intro e w7 hN; obtain ⟨vs, rfl, hRs, hb7⟩ := Rd.of_norm hN (by have := hF.ly; omega); have hU7 := hU6.below hb7; clear hN; have hRa7 := hRa.below hb7 hRa.lt; have hne := hRa.lt; have j0 := hU7.k0; have j1 := hU7.k1; have j2 := hU7.k2
       have tc := through_calls b W5.drew.heap.size w6.heap.size (normS xs) (normS ys) va vs w7 (hL.below hU7.bel) hRa7 hRs hU7.c hU7.f (fun k hk => by have := hU7.hb; omega) ⟨by omega, by have := hUD.z; omega, by have := hU6.z; omega⟩ nx1 ny1 (by rw [HE.out.1, HE.out.2]; exact hF.io) (by have := HLB.out; have := hF.lx; have := hF.ly; omega) (by have := HLB.out; have := hF.bx; omega) (by have := HLB.out; have := hF.bound_y; omega))
    | (refine n1.mono ?_; intro e w6 hN; obtain ⟨va, rfl, hRa, hb⟩ := Rd.of_norm hN (by have := hF.lx; omega); have hU6 := hUD.below hb; clear hN; have n2 := normOf_calls B cb ys w6 (Kd.C_below HY.out hU6.bel) (by have := hF.ly; omega) (by have := hF.bound_y; omega); have i0 := hU6.k0; have i1 := hU6.k1; have i2 := hU6.k2))
  all_goals (
    have hB8 : Below w.heap.size w w8 := hU7.bel.trans ((hK8.lower hU7.bel.size).below (by have := hU7.hb; omega))
    have n3 := normOf_calls A8 c8 out w8 hC8 (by have := HLB.out; have := hF.lx; have := hF.ly; omega) (by have := HLB.out; have := hF.bx; omega)
    clear tc n1 n2 i0 i1 i2 j0 j1 j2 k0 k1 k2 k3 k4
    go_wp2_with fail
    refine n3.mono ?_
    intro e w9 hN
    obtain ⟨v9, rfl, hR9, hB9⟩ := norm_owned hN (by have := HLB.out; have := hF.lx; have := hF.ly; omega)
    go_wp2_with fail
    refine bodyPost_ret (v := .tuple #[v9, .int .i64 0]) (by simp [results, Tryd.results18, go_sem]) rfl ⟨v9, rfl, ?_, hB8.trans (hB9.mono hB8.size)⟩
    rw [normS_atoms hv8, ha8, HE.out.1, HE.out.2] at hR9
    exact Kd.R_lower hR9 hB8.size)

end Go.Proofs.YtmfpfipjhhfbhaaDoor
