/- The walk of UnderDrops. -/
import Derived.Test.YtmfpfipjhhfbhaaDoorSmall
import Derived.Test.YtmfpfipjhhfbhaaDoorShown12
import Derived.Test.YtmfpfipjhhfbhaaDoorFit
namespace Go.Proofs.YtmfpfipjhhfbhaaDoor
open Go.RowKit Go.Proofs.YtmfpfipjhhfbhaaDoorW.PrintWords

/-- What Fit makes of two rows. -/
theorem fit_two (xs ys : List Sp) (m : Int) (h0 : 0 ≤ m) (h1 : m ≤ 63) : Fit2 (fitS xs m) (fitS ys m) ∧ Few (atoms (fitS xs m)) 351 ∧ Few (atoms (fitS ys m)) 351 := by
  obtain ⟨a1, a2, a3, a4⟩ := fitS_ok xs m h0 (by omega)
  obtain ⟨b1, b2, b3, b4⟩ := fitS_ok ys m h0 (by omega)
  exact ⟨⟨a1, b1, by omega, by omega, by omega, by omega, by omega, by omega⟩, few_row (n := 63) a1 (by omega) a4, few_row (n := 63) b1 (by omega) b4⟩
set_option maxRecDepth 100000 in
set_option maxHeartbeats 4000000 in
theorem lawUnderDrops_calls (A : Option Addr) (ca : Nat) (xs : List Sp) (B : Option Addr) (cb : Nat) (ys : List Sp) (n : Int) (w : World) (hL : Laid w) (hx : Kd.C kSp w A xs.length xs) (hTx : ∀ s ∈ xs, s.t.size ≤ 9223372036854775807) (hy : Kd.C kSp w B ys.length ys) (hTy : ∀ s ∈ ys, s.t.size ≤ 9223372036854775807) (hn0 : 0 ≤ n) (_hn1 : n ≤ 255) :
    Calls Tryd.prog 5 #[.slice A xs.length ca, .slice B ys.length cb, .int .u8 n] w fun e w' => e = .returned (.bool true) ∧ Below w.heap.size w w' := by
  have HX := Aside0.mk hx
  have HY := Aside0.mk hy
  have c1 := shown12_calls w hL
  obtain ⟨m, hm⟩ : ∃ m, m = n % 64 := ⟨_, rfl⟩
  have hm0 : 0 ≤ m := by omega
  have hm1 : m ≤ 63 := by omega
  have hmt : n.tmod 64 = m := by rw [Int.tmod_eq_emod_of_nonneg hn0]; exact hm.symm
  obtain ⟨hF, f1, f2⟩ := fit_two xs ys m hm0 hm1
  have o1 := few_ofA (few_over f1 f2 hF.io) (by omega)
  have o2 := few_ofA (few_under f1 f2 hF.io) (by omega)
  have hio := over_io _ _ _ (Nat.le_refl _) hF.io
  have hmt2 := fun W hW C1 C2 => meet_ok none none 0 0 (fitS xs m) (fitS ys m) W hW C1 C2 hF
  clear hmt2
  have g1 : sumW spIn (ofA (overA (atoms (fitS xs m)) (atoms (fitS ys m)))) = outA (atoms (fitS ys m)) := by rw [row_in o1.1 (by rw [o1.2.1]; have := (few_over f1 f2 hF.io).len; omega), o1.2.1, hio.1]
  have g2 : sumW spOut (fitS ys m) = outA (atoms (fitS ys m)) := row_out hF.vy (by have := f2.len; omega)
  have g3 : sumW spIn (ofA (underA (atoms (fitS ys m)) (atoms (fitS xs m)))) = outA (atoms (fitS xs m)) := by rw [row_in o2.1 (by rw [o2.2.1]; have := (few_under f1 f2 hF.io).len; omega), o2.2.1, hio.2.1]
  have g4 : sumW spOut (fitS xs m) = outA (atoms (fitS xs m)) := row_out hF.vx (by have := f1.len; omega)
  have g5 : sumW spOut (ofA (overA (atoms (fitS xs m)) (atoms (fitS ys m)))) = outA (overA (atoms (fitS xs m)) (atoms (fitS ys m))) := by rw [row_out o1.1 (by rw [o1.2.1]; have := (few_over f1 f2 hF.io).len; omega), o1.2.1]
  have g6 : sumW spOut (ofA (underA (atoms (fitS ys m)) (atoms (fitS xs m)))) = outA (overA (atoms (fitS xs m)) (atoms (fitS ys m))) := by rw [row_out o2.1 (by rw [o2.2.1]; have := (few_under f1 f2 hF.io).len; omega), o2.2.1, hio.2.2.1]
  have g7 : sumW spDrop (fitS ys m) = dropsA (atoms (fitS ys m)) := row_drops hF.vy (by have := f2.len; omega)
  have g8 : sumW spDrop (ofA (overA (atoms (fitS xs m)) (atoms (fitS ys m)))) = dropsA (overA (atoms (fitS xs m)) (atoms (fitS ys m))) := by rw [row_drops o1.1 (by rw [o1.2.1]; have := (few_over f1 f2 hF.io).len; omega), o1.2.1]
  have g9 : sumW spDrop (fitS xs m) = dropsA (atoms (fitS xs m)) := row_drops hF.vx (by have := f1.len; omega)
  have g10 : sumW spDrop (ofA (underA (atoms (fitS ys m)) (atoms (fitS xs m)))) = dropsA (underA (atoms (fitS ys m)) (atoms (fitS xs m))) := by rw [row_drops o2.1 (by rw [o2.2.1]; have := (few_under f1 f2 hF.io).len; omega), o2.2.1]
  have gd := hio.2.2.2.1
  have b7 : dropsA (atoms (fitS ys m)) ≤ 1000 := by have := dropsA_le (atoms (fitS ys m)); have := f2.len; omega
  have b8 : dropsA (overA (atoms (fitS xs m)) (atoms (fitS ys m))) ≤ 1000 := by have := dropsA_le (overA (atoms (fitS xs m)) (atoms (fitS ys m))); have := (few_over f1 f2 hF.io).len; omega
  have b9 : dropsA (atoms (fitS xs m)) ≤ 1000 := by have := dropsA_le (atoms (fitS xs m)); have := f1.len; omega
  have b10 : dropsA (underA (atoms (fitS ys m)) (atoms (fitS xs m))) ≤ 1000 := by have := dropsA_le (underA (atoms (fitS ys m)) (atoms (fitS xs m))); have := (few_under f1 f2 hF.io).len; omega
  have tX : TextsOk (fitS xs m) := texts_ok (by have := hF.bx; omega)
  have tY : TextsOk (fitS ys m) := texts_ok (by have := hF.bound_y; omega)
  have tP : TextsOk (ofA (overA (atoms (fitS xs m)) (atoms (fitS ys m)))) := texts_ok (by have := o1.2.2.2; omega)
  have tQ : TextsOk (ofA (underA (atoms (fitS ys m)) (atoms (fitS xs m)))) := texts_ok (by have := o2.2.2.2; omega)
  clear o1 o2 hio f1 f2
  have c2' := fun W C => fit_calls A ca xs m W C hTx hm0 (by omega)
  have c3' := fun W C => fit_calls B cb ys m W C hTy hm0 (by omega)
  have c4' := fun (A B : Option Addr) (ca cb : Nat) W hW C1 C2 => meet_ok A B ca cb (fitS xs m) (fitS ys m) W hW C1 C2 hF
  generalize dropsA (atoms (fitS ys m)) = e7 at *
  generalize dropsA (overA (atoms (fitS xs m)) (atoms (fitS ys m))) = e8 at *
  generalize dropsA (atoms (fitS xs m)) = e9 at *
  generalize dropsA (underA (atoms (fitS ys m)) (atoms (fitS xs m))) = e10 at *
  generalize outA (overA (atoms (fitS xs m)) (atoms (fitS ys m))) = e5 at *
  generalize outA (atoms (fitS ys m)) = e1 at *
  generalize outA (atoms (fitS xs m)) = e3 at *
  generalize ofA (overA (atoms (fitS xs m)) (atoms (fitS ys m))) = P at *
  generalize ofA (underA (atoms (fitS ys m)) (atoms (fitS xs m))) = Q at *
  clear hF
  generalize fitS xs m = X at *
  generalize fitS ys m = Y at *
  have G := Lib.hid (And.intro (And.intro (And.intro g1 g2) (And.intro g3 g4)) (And.intro (And.intro g5 g6) (And.intro (And.intro g7 g8) (And.intro g9 g10))))
  have C2 := Lib.hid c2'
  have C3 := Lib.hid c3'
  have C4 := Lib.hid c4'
  have hdd : (e7 : Int) + e8 = e9 + e10 := by omega
  clear g1 g2 g3 g4 g5 g6 g7 g8 g9 g10 c2' c3' c4' hx hy hm gd
  go_enter Tryd.func5, Tryd.ntmps5
  go_wp2_with fail
  refine c1.mono ?_
  rintro e w1 ⟨rfl, hb1⟩
  clear c1
  have c2 := C2.out w1 (Kd.C_below HX.out hb1)
  go_wp2_with fail
  refine c2.mono ?_
  rintro e w2 ⟨v1, rfl, hv1, hb2⟩
  clear c2
  obtain ⟨A1, d1, rfl, hC1⟩ := gives_reads hv1
  have HC1 := Aside0.mk hC1
  have B2 := hb1.trans (hb2.mono hb1.size)
  have c3 := C3.out w2 (Kd.C_below HY.out B2)
  clear hC1 hv1
  go_wp2_with fail
  refine c3.mono ?_
  rintro e w3 ⟨v2, rfl, hv2, hb3⟩
  clear c3
  obtain ⟨A2, d2, rfl, hC2⟩ := gives_reads hv2
  have B3 := B2.trans (hb3.mono B2.size)
  have HC1' := Aside0.mk (Kd.C_below HC1.out hb3)
  have c4 := C4.out A1 A2 d1 d2 w3 (hL.below B3) HC1'.out hC2
  have HC2 := Aside0.mk hC2
  clear hC2 hv2 HC1
  go_wp2_with fail
  refine c4.mono ?_
  rintro e w4 ⟨v, u, rfl, hv, hu, hb4⟩
  clear c4
  obtain ⟨A3, d3, rfl, hC3⟩ := gives_reads hv
  obtain ⟨A4, d4, rfl, hC4⟩ := gives_reads hu
  have B4 := B3.trans (hb4.mono B3.size)
  have R1 := Aside0.mk (Kd.C_below HC1'.out hb4)
  have R2 := Aside0.mk (Kd.C_below HC2.out hb4)
  have R3 := Aside0.mk hC3
  have R4 := Aside0.mk hC4
  clear hC3 hC4 hv hu HC1' HC2 hb2 hb3 hb4
  have D4 := Below.refl w4.heap.size w4
  have cc := opIn_calls A3 d3 P w4 (hL.below B4) tP (Kd.C_below R3.out D4)
  rw [G.out.1.1.1] at cc
  go_wp2_with fail
  refine cc.mono ?_
  rintro e w5 ⟨rfl, hbx⟩
  clear cc
  have B5 := B4.trans (hbx.mono B4.size)
  have D5 := D4.trans (hbx.mono D4.size)
  clear hbx
  have cc := opOut_calls A2 d2 Y w5 (hL.below B5) tY (Kd.C_below R2.out D5)
  rw [G.out.1.1.2] at cc
  go_wp2_with fail
  refine cc.mono ?_
  rintro e w6 ⟨rfl, hbx⟩
  clear cc
  have B6 := B5.trans (hbx.mono B5.size)
  have D6 := D5.trans (hbx.mono D5.size)
  clear hbx
  have cc := opIn_calls A4 d4 Q w6 (hL.below B6) tQ (Kd.C_below R4.out D6)
  rw [G.out.1.2.1] at cc
  go_wp2_with fail
  refine cc.mono ?_
  rintro e w7 ⟨rfl, hbx⟩
  clear cc
  have B7 := B6.trans (hbx.mono B6.size)
  have D7 := D6.trans (hbx.mono D6.size)
  clear hbx
  have cc := opOut_calls A1 d1 X w7 (hL.below B7) tX (Kd.C_below R1.out D7)
  rw [G.out.1.2.2] at cc
  go_wp2_with fail
  refine cc.mono ?_
  rintro e w8 ⟨rfl, hbx⟩
  clear cc
  have B8 := B7.trans (hbx.mono B7.size)
  have D8 := D7.trans (hbx.mono D7.size)
  clear hbx
  have cc := opOut_calls A3 d3 P w8 (hL.below B8) tP (Kd.C_below R3.out D8)
  rw [G.out.2.1.1] at cc
  go_wp2_with fail
  refine cc.mono ?_
  rintro e w9 ⟨rfl, hbx⟩
  clear cc
  have B9 := B8.trans (hbx.mono B8.size)
  have D9 := D8.trans (hbx.mono D8.size)
  clear hbx
  have cc := opOut_calls A4 d4 Q w9 (hL.below B9) tQ (Kd.C_below R4.out D9)
  rw [G.out.2.1.2] at cc
  go_wp2_with fail
  refine cc.mono ?_
  rintro e w10 ⟨rfl, hbx⟩
  clear cc
  have B10 := B9.trans (hbx.mono B9.size)
  have D10 := D9.trans (hbx.mono D9.size)
  clear hbx
  have cc := drops_calls A2 d2 Y w10 (Kd.C_below R2.out D10)
  rw [G.out.2.2.1.1] at cc
  go_wp2_with fail
  refine cc.mono ?_
  rintro e w11 ⟨rfl, hbx⟩
  clear cc
  have B11 := B10.trans (hbx.mono B10.size)
  have D11 := D10.trans (hbx.mono D10.size)
  clear hbx
  have cc := drops_calls A3 d3 P w11 (Kd.C_below R3.out D11)
  rw [G.out.2.2.1.2] at cc
  go_wp2_with fail
  refine cc.mono ?_
  rintro e w12 ⟨rfl, hbx⟩
  clear cc
  have B12 := B11.trans (hbx.mono B11.size)
  have D12 := D11.trans (hbx.mono D11.size)
  clear hbx
  have cc := drops_calls A1 d1 X w12 (Kd.C_below R1.out D12)
  rw [G.out.2.2.2.1] at cc
  go_wp2_with fail
  refine cc.mono ?_
  rintro e w13 ⟨rfl, hbx⟩
  clear cc
  have B13 := B12.trans (hbx.mono B12.size)
  have D13 := D12.trans (hbx.mono D12.size)
  clear hbx
  have cc := drops_calls A4 d4 Q w13 (Kd.C_below R4.out D13)
  rw [G.out.2.2.2.2] at cc
  go_wp2_with fail
  refine cc.mono ?_
  rintro e w14 ⟨rfl, hbx⟩
  clear cc
  have B14 := B13.trans (hbx.mono B13.size)
  have D14 := D13.trans (hbx.mono D13.size)
  clear hbx
  go_wp2_with fail
  go_ret
  exact ⟨rfl, B14⟩

end Go.Proofs.YtmfpfipjhhfbhaaDoor
