/- The walk of UnderKeeps. -/
import Derived.Test.YtmfpfipjhhfbhaaDoorShown12
import Derived.Test.YtmfpfipjhhfbhaaDoorKeep
import Derived.Test.YtmfpfipjhhfbhaaDoorFitRw
namespace Go.Proofs.YtmfpfipjhhfbhaaDoor
open Go.RowKit Go.Proofs.YtmfpfipjhhfbhaaDoorW.PrintWords

set_option maxRecDepth 100000 in
set_option maxHeartbeats 4000000 in
theorem lawUnderKeeps_calls (A : Option Addr) (ca : Nat) (xs : List Sp) (n : Int) (w : World) (hL : Laid w) (hx : Kd.C kSp w A xs.length xs) (hTx : ∀ s ∈ xs, s.t.size ≤ 9223372036854775807) (hn0 : 0 ≤ n) (_hn1 : n ≤ 255) :
    Calls Tryd.prog 7 #[.slice A xs.length ca, .int .u8 n] w fun e w' => e = .returned (.bool true) ∧ Below w.heap.size w w' := by
  obtain ⟨m, hm⟩ : ∃ m : Nat, (m : Int) = n % 64 := ⟨(n % 64).toNat, by omega⟩
  have hm1 : m ≤ 63 := by omega
  have hmt : n.tmod 64 = m := by rw [Int.tmod_eq_emod_of_nonneg hn0]; exact hm.symm
  obtain ⟨rX, hin⟩ := fit_rw xs m (by omega)
  have rK := keep_rw m 64 (by omega) (by omega)
  have e1 := (Env.start hL).add hx
  have hio : inA (atoms (fitS xs m)) = inA (List.replicate m .keep) := by rw [hin, inA_keeps]
  have k1 : underA (atoms (fitS xs m)) (List.replicate m .keep) = atoms (fitS xs m) := by have h := under_keep1 (atoms (fitS xs m)); rw [hin] at h; exact h
  have k2 : underA (List.replicate m .keep) (atoms (fitS xs m)) = List.replicate (outA (atoms (fitS xs m))) .keep := by
    have h := under_keep2 (atoms (fitS xs m))
    rw [hin] at h; exact h
  have k3 : overA (atoms (fitS xs m)) (List.replicate m .keep) = atoms (fitS xs m) := by have h := over_keep1 (atoms (fitS xs m)); rw [hin] at h; exact h
  have hout : outA (atoms (fitS xs m)) ≤ 400 := by have := out_le' (atoms (fitS xs m)); have := rX.few; omega
  have k4 := ofA_keeps (outA (atoms (fitS xs m))) (by omega)
  have cF := fun W C => fit_calls A ca xs m W C hTx (by omega) (by omega)
  have cK := fun W => opKeep_ok m W (by omega)
  have cU := fun A B ca cb W hW h1 h2 => under_rw rX rK hio (by omega) A B ca cb W hW h1 h2
  have cV := fun A B ca cb W hW h1 h2 => under_rw rK rX hio.symm (by omega) A B ca cb W hW h1 h2
  have cM := fun A B ca cb W hW h1 h2 => meet_rw rX rK hio (by omega) A B ca cb W hW h1 h2
  have cO := fun A ca W hW h1 => opOut_calls A ca (fitS xs m) W hW (rX.texts (by omega)) h1
  have cN := fun A ca W h1 => norm_rw rX (by omega) A ca W h1
  have cW := fun W => opKeep_ok (outA (atoms (fitS xs m))) W (by omega)
  rw [rX.outs (by omega)] at cO
  rw [k1] at cU
  rw [k2, k4] at cV cM
  rw [k3] at cM
  generalize outA (atoms (fitS xs m)) = o at *
  generalize ofA (atoms (fitS xs m)) = X' at *
  clear rX rK hin hio k1 k2 k3 k4
  generalize fitS xs m = X at *
  generalize keepS m = K at *
  generalize keepS o = O at *
  have G := Lib.hid (And.intro (And.intro (And.intro cF cK) (And.intro cU cV)) (And.intro (And.intro cM cO) (And.intro cN cW)))
  clear cF cK cU cV cM cO cN cW hx hm
  have c1 := shown12_calls w hL
  go_enter Tryd.func7, Tryd.ntmps7
  have cc := c1
  go_wp2_with fail
  refine cc.mono ?_
  rintro e w1 ⟨rfl, hb⟩
  clear cc
  have e2 := e1.next hb
  clear hb e1
  have cc := G.out.1.1.1 w1 (e2.row 0 rfl)
  go_wp2_with fail
  refine cc.mono ?_
  rintro e w2 ⟨v, rfl, hv, hb⟩
  clear cc
  obtain ⟨AX, cX, rfl, hC⟩ := gives_reads hv
  have e3 := (e2.next hb).add hC
  clear hv hC hb e2
  have cc := G.out.1.1.2 w2
  go_wp2_with fail
  refine cc.mono ?_
  rintro e w3 ⟨v, rfl, hv, hb⟩
  clear cc
  obtain ⟨AK, cK, rfl, hC⟩ := gives_reads hv
  have e4 := (e3.next hb).add hC
  clear hv hC hb e3
  have cc := G.out.1.2.1 AX AK cX cK w3 e4.laid (e4.row 1 rfl) (e4.row 0 rfl)
  go_wp2_with fail
  refine cc.mono ?_
  rintro e w4 ⟨v, rfl, hv, hb⟩
  clear cc
  obtain ⟨A1, d1, rfl, hC⟩ := gives_reads hv
  have e5 := (e4.next hb).add hC
  clear hv hC hb e4
  have cc := G.out.1.2.2 AK AX cK cX w4 e5.laid (e5.row 1 rfl) (e5.row 2 rfl)
  go_wp2_with fail
  refine cc.mono ?_
  rintro e w5 ⟨v, rfl, hv, hb⟩
  clear cc
  obtain ⟨A2, d2, rfl, hC⟩ := gives_reads hv
  have e6 := (e5.next hb).add hC
  clear hv hC hb e5
  have cc := G.out.2.1.2 AX cX w5 e6.laid (e6.row 3 rfl)
  go_wp2_with fail
  refine cc.mono ?_
  rintro e w6 ⟨rfl, hb⟩
  clear cc
  have e7 := e6.next hb
  clear hb e6
  have cc := G.out.2.2.2 w6
  go_wp2_with fail
  refine cc.mono ?_
  rintro e w7 ⟨v, rfl, hv, hb⟩
  clear cc
  obtain ⟨A3, d3, rfl, hC⟩ := gives_reads hv
  have e8 := (e7.next hb).add hC
  clear hv hC hb e7
  have cc := G.out.2.1.1 AX AK cX cK w7 e8.laid (e8.row 4 rfl) (e8.row 3 rfl)
  go_wp2_with fail
  refine cc.mono ?_
  rintro e w8 ⟨v, u, rfl, hv, hu, hb⟩
  clear cc
  obtain ⟨A4, d4, rfl, hC⟩ := gives_reads hv
  obtain ⟨A5, d5, rfl, hD⟩ := gives_reads hu
  have e9 := ((e8.next hb).add hC).add hD
  clear hv hC hb hu hD e8
  have cc := G.out.2.2.1 AX cX w8 (e9.row 6 rfl)
  go_wp2_with fail
  refine cc.mono ?_
  rintro e w9 ⟨v, rfl, hv, hb⟩
  clear cc
  obtain ⟨A6, d6, rfl, hC⟩ := gives_reads hv
  have e10 := (e9.next hb).add hC
  clear hv hC hb e9
  have cc := same_calls A1 A6 d1 d6 X' w9 (e10.row 5 rfl) (e10.row 0 rfl)
  go_wp2_with fail
  refine cc.mono ?_
  rintro e w10 ⟨rfl, hb⟩
  clear cc
  have e11 := e10.next hb
  clear hb e10
  have cc := same_calls A2 A3 d2 d3 O w10 (e11.row 4 rfl) (e11.row 3 rfl)
  go_wp2_with fail
  refine cc.mono ?_
  rintro e w11 ⟨rfl, hb⟩
  clear cc
  have e12 := e11.next hb
  clear hb e11
  have cc := G.out.2.2.1 AX cX w11 (e12.row 7 rfl)
  go_wp2_with fail
  refine cc.mono ?_
  rintro e w12 ⟨v, rfl, hv, hb⟩
  clear cc
  obtain ⟨A7, d7, rfl, hC⟩ := gives_reads hv
  have e13 := (e12.next hb).add hC
  clear hv hC hb e12
  have cc := same_calls A4 A7 d4 d7 X' w12 (e13.row 3 rfl) (e13.row 0 rfl)
  go_wp2_with fail
  refine cc.mono ?_
  rintro e w13 ⟨rfl, hb⟩
  clear cc
  have e14 := e13.next hb
  clear hb e13
  have cc := same_calls A5 A3 d5 d3 O w13 (e14.row 2 rfl) (e14.row 4 rfl)
  go_wp2_with fail
  refine cc.mono ?_
  rintro e w14 ⟨rfl, hb⟩
  clear cc
  have e15 := e14.next hb
  clear hb e14
  go_wp2_with fail
  go_ret
  exact ⟨rfl, e15.bel⟩

end Go.Proofs.YtmfpfipjhhfbhaaDoor
