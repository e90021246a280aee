/- The walk of OverOne. -/
import Derived.Test.YtmfpfipjhhfbhaaDoorShown11
import Derived.Test.YtmfpfipjhhfbhaaDoorFitRw
namespace Go.Proofs.YtmfpfipjhhfbhaaDoor
open Go.RowKit Go.Proofs.YtmfpfipjhhfbhaaDoorW.PrintWords

set_option maxRecDepth 100000 in
set_option maxHeartbeats 4000000 in
theorem lawOverOne_calls (A : Option Addr) (ca : Nat) (xs : List Sp) (B C : Option Addr) (cb cc : Nat) (ys zs : List Sp) (n : Int) (w : World) (hL : Laid w) (hx : Kd.C kSp w A xs.length xs) (hTx : ∀ s ∈ xs, s.t.size ≤ 9223372036854775807)
    (hy : Kd.C kSp w B ys.length ys) (hTy : ∀ s ∈ ys, s.t.size ≤ 9223372036854775807) (hz : Kd.C kSp w C zs.length zs) (hTz : ∀ s ∈ zs, s.t.size ≤ 9223372036854775807) (hn0 : 0 ≤ n) (_hn1 : n ≤ 255) :
    Calls Tryd.prog 8 #[.slice A xs.length ca, .agg #[.slice B ys.length cb, .slice C zs.length cc], .int .u8 n] w fun e w' => e = .returned (.bool true) ∧ Below w.heap.size w w' := by
  obtain ⟨m, hm⟩ : ∃ m : Nat, (m : Int) = n % 64 := ⟨(n % 64).toNat, by omega⟩
  have hm1 : m ≤ 63 := by omega
  have hmt : n.tmod 64 = m := by rw [Int.tmod_eq_emod_of_nonneg hn0]; exact hm.symm
  obtain ⟨rX, hinX⟩ := fit_rw xs m (by omega)
  obtain ⟨rS, hinS⟩ := fit_rw ys m (by omega)
  have hio : inA (atoms (fitS xs m)) = inA (atoms (fitS ys m)) := by rw [hinX, hinS]
  obtain ⟨o, ho⟩ : ∃ o, o = outA (atoms (fitS ys m)) := ⟨_, rfl⟩
  have hol : o ≤ 400 := by have := out_le' (atoms (fitS ys m)); have := rS.few; omega
  obtain ⟨rT, hinT⟩ := fit_rw zs o (by omega)
  have hst : outA (atoms (fitS ys m)) = inA (atoms (fitS zs o)) := by rw [hinT, ho]
  have io1 := over_io _ _ _ (Nat.le_refl _) hio
  have io2 := comp_io _ _ _ (Nat.le_refl _) hst
  have rP := (rX.over rS hio (by omega)).up (c := 800) (by omega)
  have rC := (rS.comp rT hst (by omega)).up (c := 1100) (by omega)
  have hpt : inA (overA (atoms (fitS xs m)) (atoms (fitS ys m))) = inA (atoms (fitS zs o)) := by rw [io1.1, hst]
  have hxc : inA (atoms (fitS xs m)) = inA (compA (atoms (fitS ys m)) (atoms (fitS zs o))) := by rw [io2.1, hio]
  have key := over_comp _ (atoms (fitS xs m)) (atoms (fitS ys m)) (atoms (fitS zs o)) (Nat.le_refl _) hio hst
  have c1 := fun W C => fit_calls A ca xs m W C hTx (by omega) (by omega)
  have c2 := fun W C => fit_calls B cb ys m W C hTy (by omega) (by omega)
  have c3 := fun W C' => fit_calls C cc zs o W C' hTz (by omega) (by omega)
  have cO := fun A ca W hW h1 => opOut_calls A ca (fitS ys m) W hW (rS.texts (by omega)) h1
  have cC := fun A B ca cb W hW h1 h2 => comp_rw rS rT hst (by omega) A B ca cb W hW h1 h2
  have cP := fun A B ca cb W hW h1 h2 => over_rw rX rS hio (by omega) A B ca cb W hW h1 h2
  have cQ := fun A B ca cb W hW h1 h2 => over_rw rP rT hpt (by omega) A B ca cb W hW h1 h2
  have cR := fun A B ca cb W hW h1 h2 => over_rw rX rC hxc (by omega) A B ca cb W hW h1 h2
  rw [rS.outs (by omega), ← ho] at cO
  rw [key] at cR
  generalize ofA (overA (overA (atoms (fitS xs m)) (atoms (fitS ys m))) (atoms (fitS zs o))) = Q at *
  generalize ofA (compA (atoms (fitS ys m)) (atoms (fitS zs o))) = CC at *
  generalize ofA (overA (atoms (fitS xs m)) (atoms (fitS ys m))) = P at *
  clear rX rS rT rP rC hinX hinS hinT hio hst io1 io2 hpt hxc key ho
  generalize fitS xs m = X at *
  generalize fitS ys m = S at *
  generalize fitS zs o = T at *
  have e1 := (((Env.start hL).add hx).add hy).add hz
  have G := Lib.hid (And.intro (And.intro (And.intro c1 c2) (And.intro c3 cO)) (And.intro (And.intro cC cP) (And.intro cQ cR)))
  clear c1 c2 c3 cO cC cP cQ cR hx hy hz hm
  go_enter Tryd.func8, Tryd.ntmps8
  go_wp2_with fail
  have hb0 : Below w.heap.size w (w.alloc (.cells #[.slice B ys.length cb, .slice C zs.length cc] 51)) := (Below.refl _ _).alloc (Nat.le_refl _) _
  have e2 := e1.next hb0
  have q0 := blk_new w (.cells #[.slice B ys.length cb, .slice C zs.length cc] 51)
  clear e1 hb0
  refine (shown11_calls _ e2.laid).mono ?_
  rintro e w1 ⟨rfl, hb⟩
  have q1 := blk_below q0 hb
  have e3 := e2.next hb
  clear e2 q0 hb
  have cc := G.out.1.1.1 w1 (e3.row 2 rfl)
  go_wp2_with fail
  refine cc.mono ?_
  rintro e w2 ⟨v, rfl, hv, hb⟩
  clear cc
  obtain ⟨A1, d1, rfl, hC⟩ := gives_reads hv
  have q2 := blk_below q1 hb
  have e4 := (e3.next hb).add hC
  have z0 := blk_cell q2 0
  clear hv hC hb e3 q1
  have cc := G.out.1.1.2 w2 (e4.row 2 rfl)
  go_wp2_with fail
  refine cc.mono ?_
  rintro e w3 ⟨v, rfl, hv, hb⟩
  clear cc z0
  obtain ⟨A2, d2, rfl, hC⟩ := gives_reads hv
  have q3 := blk_below q2 hb
  have e5 := (e4.next hb).add hC
  have z1 := blk_cell q3 1
  clear hv hC hb e4 q2
  go_wp2_with fail
  have e6 := e5.next (below_drew (Below.refl _ _))
  have q4 := blk_drew q3
  have cc := G.out.1.2.2 A2 d2 w3.drew e6.laid (e6.row 0 rfl)
  have E6 := Lib.hid e6
  clear e5 e6
  go_region_law (first
    | (go_simp; refine cF.mono ?_; rintro e w5 ⟨v, rfl, hv, hb5⟩)
    | (go_simp; refine cc.mono ?_; rintro e w4 ⟨rfl, hb4⟩; have e7 := E6.out.next hb4; have q5 := blk_below q4 hb4; have z5 := blk_cell q5 1; have cF := G.out.1.2.1 w4 (e7.row 2 rfl)))
  all_goals (
    obtain ⟨A3, d3, rfl, hC⟩ := gives_reads hv
    have e8 := (e7.next hb5).add hC
    clear hv hC hb5 hb4 cF cc e7 E6 q5 z5 z1 q4 q3
    have cc := G.out.2.1.1 A2 A3 d2 d3 w5 e8.laid (e8.row 1 rfl) (e8.row 0 rfl)
    go_wp2_with fail
    refine cc.mono ?_
    rintro e w6 ⟨v, rfl, hv, hb⟩
    clear cc
    obtain ⟨A4, d4, rfl, hC⟩ := gives_reads hv
    have e9 := (e8.next hb).add hC
    clear hv hC hb e8
    have cc := G.out.2.1.2 A1 A2 d1 d2 w6 e9.laid (e9.row 3 rfl) (e9.row 2 rfl)
    go_wp2_with fail
    refine cc.mono ?_
    rintro e w7 ⟨v, rfl, hv, hb⟩
    clear cc
    obtain ⟨A5, d5, rfl, hC⟩ := gives_reads hv
    have e10 := (e9.next hb).add hC
    clear hv hC hb e9
    have cc := G.out.2.2.1 A5 A3 d5 d3 w7 e10.laid (e10.row 0 rfl) (e10.row 2 rfl)
    go_wp2_with fail
    refine cc.mono ?_
    rintro e w8 ⟨v, rfl, hv, hb⟩
    clear cc
    obtain ⟨A6, d6, rfl, hC⟩ := gives_reads hv
    have e11 := (e10.next hb).add hC
    clear hv hC hb e10
    have cc := G.out.2.2.2 A1 A4 d1 d4 w8 e11.laid (e11.row 5 rfl) (e11.row 2 rfl)
    go_wp2_with fail
    refine cc.mono ?_
    rintro e w9 ⟨v, rfl, hv, hb⟩
    clear cc
    obtain ⟨A7, d7, rfl, hC⟩ := gives_reads hv
    have e12 := (e11.next hb).add hC
    clear hv hC hb e11
    have cc := same_calls A6 A7 d6 d7 Q w9 (e12.row 1 rfl) (e12.row 0 rfl)
    go_wp2_with fail
    refine cc.mono ?_
    rintro e w10 ⟨rfl, hb⟩
    clear cc
    have e13 := e12.next hb
    go_wp2_with fail
    go_ret
    exact ⟨rfl, e13.bel⟩)

end Go.Proofs.YtmfpfipjhhfbhaaDoor
