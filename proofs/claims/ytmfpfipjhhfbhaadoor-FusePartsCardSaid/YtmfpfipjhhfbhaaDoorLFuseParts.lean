/- The walk of FuseParts. -/
import Derived.Test.YtmfpfipjhhfbhaaDoorParts
namespace Go.Proofs.YtmfpfipjhhfbhaaDoor
open Go.RowKit Go.Proofs.YtmfpfipjhhfbhaaDoorW.PrintWords

set_option maxRecDepth 100000 in
set_option maxHeartbeats 4000000 in
theorem lawFuseParts_calls (A : Option Addr) (ca : Nat) (l : List (List Sp)) (n y : Int) (w : World) (hL : Laid w) (hx : Kd.C kRow w A l.length l) (hTx : ∀ X ∈ l, ∀ s ∈ X, s.t.size ≤ 9223372036854775807) (hn0 : 0 ≤ n) (_hn1 : n ≤ 255) (hy0 : 0 ≤ y) (_hy1 : y ≤ 255) :
    Calls Tryd.prog 10 #[.slice A l.length ca, .int .u8 n, .int .u8 y] w fun e w' => e = .returned (.bool true) ∧ Below w.heap.size w w' := by
  obtain ⟨m, hm⟩ : ∃ m : Nat, (m : Int) = n % 64 := ⟨(n % 64).toNat, by omega⟩
  have hm1 : m ≤ 63 := by omega
  have hmt : n.tmod 64 = m := by rw [Int.tmod_eq_emod_of_nonneg hn0]; exact hm.symm
  obtain ⟨hch, hB, hlen, _⟩ := chainS_ok l m (by omega)
  have hB := hB.up (c := 5823) (by omega)
  have e0 := (Env.start hL).adds hx
  have c1 := shown10_calls w hL
  have cW := fun W C => chain4_calls A ca l m W C hTx (by omega)
  generalize chainS l m = L at *
  obtain ⟨k, hk⟩ : ∃ k : Nat, (k : Int) = y % ((L.length : Int) + 1) := ⟨(y % ((L.length : Int) + 1)).toNat, by have := Int.emod_nonneg y (show (L.length : Int) + 1 ≠ 0 by omega); omega⟩
  have hk1 : k ≤ L.length := by have := Int.emod_lt_of_pos y (show (0 : Int) < (L.length : Int) + 1 by omega); omega
  have hkt : y.tmod ((L.length : Int) + 1) = k := by rw [Int.tmod_eq_emod_of_nonneg hy0]; exact hk.symm
  obtain ⟨p1, p2, p3⟩ := fuse_parts m k L hch
  obtain ⟨q, hq⟩ : ∃ q, q = endN m (L.take k) := ⟨_, rfl⟩
  have hq1 : q ≤ 5823 := by rw [hq]; exact endN_le _ _ (hB.take k) (by omega)
  rw [← hq] at p2 p3
  have lt1 : (L.take k).length = k := by rw [List.length_take]; omega
  have lt2 : (L.drop k).length = L.length - k := List.length_drop
  have b0 : m + 1 + L.length * 5823 ≤ 262144 := by omega
  have b1 : m + 1 + (L.take k).length * 5823 ≤ 122284 := by omega
  have b2 : q + 1 + (L.drop k).length * 5823 ≤ 122284 := by omega
  obtain ⟨r1, o1, i1⟩ := fuse_rw m (L.take k) 5823 (by omega) p1 (hB.take k) (by omega)
  obtain ⟨r2, o2, i2⟩ := fuse_rw q (L.drop k) 5823 (by omega) p2 (hB.drop k) (by omega)
  have r1 := r1.up b1
  have r2 := r2.up b2
  rw [← hq] at o1
  have f2 := fuse_two m _ _ _ _ r1.ato r2.ato i1
  have cA := fun B cb W hW h => fuse_ok m B cb L 5823 W hW (by omega) h hch hB (by omega)
  have cB := fun B cb W hW h => fuse_ok m B cb (L.take k) 5823 W hW (by omega) h p1 (hB.take k) (by omega)
  have cC := fun B cb W hW h => fuse_ok q B cb (L.drop k) 5823 W hW (by omega) h p2 (hB.drop k) (by omega)
  have cO := fun A ca W hW h => opOut_calls A ca _ W hW (r1.texts (by omega)) h
  rw [r1.outs (by omega), o1] at cO
  have cD := fun B W hW h => fuse_ok m B 2 [ofA (fuseA m (L.take k)), ofA (fuseA q (L.drop k))] 122284 W hW (by omega) h ⟨by rw [r1.ato, i1], by rw [r1.ato, r2.ato, i2, o1], trivial⟩
    ⟨fun X hX => by
      simp at hX
      rcases hX with rfl | rfl
      · rw [r1.ato]; exact r1
      · rw [r2.ato]; exact r2⟩ (by show m + 1 + 2 * 122284 ≤ _; omega)
  rw [f2, p3] at cD
  rw [lt1] at cB
  rw [lt2] at cC
  clear hx hch hB p1 p2 p3 hq r1 r2 o1 o2 i1 i2 f2 b0 b1 b2 lt1 lt2 hk
  generalize ofA (fuseA m L) = P at *
  generalize ofA (fuseA m (L.take k)) = X at *
  generalize ofA (fuseA q (L.drop k)) = Y at *
  have G := Lib.hid (And.intro (And.intro (And.intro cW cA) (And.intro cB cC)) (And.intro cO cD))
  clear cW cA cB cC cO cD hm hTx
  go_enter Tryd.func10, Tryd.ntmps10
  have cc := c1
  go_wp2_with fail
  refine cc.mono ?_
  rintro e w1 ⟨rfl, hb⟩
  clear cc
  have e1 := e0.next hb
  clear hb e0
  have cc := G.out.1.1.1 w1 (e1.rows 0 rfl)
  go_wp2_with fail
  refine cc.mono ?_
  rintro e w2 ⟨v, rfl, hv, hb⟩
  clear cc
  obtain ⟨AL, dL, rfl, hdL, hC⟩ := gives_rows hv
  have e2 := (e1.next hb).adds hC
  clear hv hC hb e1
  have cc := G.out.1.1.2 AL dL w2 e2.laid (e2.rows 0 rfl)
  go_wp2_with fail
  refine cc.mono ?_
  rintro e w3 ⟨A1, d1, rfl, hC, hb⟩
  clear cc
  have e3 := (e2.next hb).add hC
  clear hb hC e2
  have cc := G.out.1.2.1 AL dL w3 e3.laid (rows_take (e3.rows 1 rfl) hk1)
  go_wp2_with fail
  refine cc.mono ?_
  rintro e w4 ⟨A2, d2, rfl, hC, hb⟩
  clear cc
  have e4 := (e3.next hb).add hC
  clear hb hC e3
  go_wp2_with fail
  have e5 := e4.next (below_drew (Below.refl _ _))
  have cc := G.out.2.1 A2 d2 w4.drew e5.laid (e5.row 0 rfl)
  have E5 := Lib.hid e5
  clear e4 e5
  go_region_law (first
    | (go_simp; refine cF.mono ?_; rintro e w6 ⟨A3, d3, rfl, hC, hb6⟩)
    | (go_simp; refine cc.mono ?_; rintro e w5 ⟨rfl, hb5⟩; have e7 := E5.out.next hb5; have cF := G.out.1.2.2 _ (dL - k) w5 e7.laid (rows_drop (e7.rows 2 rfl) hk1 hdL)))
  all_goals (
    have e8 := (e7.next hb6).add hC
    clear hC hb6 hb5 cF cc e7 E5
    generalize (if dL = k then AL else Option.map (fun x => x.add k) AL) = AK
    have e9 := e8.lits [(A2, X, d2), (A3, Y, d3)] (fun p hp => by
      simp at hp
      rcases hp with rfl | rfl
      · simp
      · simp) (by show 2 ≤ 100; omega)
    simp only [List.map_cons, List.map_nil] at e9
    have cc := G.out.2.2 _ _ e9.laid (e9.rows 0 rfl)
    go_wp2_with fail
    refine cc.mono ?_
    rintro e w7 ⟨A4, d4, rfl, hC, hb⟩
    clear cc
    have e10 := (e9.next hb).add hC
    clear hb hC e8 e9
    have cc := same_calls A1 A4 d1 d4 P w7 (e10.row 4 rfl) (e10.row 0 rfl)
    go_wp2_with fail
    refine cc.mono ?_
    rintro e w8 ⟨rfl, hb⟩
    clear cc
    have e11 := e10.next hb
    clear hb e10
    go_wp2_with fail
    go_ret
    exact ⟨rfl, e11.bel⟩)

end Go.Proofs.YtmfpfipjhhfbhaaDoor
