/- The walk of FuseOne. -/
import Derived.Test.YtmfpfipjhhfbhaaDoorShown10
import Derived.Test.YtmfpfipjhhfbhaaDoorFuse
import Derived.Test.YtmfpfipjhhfbhaaDoorOne
namespace Go.Proofs.YtmfpfipjhhfbhaaDoor
open Go.RowKit Go.Proofs.YtmfpfipjhhfbhaaDoorW.PrintWords

theorem keep_rw' (n : Nat) (h : n ≤ 1048576) : Rw (keepS n) (List.replicate n .keep) (n + 1) := by
  obtain ⟨h2, h3⟩ := keepS_small n
  exact ⟨keepS_valid n h, keepS_atoms n, good_keeps n, by simp, by omega, by omega⟩
/-- No operation fits behind what keeps some, but one that takes as many: none takes none. -/
theorem odd_err (n : Nat) (h0 : 0 < n) (h : n ≤ 1048576) (A' C : Option Addr) (c' cx : Nat) (W : World) (hW : Laid W) (h1 : Kd.C kSp W A' (keepS n).length (keepS n)) (h2 : Kd.C kSp W C ([] : List Sp).length []) :
    Calls Tryd.prog 35 #[.slice A' (keepS n).length c', .slice C ([] : List Sp).length cx] W fun e w' => e = .returned (.tuple #[.slice none 0 0, .int .i64 5]) ∧ Below W.heap.size W w' := by
  have hv := keepS_valid n h
  have hs := keepS_small n
  have hm : opMay (keepS n) = 0 := (opMay_zero (by omega)).2 ⟨hv, by rw [keepS_atoms, inA_keeps]; exact h⟩
  have ho : sumW spOut (keepS n) = n := by rw [opOut_atoms hv (by rw [keepS_atoms, outA_keeps]; omega), keepS_atoms, outA_keeps]
  exact comp_err3 A' C c' cx (keepS n) [] W hW (texts_ok (by omega)) (fun _ hs => by cases hs) h1 h2 hm rfl (by rw [ho]; show (n : Int) ≠ 0; omega)

set_option maxRecDepth 100000 in
set_option maxHeartbeats 4000000 in
theorem lawFuseOne_calls (A : Option Addr) (ca : Nat) (xs : List Sp) (n odd : Int) (w : World) (hL : Laid w) (hx : Kd.C kSp w A xs.length xs) (hTx : ∀ s ∈ xs, s.t.size ≤ 9223372036854775807) (hn0 : 0 ≤ n) (_hn1 : n ≤ 255) (_ho0 : IntKind.i64.min ≤ odd) (_ho1 : odd ≤ IntKind.i64.max) :
    Calls Tryd.prog 12 #[.slice A xs.length ca, .int .u8 n, .int .i64 odd] w fun e w' => e = .returned (.bool true) ∧ Below w.heap.size w w' := by
  obtain ⟨m, hm⟩ : ∃ m : Nat, (m : Int) = n % 64 := ⟨(n % 64).toNat, by omega⟩
  have hm1 : m ≤ 63 := by omega
  have hmt : n.tmod 64 = m := by rw [Int.tmod_eq_emod_of_nonneg hn0]; exact hm.symm
  obtain ⟨rX, hin⟩ := fit_rw xs m (by omega)
  have rX := rX.up (c := 400) (by omega)
  have e0 := ((Env.start hL).add hx).add (A := none) (xs := []) (Kd.C_nil _ _)
  have c1 := shown10_calls w hL
  have cF := fun W C => fit_calls A ca xs m W C hTx (by omega) (by omega)
  have cA := fun W hW => fuse_ok m none 0 [] 400 W hW (by omega) (Kd.C_nil _ _) trivial ⟨fun X hX => by cases hX⟩ (by show m + 1 + 0 * 400 ≤ _; omega)
  have cK := fun W => opKeep_ok m W (by omega)
  have cB := fun B W hW h => fuse_ok m B 1 [fitS xs m] 400 W hW (by omega) h ⟨hin, trivial⟩ ⟨fun X hX => by rw [List.mem_singleton.1 hX]; exact rX⟩ (by show m + 1 + 1 * 400 ≤ _; omega)
  have cN := fun A ca W h => norm_rw rX (by omega) A ca W h
  have f1 : fuseA m [fitS xs m] = atoms (fitS xs m) := by
    show compA (List.replicate m .keep) (atoms _) = _
    have h := comp_keep1 (atoms (fitS xs m))
    rw [hin] at h; exact h
  rw [show ofA (fuseA m []) = keepS m from ofA_keeps m (by omega)] at cA
  rw [f1] at cB
  generalize ofA (atoms (fitS xs m)) = O at *
  generalize keepS m = K at *
  have cE : ∀ k : Nat, 0 < k → k ≤ 1048576 → ∀ (B : Option Addr) (W : World), Laid W → Kd.C kRow W B 1 [[]] → Calls Tryd.prog 37 #[.int .i64 k, .slice B 1 1] W fun e w' => e = .returned (.tuple #[.slice none 0 0, .int .i64 5]) ∧ Below W.heap.size W w' := fun k h0 hk B W hW h =>
    fuse_err k B 1 [[]] 400 (k + 1) 0 [] 5 W hW hk (keep_rw' k hk) h rfl trivial ⟨fun X hX => by cases hX⟩ (fun h => by omega) (by decide) (fun A' C c' cx W hW h1 h2 => by
      have e : ofA (fuseA k (([[]] : List (List Sp)).take 0)) = keepS k := ofA_keeps k hk
      rw [e] at h1 ⊢
      exact odd_err k h0 hk A' C c' cx W hW h1 h2)
  have cZ : ∀ (B : Option Addr) (W : World), Laid W → Kd.C kRow W B 1 [[]] → Calls Tryd.prog 37 #[.int .i64 0, .slice B 1 1] W fun e w' => ∃ A' c', e = .returned (.tuple #[.slice A' 0 c', .int .i64 0]) ∧ Below W.heap.size W w' := fun B W hW h => by
    have hh := fuse_ok 0 B 1 [[]] 400 W hW (by omega) h ⟨rfl, trivial⟩ ⟨fun X hX => by rw [List.mem_singleton.1 hX]; exact rw_nil 400⟩ (by decide)
    have e : ofA (fuseA 0 [[]]) = [] := by
      show ofA (compA [] []) = []
      rw [comp_nn]; rfl
    rw [e] at hh
    refine hh.mono ?_
    rintro e w' ⟨A', c', rfl, _, hb⟩
    exact ⟨A', c', rfl, hb⟩
  have cQ : ∀ k : Int, 0 ≤ k → k ≤ 1048576 → ∀ (B : Option Addr) (W : World), Laid W → Kd.C kRow W B 1 [xs] → Calls Tryd.prog 40 #[.int .i64 k, .slice B 1 1] W fun e w' => (∃ a b : Int, e = .returned (.tuple #[.int .i64 a, .int .i64 b])) ∧ Below W.heap.size W w' := fun k h0 h1 B W hW h =>
    (chain_calls k B 1 [xs] W hW h0 h1 h (fun X hX => by rw [List.mem_singleton.1 hX]; exact hTx)).mono (fun e w' he => ⟨⟨_, _, he.1⟩, he.2⟩)
  clear rX hin f1 hx
  generalize fitS xs m = X at *
  have G := Lib.hid (And.intro (And.intro (And.intro cF cA) (And.intro cK cB)) (And.intro (And.intro cE (And.intro cZ cQ)) cN))
  clear cF cA cK cB cE cZ cQ cN hm hTx
  go_enter Tryd.func12, Tryd.ntmps12
  have cc := c1
  go_wp2_with fail
  refine cc.mono ?_
  rintro e w1 ⟨rfl, hb⟩
  clear cc
  have e1 := e0.next hb
  clear hb e0
  have cc := G.out.1.1.1 w1 (e1.row 1 rfl)
  go_wp2_with fail
  refine cc.mono ?_
  rintro e w2 ⟨v, rfl, hv, hb⟩
  clear cc
  obtain ⟨AX, cX, rfl, hC⟩ := gives_reads hv
  have e2 := (e1.next hb).add hC
  clear hv hC hb e1
  have cc := G.out.1.1.2 w2 e2.laid
  go_wp2_with fail
  refine cc.mono ?_
  rintro e w3 ⟨A1, d1, rfl, hC, hb⟩
  clear cc
  have e3 := (e2.next hb).add hC
  clear hb hC e2
  have cc := G.out.1.2.1 w3
  go_wp2_with fail
  refine cc.mono ?_
  rintro e w4 ⟨v, rfl, hv, hb⟩
  clear cc
  obtain ⟨AK, dK, rfl, hC⟩ := gives_reads hv
  have e4 := (e3.next hb).add hC
  clear hv hC hb e3
  have e5 := e4.lits [(AX, X, cX)] (fun p hp => by
    simp at hp
    rcases hp with rfl
    simp) (by show 1 ≤ 100; omega)
  simp only [List.map_cons, List.map_nil] at e5
  have cc := G.out.1.2.2 _ _ e5.laid (e5.rows 0 rfl)
  go_wp2_with fail
  refine cc.mono ?_
  rintro e w5 ⟨A2, d2, rfl, hC, hb⟩
  clear cc
  have e6 := (e5.next hb).add hC
  clear hb hC e4 e5
  have e7 := e6.lits [(none, [], 0)] (fun p hp => by
    simp at hp
    rcases hp with rfl
    simp) (by show 1 ≤ 100; omega)
  simp only [List.map_cons, List.map_nil] at e7
  clear e6
  by_cases h1 : odd < 0 ∨ 1048576 < odd
  · have cc := fuse_err0 odd (some ⟨w5.heap.size, 0, none⟩) 1 1 (w5.alloc (.cells #[.slice none 0 0] 27)) h1
    have cd := fun (W : World) => chain_err0 odd (some ⟨W.heap.size, 0, none⟩) 1 1 (W.alloc (.cells #[.slice A xs.length ca] 27)) h1
    rcases h1 with h1 | h1
    all_goals (
    go_wp2_with fail
    refine cc.mono ?_
    rintro e w6 ⟨rfl, hb⟩
    clear cc
    have e8 := e7.next hb
    have e9 := e8.lits [(A, xs, ca)] (fun p hp => by
      simp at hp
      rcases hp with rfl
      simp) (by show 1 ≤ 100; omega)
    simp only [List.map_cons, List.map_nil] at e9
    clear hb e7 e8
    have cc := cd w6
    go_wp2_with fail
    refine cc.mono ?_
    rintro e w7 ⟨rfl, hb⟩
    clear cc
    have e10 := e9.next hb
    clear hb e9
    have cc := same_calls A1 AK d1 dK K w7 (e10.row 5 rfl) (e10.row 4 rfl)
    go_wp2_with fail
    refine cc.mono ?_
    rintro e w8 ⟨rfl, hb⟩
    clear cc
    have e11 := e10.next hb
    clear hb e10
    have cc := G.out.2.2 AX cX w8 (e11.row 6 rfl)
    go_wp2_with fail
    refine cc.mono ?_
    rintro e w9 ⟨v, rfl, hv, hb⟩
    clear cc
    obtain ⟨A3, d3, rfl, hC⟩ := gives_reads hv
    have e12 := (e11.next hb).add hC
    clear hv hC hb e11
    have cc := same_calls A2 A3 d2 d3 O w9 (e12.row 3 rfl) (e12.row 0 rfl)
    go_wp2_with fail
    refine cc.mono ?_
    rintro e w10 ⟨rfl, hb⟩
    clear cc
    have e13 := e12.next hb
    clear hb e12
    go_wp2_with fail
    go_ret
    exact ⟨rfl, e13.bel⟩
    )
  · by_cases h0 : odd = 0
    · subst h0
      have cd := fun (W : World) hW h => G.out.2.1.2.2 0 (by omega) (by omega) (some ⟨W.heap.size, 0, none⟩) (W.alloc (.cells #[.slice A xs.length ca] 27)) hW h
      have cc := G.out.2.1.2.1 _ _ e7.laid (e7.rows 0 rfl)
      clear h1
      go_wp2_with fail
      refine cc.mono ?_
      rintro e w6 ⟨A6, c6, rfl, hb⟩
      clear cc
      have e8 := e7.next hb
      have e9 := e8.lits [(A, xs, ca)] (fun p hp => by
        simp at hp
        rcases hp with rfl
        simp) (by show 1 ≤ 100; omega)
      simp only [List.map_cons, List.map_nil] at e9
      clear hb e7 e8
      have cc := cd w6 e9.laid (e9.rows 0 rfl)
      go_wp2_with fail
      refine cc.mono ?_
      rintro e w7 ⟨⟨za, zb, rfl⟩, hb⟩
      clear cc
      have e10 := e9.next hb
      clear hb e9
      have cc := same_calls A1 AK d1 dK K w7 (e10.row 5 rfl) (e10.row 4 rfl)
      go_wp2_with fail
      refine cc.mono ?_
      rintro e w8 ⟨rfl, hb⟩
      clear cc
      have e11 := e10.next hb
      clear hb e10
      have cc := G.out.2.2 AX cX w8 (e11.row 6 rfl)
      go_wp2_with fail
      refine cc.mono ?_
      rintro e w9 ⟨v, rfl, hv, hb⟩
      clear cc
      obtain ⟨A3, d3, rfl, hC⟩ := gives_reads hv
      have e12 := (e11.next hb).add hC
      clear hv hC hb e11
      have cc := same_calls A2 A3 d2 d3 O w9 (e12.row 3 rfl) (e12.row 0 rfl)
      go_wp2_with fail
      refine cc.mono ?_
      rintro e w10 ⟨rfl, hb⟩
      clear cc
      have e13 := e12.next hb
      clear hb e12
      go_wp2_with fail
      go_ret
      exact ⟨rfl, e13.bel⟩
    · obtain ⟨k, rfl⟩ : ∃ k : Nat, odd = k := ⟨odd.toNat, by omega⟩
      have hk1 : k ≤ 1048576 := by omega
      have hk2 : (k : Int) ≤ 1048576 := by omega
      have cd := fun (W : World) hW h => G.out.2.1.2.2 k (by omega) hk2 (some ⟨W.heap.size, 0, none⟩) (W.alloc (.cells #[.slice A xs.length ca] 27)) hW h
      have h0b : ((k : Int) == 0) = false := by simpa using h0
      have h0c : ((k : Int) != 0) = true := by simpa using h0
      have cc := G.out.2.1.1 k (by omega) hk1 _ _ e7.laid (e7.rows 0 rfl)
      have h00 : 0 < k := by omega
      clear h0 h1
      go_wp2_with fail
      refine cc.mono ?_
      rintro e w6 ⟨rfl, hb⟩
      clear cc
      have e8 := e7.next hb
      have e9 := e8.lits [(A, xs, ca)] (fun p hp => by
        simp at hp
        rcases hp with rfl
        simp) (by show 1 ≤ 100; omega)
      simp only [List.map_cons, List.map_nil] at e9
      clear hb e7 e8
      have cc := cd w6 e9.laid (e9.rows 0 rfl)
      go_wp2_with fail
      refine cc.mono ?_
      rintro e w7 ⟨⟨za, zb, rfl⟩, hb⟩
      clear cc
      have e10 := e9.next hb
      clear hb e9
      have cc := same_calls A1 AK d1 dK K w7 (e10.row 5 rfl) (e10.row 4 rfl)
      go_wp2_with fail
      refine cc.mono ?_
      rintro e w8 ⟨rfl, hb⟩
      clear cc
      have e11 := e10.next hb
      clear hb e10
      have cc := G.out.2.2 AX cX w8 (e11.row 6 rfl)
      go_wp2_with fail
      refine cc.mono ?_
      rintro e w9 ⟨v, rfl, hv, hb⟩
      clear cc
      obtain ⟨A3, d3, rfl, hC⟩ := gives_reads hv
      have e12 := (e11.next hb).add hC
      clear hv hC hb e11
      have cc := same_calls A2 A3 d2 d3 O w9 (e12.row 3 rfl) (e12.row 0 rfl)
      go_wp2_with fail
      refine cc.mono ?_
      rintro e w10 ⟨rfl, hb⟩
      clear cc
      have e13 := e12.next hb
      clear hb e12
      go_wp2_with fail
      go_ret
      exact ⟨rfl, e13.bel⟩

end Go.Proofs.YtmfpfipjhhfbhaaDoor
