/- The walk of FuseCancels. -/
import Derived.Test.YtmfpfipjhhfbhaaDoorShown10
import Derived.Test.YtmfpfipjhhfbhaaDoorLit3
namespace Go.Proofs.YtmfpfipjhhfbhaaDoor
open Go.RowKit Go.Proofs.YtmfpfipjhhfbhaaDoorW.PrintWords

theorem comp_keep1 : ∀ b : List At, compA (List.replicate (inA b) .keep) b = b
  | [] => comp_nn
  | .put c :: b => by rw [comp_bput, show inA (.put c :: b) = inA b from rfl, comp_keep1 b]
  | .keep :: b => by rw [show inA (.keep :: b) = inA b + 1 from rfl, List.replicate_succ, comp_xk .keep trivial, comp_keep1 b]
  | .drop :: b => by rw [show inA (.drop :: b) = inA b + 1 from rfl, List.replicate_succ, comp_kd, comp_keep1 b]
theorem comp_keep2 : ∀ a : List At, compA a (List.replicate (outA a) .keep) = a
  | [] => comp_nn
  | .put c :: a => by rw [show outA (.put c :: a) = outA a + 1 from rfl, List.replicate_succ, comp_xk (.put c) trivial, comp_keep2 a]
  | .keep :: a => by rw [show outA (.keep :: a) = outA a + 1 from rfl, List.replicate_succ, comp_xk .keep trivial, comp_keep2 a]
  | .drop :: a => by rw [comp_adrop _ _ (np_keeps _), show outA (.drop :: a) = outA a from rfl, comp_keep2 a]
theorem out_seq (a d : Nat) (cs : List Nat) : outA (seq3 a cs d) = a + cs.length + d := by
  unfold seq3
  rw [outA_append, outA_append, outA_keeps, outA_keeps, outA_puts]
/-- Some are kept, some dropped, some kept. -/
def litD (a b d : Int) : List Sp := [⟨1, a, ⟨#[]⟩⟩, ⟨3, b, ⟨#[]⟩⟩, ⟨1, d, ⟨#[]⟩⟩]
def seqD (a b d : Nat) : List At := List.replicate a .keep ++ List.replicate b .drop ++ List.replicate d .keep
theorem litD_cells (a b d : Int) : (#[.int .i64 1, .int .i64 a, .string ⟨#[]⟩, .int .i64 3, .int .i64 b, .string ⟨#[]⟩, .int .i64 1, .int .i64 d, .string ⟨#[]⟩] : Array Value) = (spCells (litD a b d)).toArray := rfl
theorem rw_litD (a b d : Nat) (c : Nat) (hb : a + b + d + 3 ≤ c) (hb2 : c ≤ 262144) : Rw (litD a b d) (seqD a b d) c := by
  have h := rw_keep a (by omega) (rw_drop b (by omega) (rw_keep d (by omega) (rw_nil 0)))
  simp only [List.append_nil, Nat.zero_add] at h
  rw [← List.append_assoc] at h
  exact h.up (by omega)
theorem in_seqD (a b d : Nat) : inA (seqD a b d) = a + b + d := by
  unfold seqD
  rw [inA_append, inA_append, inA_keeps, inA_keeps, inA_drops]
theorem out_seqD (a b d : Nat) : outA (seqD a b d) = a + d := by
  unfold seqD
  rw [outA_append, outA_append, outA_keeps, outA_keeps, outA_drops]; omega
theorem comp_cancel (k d : Nat) (cu : List Nat) : compA (seq3 k cu d) (seqD k cu.length d) = List.replicate (k + d) .keep := by
  unfold seq3 seqD
  rw [List.append_assoc, List.append_assoc]
  have h1 := comp_keeps (List.replicate k .keep) (cu.map .put ++ List.replicate d .keep) (List.replicate cu.length .drop ++ List.replicate d .keep) (fun x hx => by rw [List.eq_of_mem_replicate hx]; trivial)
  rw [List.length_replicate] at h1
  have h2 := comp_keeps (List.replicate d .keep) [] [] (fun x hx => by rw [List.eq_of_mem_replicate hx]; trivial)
  rw [List.length_replicate, List.append_nil, comp_nn, List.append_nil] at h2
  rw [h1, comp_pds, h2, List.replicate_append_replicate]

set_option maxRecDepth 100000 in
set_option maxHeartbeats 4000000 in
theorem lawFuseCancels_calls (s : ByteArray) (y x : Int) (w : World) (hL : Laid w) (hs : s.size ≤ 9223372036854775807) (hy0 : 0 ≤ y) (_hy1 : y ≤ 255) (hx0 : 0 ≤ x) (_hx1 : x ≤ 255) :
    Calls Tryd.prog 11 #[.string s, .int .u8 y, .int .u8 x] w fun e w' => e = .returned (.bool true) ∧ Below w.heap.size w w' := by
  obtain ⟨m, hm⟩ : ∃ m : Nat, (m : Int) = x % 64 := ⟨(x % 64).toNat, by omega⟩
  have hm1 : m ≤ 63 := by omega
  have hmt : x.tmod 64 = m := by rw [Int.tmod_eq_emod_of_nonneg hx0]; exact hm.symm
  obtain ⟨k, hk⟩ : ∃ k : Nat, (k : Int) = y % ((m : Int) + 1) := ⟨(y % ((m : Int) + 1)).toNat, by have := Int.emod_nonneg y (show (m : Int) + 1 ≠ 0 by omega); omega⟩
  have hk1 : k ≤ m := by have := Int.emod_lt_of_pos y (show 0 < (m : Int) + 1 by omega); omega
  have hkt : y.tmod ((m : Int) + 1) = k := by rw [Int.tmod_eq_emod_of_nonneg hy0]; exact hk.symm
  obtain ⟨d, hd⟩ : ∃ d : Nat, d = m - k := ⟨_, rfl⟩
  have hdi : (m : Int) - k = d := by omega
  obtain ⟨p, hp⟩ : ∃ p, p = min s.size 20 := ⟨_, rfl⟩
  obtain ⟨cu, hcu, hlu, hgu⟩ := cutText s 20
  rw [← hp] at hcu
  have e1 := Env.start hL
  have c1 := shown10_calls w hL
  have c2 := fun W => refFit_calls (s.extract 0 p) W (by rw [ByteArray.size_extract]; omega)
  rw [hcu] at c2
  have hpi : min (s.size : Int) 20 = p := by omega
  have hpl : p ≤ s.size := by omega
  have rP := rw_lit3 k d cu 200 (by omega) (by omega) hgu (by simp; omega) (by omega)
  simp only [Int.toNat_natCast] at rP
  have rD := rw_litD k cu.length d 200 (by omega) (by omega)
  have rK := keep_rw m 200 (by omega) (by omega)
  have hmk : m = k + d := by omega
  have hch : Chn m [keepS m, lit3 k (encB cu) d, litD k cu.length d, keepS m] := by
    refine ⟨?_, ?_, ?_, ?_, trivial⟩
    · rw [rK.ato, inA_keeps]
    · rw [rK.ato, rP.ato, outA_keeps, in_seq]; omega
    · rw [rP.ato, rD.ato, out_seq, in_seqD]
    · rw [rD.ato, rK.ato, out_seqD, inA_keeps]; omega
  have hcp : Chn m [lit3 k (encB cu) d] := ⟨by rw [rP.ato, in_seq]; omega, trivial⟩
  have bK : Rw (keepS m) (atoms (keepS m)) 200 := by rw [rK.ato]; exact rK
  have bP : Rw (lit3 k (encB cu) d) (atoms (lit3 k (encB cu) d)) 200 := by rw [rP.ato]; exact rP
  have bD : Rw (litD k cu.length d) (atoms (litD k cu.length d)) 200 := by rw [rD.ato]; exact rD
  have hB : Bnd [keepS m, lit3 k (encB cu) d, litD k cu.length d, keepS m] 200 := ⟨fun X hX => by
    simp at hX
    rcases hX with rfl | rfl | rfl | rfl
    · exact bK
    · exact bP
    · exact bD
    · exact bK⟩
  have hBp : Bnd [lit3 k (encB cu) d] 200 := ⟨fun X hX => by rw [List.mem_singleton.1 hX]; exact bP⟩
  have k1 : ∀ b, inA b = m → compA (List.replicate m .keep) b = b := fun b hb => by rw [← hb]; exact comp_keep1 b
  have f1 : fuseA m [lit3 k (encB cu) d] = seq3 k cu d := by
    show compA (List.replicate m .keep) (atoms _) = _
    rw [rP.ato]; exact k1 _ (by rw [in_seq]; omega)
  have f2 : fuseA m [keepS m, lit3 k (encB cu) d, litD k cu.length d, keepS m] = List.replicate m .keep := by
    show compA (compA (compA (compA (List.replicate m .keep) (atoms _)) (atoms _)) (atoms _)) (atoms _) = _
    rw [rP.ato, rD.ato, rK.ato, k1 _ (inA_keeps m), k1 _ (by rw [in_seq]; omega), comp_cancel, ← hmk, k1 _ (inA_keeps m)]
  have cK := fun W => opKeep_ok m W (by omega)
  have cu' := fun W hW => count_calls (encB cu) W hW (by rw [encB_size]; have := (encL_length cu).2; omega)
  rw [count_enc _ hgu] at cu'
  have cA := fun A W hW h => fuse_ok m A 4 _ 200 W hW (by omega) h hch hB (by show m + 1 + 4 * 200 ≤ _; omega)
  have cB := fun A W hW h => fuse_ok m A 1 _ 200 W hW (by omega) h hcp hBp (by show m + 1 + 1 * 200 ≤ _; omega)
  have cN := fun A W h => norm_rw rP (by omega) A 3 W h
  rw [f2, ofA_keeps m (by omega)] at cA
  rw [f1] at cB
  generalize ofA (seq3 k cu d) = O at *
  clear rP rD rK bK bP bD hB hBp hch hcp k1 f1 f2
  generalize encB cu = u at *
  generalize cu.length = nu at *
  generalize keepS m = K at *
  have G := Lib.hid (And.intro (And.intro c2 cK) (And.intro (And.intro cA cB) (And.intro cN cu')))
  have HM := And.intro hp (And.intro hm (And.intro hk hd))
  clear c2 cK cA cB cN cu' hcu hgu hp hm hk hd HM hmk
  go_enter Tryd.func11, Tryd.ntmps11
  have cc := c1
  go_wp2_with fail
  refine cc.mono ?_
  rintro e w1 ⟨rfl, hb⟩
  clear cc
  have e2 := e1.next hb
  clear hb e1
  have cc := G.out.1.1 w1
  go_wp2_with fail
  refine cc.mono ?_
  rintro e w2 ⟨rfl, hb⟩
  clear cc
  have e3 := e2.next hb
  clear hb e2
  have cc := G.out.1.2 w2
  go_wp2_with fail
  refine cc.mono ?_
  rintro e w3 ⟨v, rfl, hv, hb⟩
  clear cc
  obtain ⟨AK, dK, rfl, hC⟩ := gives_reads hv
  have e4 := (e3.next hb).add hC
  clear hv hC hb e3
  have e5 := e4.lit (lit3 k u d) (by show 3 ≤ 100; omega)
  have cc := G.out.2.2.2 _ e5.laid
  go_wp2_with fail
  rw [lit3_cells]
  refine cc.mono ?_
  rintro e w4 ⟨rfl, hb⟩
  clear cc
  have e6 := e5.next hb
  have e7 := e6.lit (litD k nu d) (by show 3 ≤ 100; omega)
  clear hb e4 e5 e6
  have e8 := e7.lits [(AK, K, dK), (some ⟨w3.heap.size, 0, none⟩, lit3 k u d, 3), (some ⟨w4.heap.size, 0, none⟩, litD k nu d, 3), (AK, K, dK)] (fun p hp => by
    simp at hp
    rcases hp with rfl | rfl | rfl | rfl <;> simp) (by show 4 ≤ 100; omega)
  simp only [List.map_cons, List.map_nil] at e8
  rw [show (w4.alloc (.cells (spCells (litD k nu d)).toArray 26)).heap.size = w4.heap.size + 1 by simp] at e8
  have cc := G.out.2.1.1 _ _ e8.laid (e8.rows 0 rfl)
  go_wp2_with fail
  rw [litD_cells]
  refine cc.mono ?_
  rintro e w5 ⟨A1, d1, rfl, hC, hb⟩
  clear cc
  have e9 := (e8.next hb).add hC
  clear hb hC e7 e8
  have e10 := e9.lits [(some ⟨w3.heap.size, 0, none⟩, lit3 k u d, 3)] (fun p hp => by
    simp at hp
    rcases hp with rfl
    simp) (by show 1 ≤ 100; omega)
  simp only [List.map_cons, List.map_nil] at e10
  have cc := G.out.2.1.2 _ _ e10.laid (e10.rows 0 rfl)
  go_wp2_with fail
  refine cc.mono ?_
  rintro e w6 ⟨A2, d2, rfl, hC, hb⟩
  clear cc
  have e11 := (e10.next hb).add hC
  clear hb hC e9 e10
  have cc := same_calls A1 AK d1 dK K w6 (e11.row 2 rfl) (e11.row 6 rfl)
  go_wp2_with fail
  refine cc.mono ?_
  rintro e w7 ⟨rfl, hb⟩
  clear cc
  have e12 := e11.next hb
  clear hb e11
  have cc := G.out.2.2.1 _ w7 (e12.row 5 rfl)
  go_wp2_with fail
  refine cc.mono ?_
  rintro e w8 ⟨v, rfl, hv, hb⟩
  clear cc
  obtain ⟨A3, d3, rfl, hC⟩ := gives_reads hv
  have e13 := (e12.next hb).add hC
  clear hv hC hb e12
  have cc := same_calls A2 A3 d2 d3 O w8 (e13.row 1 rfl) (e13.row 0 rfl)
  go_wp2_with fail
  refine cc.mono ?_
  rintro e w9 ⟨rfl, hb⟩
  clear cc
  have e14 := e13.next hb
  clear hb e13
  go_wp2_with fail
  go_ret
  exact ⟨rfl, e14.bel⟩

end Go.Proofs.YtmfpfipjhhfbhaaDoor
