/- fuse.Chain of a chain; and of operations that are none. -/
import Derived.Test.YtmfpfipjhhfbhaaDoorFuse
namespace Go.Proofs.YtmfpfipjhhfbhaaDoor
open Go.RowKit Go.Proofs.YtmfpfipjhhfbhaaDoorW.PrintWords

theorem Rw.may {X : List Sp} {l : List At} {b : Nat} (h : Rw X l b) (hb : b ≤ 262144) : opMay X = 0 := (opMay_zero (by have := h.len; omega)).2 ⟨h.valid, by rw [h.ato]; have := in_le l; have := h.few; omega⟩
set_option maxHeartbeats 1000000 in
theorem next_ok (n : Nat) (A : Option Addr) (ca : Nat) (X : List Sp) (l : List At) (b : Nat) (w : World) (hL : Laid w) (h : Rw X l b) (hb : b ≤ 262144) (hn : inA l = n) (hA : Kd.C kSp w A X.length X) :
    Calls Tryd.prog 76 #[.int .i64 n, .slice A X.length ca] w fun e w' => e = .returned (.tuple #[.int .i64 (outA l), .int .i64 0]) ∧ Below w.heap.size w w' := by
  have e0 := (Env.start hL).add hA
  have hT := h.texts hb
  have c1 := opMay_calls A ca X w hL hT hA
  rw [h.may hb] at c1
  have c2 := fun W hW C => opIn_calls A ca X W hW hT C
  rw [h.ins hb, hn] at c2
  have c3 := fun W hW C => opOut_calls A ca X W hW hT C
  rw [h.outs hb] at c3
  have G := Lib.hid (And.intro c2 c3)
  clear c2 c3 hA hn h hT
  go_enter Tryd.func76, Tryd.ntmps76
  have cc := c1
  go_wp2_with fail
  refine cc.mono ?_
  rintro e w1 ⟨rfl, hb⟩
  clear cc
  have e1 := e0.next hb
  clear hb e0
  have cc := G.out.1 w1 e1.laid (e1.row 0 rfl)
  go_wp2_with fail
  refine cc.mono ?_
  rintro e w2 ⟨rfl, hb⟩
  clear cc
  have e2 := e1.next hb
  clear hb e1
  have cc := G.out.2 w2 e2.laid (e2.row 0 rfl)
  go_wp2_with fail
  refine cc.mono ?_
  rintro e w3 ⟨rfl, hb⟩
  clear cc
  have e3 := e2.next hb
  clear hb e2
  go_wp2_with fail
  exact bodyPost_ret (v := .tuple #[.int .i64 (outA l), .int .i64 0]) (by simp [results, Tryd.results76, go_sem]) rfl ⟨rfl, e3.bel⟩

structure FoldIInv (w wr : World) (B : Option Addr) (n : Nat) (L : List (List Sp)) (v i : Value) : Prop where
  out : ∃ k : Nat, k ≤ L.length ∧ i = .int .i64 k ∧ v = .int .i64 (endN n (L.take k)) ∧ Env w wr [.rows B L]
set_option maxRecDepth 100000 in
set_option maxHeartbeats 2000000 in
theorem foldI_ok (n : Nat) (B : Option Addr) (cb : Nat) (L : List (List Sp)) (b : Nat) (w : World) (hL : Laid w) (hR : Kd.C kRow w B L.length L) (hc : Chn n L) (hB : Bnd L b) (hb : b ≤ 262144) :
    Calls Tryd.prog 75 #[.int .i64 n, .slice B L.length cb, .func (.func 76) #[] #[]] w fun e w' => e = .returned (.tuple #[.int .i64 (endN n L), .int .i64 0]) ∧ Below w.heap.size w w' := by
  have e0 := (Env.start hL).adds hR
  have hl := hR.2.1
  have HC := Lib.hid (And.intro hc hB)
  have hn0 : endN n (L.take 0) = n := rfl
  have HN := Lib.hid hn0
  clear hR hc hB hn0
  go_enter Tryd.func75, Tryd.ntmps75
  go_wp2_with fail
  go_loopw [0, 15] (fun v i wr => FoldIInv w wr B n L v i) (fun _ i _ => L.length - (intOf i).toNat)
  case atStart => exact ⟨0, Nat.zero_le _, rfl, by rw [HN.out], e0⟩
  case round =>
    rename_i wr
    obtain ⟨k, hk, rfl, rfl, e1⟩ := hrel.out
    clear hrel e0
    by_cases hlt : k < L.length
    · obtain ⟨X, hX⟩ : ∃ X, L[k]? = some X := ⟨_, List.getElem?_eq_getElem hlt⟩
      obtain ⟨ad, C, cx, rfl, hcell, hCx⟩ := at_row (e1.rows 0 rfl) hX
      have hsn := snoc_of hX
      have hch := HC.out.1
      rw [← List.take_append_drop k L, List.drop_eq_getElem_cons hlt, chn_append] at hch
      have hXe : L[k] = X := by rw [List.getElem?_eq_getElem hlt] at hX; exact Option.some.inj hX
      rw [hXe] at hch
      have rX := HC.out.2.row X (List.mem_of_getElem? hX)
      have cc := next_ok (endN n (L.take k)) C cx X (atoms X) b wr e1.laid rX hb hch.2.1 hCx
      have hnx : endN n (L.take (k + 1)) = outA (atoms X) := by rw [hsn, endN_snoc]
      rw [← hnx] at cc
      clear hnx rX hX hCx hsn hch hXe
      generalize endN n (L.take k) = nk at *
      go_wp2_with fail
      refine cc.mono ?_
      rintro e w4 ⟨rfl, hb⟩
      clear cc
      have e2 := e1.next hb
      clear hb e1
      go_wp2_with fail
      go_roundw
      case rel => exact ⟨k + 1, by omega, by go_num, rfl, e2⟩
      case measure => simp [intOf]; omega
    · have hkl : k = L.length := by omega
      have hfx : endN n (L.take k) = endN n L := by rw [hkl, List.take_length]
      rw [hfx]
      clear hfx hkl
      go_wp2_with fail
      exact bodyPost_ret (v := .tuple #[.int .i64 (endN n L), .int .i64 0]) (by simp [results, Tryd.results75, go_sem]) rfl ⟨rfl, e1.bel⟩
set_option maxRecDepth 100000 in
set_option maxHeartbeats 1000000 in
theorem chain_ok (n : Nat) (B : Option Addr) (cb : Nat) (L : List (List Sp)) (b : Nat) (w : World) (hL : Laid w) (hn : n ≤ 10000) (hR : Kd.C kRow w B L.length L) (hc : Chn n L) (hB : Bnd L b) (hb : b ≤ 262144) :
    Calls Tryd.prog 40 #[.int .i64 n, .slice B L.length cb] w fun e w' => e = .returned (.tuple #[.int .i64 (endN n L), .int .i64 0]) ∧ Below w.heap.size w w' := by
  have e0 := (Env.start hL).adds hR
  have ck := opKeep_ok n w (by omega)
  have HC := Lib.hid (And.intro hc hB)
  clear hR hc hB
  go_enter Tryd.func40, Tryd.ntmps40
  go_wp2_with fail
  refine ck.mono ?_
  rintro e w1 ⟨v, rfl, hv, hb1⟩
  have e1 := e0.next hb1
  have cf := foldI_ok n B cb L b w1 e1.laid (e1.rows 0 rfl) HC.out.1 HC.out.2 hb
  clear ck hv hb1 e0
  go_wp2_with fail
  refine cf.mono ?_
  rintro e w2 ⟨rfl, hb2⟩
  clear cf
  have e2 := e1.next hb2
  go_wp2_with fail
  exact bodyPost_ret (v := .tuple #[.int .i64 (endN n L), .int .i64 0]) (by simp [results, Tryd.results40, go_sem]) rfl ⟨rfl, e2.bel⟩

end Go.Proofs.YtmfpfipjhhfbhaaDoor
