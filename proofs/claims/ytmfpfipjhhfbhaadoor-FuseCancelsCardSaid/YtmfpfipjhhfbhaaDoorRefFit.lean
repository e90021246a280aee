/- epitomeref01.Fit. -/
import Derived.Test.YtmfpfipjhhfbhaaDoorRef01
namespace Go.Proofs.YtmfpfipjhhfbhaaDoor
open Go.RowKit Go.Proofs.YtmfpfipjhhfbhaaDoorW.PrintWords

/-- The eight code points. -/
def eight (j : Nat) : Nat := [97, 98, 99, 120, 121, 233, 8364, 128512].getD j 0
def fitC (t : ByteArray) : List Nat := t.data.toList.map fun b => eight (b.toNat % 8)
theorem eight_good (j : Nat) (h : j < 8) : goodC (eight j) := by
  unfold goodC
  match j, h with
  | 0, _ | 1, _ | 2, _ | 3, _ | 4, _ | 5, _ | 6, _ | 7, _ => simp [eight]
theorem fitC_good (t : ByteArray) : ∀ c ∈ fitC t, goodC c := by
  intro c hc
  obtain ⟨b, _, rfl⟩ := List.mem_map.1 hc
  exact eight_good _ (by omega)
theorem fitC_length (t : ByteArray) : (fitC t).length = t.size := by simp [fitC]
theorem eight_cells (w : World) (j : Nat) (h : j < 8) : (w.alloc (.cells #[.int .i32 97, .int .i32 98, .int .i32 99, .int .i32 120, .int .i32 121, .int .i32 233, .int .i32 8364, .int .i32 128512] 69)).cell? ⟨w.heap.size, j, none⟩ = some (.int .i32 (eight j : Nat)) := by
  match j, h with
  | 0, _ | 1, _ | 2, _ | 3, _ | 4, _ | 5, _ | 6, _ | 7, _ => simp [eight]

theorem C_of_ints {w : World} {A : Option Addr} {n : Nat} {k : IntKind} {xs : List Int} (h : ReadsInt w k A n xs) : Kd.C (Kd.int k) w A n xs := by
  refine ⟨h.1, h.2.1, fun hn => ?_⟩
  obtain ⟨ad, e, hc⟩ := h.2.2 hn
  refine ⟨ad, e, fun j p hj => ⟨[.int k p], rfl, rfl, fun i u hu => ?_⟩⟩
  obtain ⟨hl, hp⟩ := List.getElem?_eq_some_iff.1 hj
  have h2 := hc j (by have := h.1; omega)
  rw [List.getD_eq_getElem?_getD, hj] at h2
  cases i with
  | zero =>
    have : Value.int k p = u := by simpa using hu
    rw [← this]
    show w.cell? (ad.add (j * 1 + 0)) = _
    rw [Nat.mul_one, Nat.add_zero]; exact h2
  | succ i => simp at hu

set_option maxRecDepth 100000 in
set_option maxHeartbeats 2000000 in
theorem refFit_calls (t : ByteArray) (w : World) (hl : t.size ≤ 1048576) :
    Calls Tryd.prog 16 #[.string t] w fun e w' => e = .returned (.string (encB (fitC t))) ∧ Below w.heap.size w w' := by
  obtain ⟨W0, hW0⟩ : ∃ W0, W0 = w.alloc (.cells #[.int .i32 97, .int .i32 98, .int .i32 99, .int .i32 120, .int .i32 121, .int .i32 233, .int .i32 8364, .int .i32 128512] 69) := ⟨_, rfl⟩
  have hs0 : W0.heap.size = w.heap.size + 1 := by rw [hW0]; simp
  have hB0 : Below w.heap.size w W0 := by rw [hW0]; exact (Below.refl _ _).alloc (Nat.le_refl _) _
  have hcell : ∀ j, j < 8 → W0.cell? ⟨w.heap.size, j, none⟩ = some (.int .i32 (eight j : Nat)) := fun j h => by rw [hW0]; exact eight_cells w j h
  have HW0 := Lib.hid hW0
  have HS0 := Lib.hid hs0
  have HC := Lib.hid hcell
  clear hW0 hs0 hcell
  go_enter Tryd.func16, Tryd.ntmps16
  go_wp2
  rw [← HW0.out]
  go_loopw [4, 5] (fun v i wr => ∃ k : Nat, k ≤ t.size ∧ i = .int .i64 k ∧ (∃ n, n = k ∧ wr.ownsRow (w.heap.size + 1) 21 1 v n (nums .i32 (((fitC t).take k).map fun (c : Nat) => (c : Int)))) ∧ Below (w.heap.size + 1) W0 wr) (fun _ i _ => t.size - (intOf i).toNat)
  case atStart =>
    refine ⟨0, Nat.zero_le _, rfl, ⟨0, rfl, ?_⟩, (Below.refl _ _).alloc (by rw [HS0.out]; exact Nat.le_refl _) _⟩
    have := World.ownsRow_made (base := w.heap.size + 1) (e := 21) (size := 1) W0 #[] 0 (by rw [HS0.out]; exact Nat.le_refl _) (Nat.zero_le _) rfl
    rw [HS0.out] at this
    exact this
  case round =>
    obtain ⟨k, hk, rfl, ⟨n, hn, hO⟩, hB⟩ := hrel
    rename_i wr
    have hz := hB.size
    rw [HS0.out] at hz
    by_cases hlt : k < t.size
    · obtain ⟨Av, cv, rfl⟩ := own_slice hO
      have hc : wr.cell? ⟨w.heap.size, (t[k]'hlt).toNat % 8, none⟩ = some (.int .i32 (eight ((t[k]'hlt).toNat % 8) : Nat)) := by
        rw [hB.cell (p := ⟨w.heap.size, _, none⟩) (by show w.heap.size < w.heap.size + 1; omega)]
        exact HC.out _ (by omega)
      have hf : (fitC t)[k]? = some (eight ((t[k]'hlt).toNat % 8)) := by
        unfold fitC
        rw [List.getElem?_map]
        have : t.data.toList[k]? = some (t[k]'hlt) := by rw [Array.getElem?_toList]; exact Array.getElem?_eq_getElem hlt
        rw [this]; rfl
      have hsn : Hid (((fitC t).take (k + 1)).map (fun (c : Nat) => (c : Int)) = ((fitC t).take k).map (fun (c : Nat) => (c : Int)) ++ [((eight ((t[k]'hlt).toNat % 8) : Nat) : Int)]) := by show _ = _; rw [take_snoc' hf, List.map_append]; rfl
      have hxl : (((fitC t).take k).map (fun (c : Nat) => (c : Int))).length = k := by rw [List.length_map, List.length_take, fitC_length]; omega
      clear hf
      generalize ((fitC t).take k).map (fun (c : Nat) => (c : Int)) = xs at hO hsn hxl ⊢
      subst hn
      rw [← hxl] at hO
      have HXL := Lib.hid hxl
      have hx2 : xs.length + 1 ≤ 1048577 := by omega
      have hx3 : xs.length = n := hxl
      clear hxl
      have BW := hB
      go_wp2_with (at_builtin; go_loud (refine wp_nums (w0 := W0) (w.heap.size + 1) rfl (.tmp 14) (.tmp 21) 70 21 .i32 4 rfl Tryd.underlying70 (by kernel_rfl) (by omega) _ xs [((eight ((t[n]'hlt).toNat % 8) : Nat) : Int)] (by simp [Act.eval, hx3]) 1 rfl rfl (by omega) hO BW hz (by omega) ?_); intro A1 c1 w3 hO3 hB3)
      go_roundw
      case rel => exact ⟨n + 1, by omega, by go_num, ⟨n + 1, rfl, by rw [hsn.out]; simpa [hx3] using hO3⟩, hB3⟩
      case measure => simp [intOf]; omega
    · have hk2 : Hid (k = t.size) := (by omega : k = t.size)
      subst hn
      obtain ⟨Av, cv, rfl, hR⟩ := own_reads hO
      rw [hk2.out, ← fitC_length, List.take_length] at hR
      have hB2 : Below w.heap.size w wr := hB0.trans (hB.mono (by omega))
      have cc := refOf_calls Av cv (fitC t) wr (C_of_ints hR) (fitC_good t) (by rw [fitC_length]; exact hl)
      have hkl : (fitC t).length = n := by rw [fitC_length, hk2.out]
      rw [hkl] at cc
      clear hR hO
      go_wp2_with fail
      refine cc.mono ?_
      rintro e w4 ⟨rfl, hb4⟩
      go_wp2
      go_ret
      exact ⟨rfl, hB2.trans (hb4.mono hB2.size)⟩

end Go.Proofs.YtmfpfipjhhfbhaaDoor
