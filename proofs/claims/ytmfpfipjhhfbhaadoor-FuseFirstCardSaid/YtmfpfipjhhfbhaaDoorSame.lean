/- epitomeref04.Same of two equal rows; epitomelaw12.drops. -/
import Derived.Test.YtmfpfipjhhfbhaaDoorAtoms
import Derived.Test.YtmfpfipjhhfbhaaDoorWEqStruct
namespace Go.Proofs.YtmfpfipjhhfbhaaDoor
open Go.RowKit Go.Proofs.YtmfpfipjhhfbhaaDoorW.PrintWords

set_option maxHeartbeats 1000000 in
theorem same_calls (A B : Option Addr) (ca cb : Nat) (xs : List Sp) (w : World) (hx : Kd.C kSp w A xs.length xs) (hy : Kd.C kSp w B xs.length xs) :
    Calls Tryd.prog 20 #[.slice A xs.length ca, .slice B xs.length cb] w fun e w' => e = .returned (.bool true) ∧ Below w.heap.size w w' := by
  have hm := hx.2.1
  have HX := Aside0.mk hx
  have HY := Aside0.mk hy
  clear hx hy
  go_enter Tryd.func20, Tryd.ntmps20
  go_wp2
  go_loopw [5] (fun i w' => ∃ k : Nat, k ≤ xs.length ∧ i = .int .i64 k ∧ Below w.heap.size w w') (fun i _ => xs.length - (intOf i).toNat)
  case atStart => exact ⟨0, Nat.zero_le _, rfl, Below.refl _ _⟩
  case round =>
    obtain ⟨k, hk, rfl, hB⟩ := hrel
    rename_i wr
    by_cases hlt : k < xs.length
    · obtain ⟨s, hs⟩ : ∃ s, xs[k]? = some s := ⟨_, List.getElem?_eq_getElem hlt⟩
      obtain ⟨ad, rfl, h0, h1, h2⟩ := at_Sp (Kd.C_below HX.out hB) hs
      obtain ⟨bd, rfl, g0, g1, g2⟩ := at_Sp (Kd.C_below HY.out hB) hs
      clear hs
      obtain ⟨sk, sn, st⟩ := s
      go_wp2
      go_quiet (fail)
      go_wp2
      go_roundw
      case rel => exact ⟨k + 1, by omega, by go_num, pw_below_drewN hB _⟩
      case measure => simp [intOf]; omega
    · go_wp2
      go_ret
      exact ⟨rfl, hB⟩

/-- What a span drops. -/
def spDrop (s : Sp) : Int := if s.k = 3 then s.n else 0
set_option maxHeartbeats 1000000 in
theorem drops_calls (A : Option Addr) (c : Nat) (xs : List Sp) (w : World) (hr : Kd.C kSp w A xs.length xs) :
    Calls Tryd.prog 29 #[.slice A xs.length c] w fun e w' => e = .returned (.int .i64 (sumW spDrop xs)) ∧ Below w.heap.size w w' := by
  have hm := hr.2.1
  have HR := Aside0.mk hr
  clear hr
  go_enter Tryd.func29, Tryd.ntmps29
  go_wp2
  go_loopw [3, 4] (fun n i w' => ∃ k : Nat, k ≤ xs.length ∧ i = .int .i64 k ∧ n = .int .i64 (sumW spDrop (xs.take k)) ∧ Below w.heap.size w w') (fun _ i _ => xs.length - (intOf i).toNat)
  case atStart => exact ⟨0, Nat.zero_le _, rfl, rfl, Below.refl _ _⟩
  case round =>
    obtain ⟨k, hk, rfl, rfl, hB⟩ := hrel
    rename_i wr
    by_cases hlt : k < xs.length
    · obtain ⟨s, hs⟩ : ∃ s, xs[k]? = some s := ⟨_, List.getElem?_eq_getElem hlt⟩
      obtain ⟨ad, rfl, h0, h1, h2⟩ := at_Sp (Kd.C_below HR.out hB) hs
      have hsn : Hid (sumW spDrop (xs.take (k + 1)) = wrap64 (sumW spDrop (xs.take k) + spDrop s)) := by rw [take_snoc' hs]; exact sumW_snoc _ _ _
      have hwr : Hid (sumW spDrop (xs.take k) = wrap64 (sumW spDrop (xs.take k))) := by
        show _ = _
        cases k with
        | zero => simp [sumW, wrap64]
        | succ k =>
          obtain ⟨s', hs'⟩ : ∃ s, xs[k]? = some s := ⟨_, List.getElem?_eq_getElem (by omega)⟩
          rw [take_snoc' hs', sumW_snoc]
          simp [wrap64]
      clear hs
      obtain ⟨sk, sn, st⟩ := s
      by_cases h3 : sk = 3
      · subst h3
        have he : Hid (spDrop ⟨3, sn, st⟩ = sn) := rfl
        generalize sumW spDrop (xs.take k) = acc at hsn hwr ⊢
        go_wp2
        go_roundw
        case rel => exact ⟨k + 1, by omega, by go_num, by rw [hsn.out, he.out], hB⟩
        case measure => simp [intOf]; omega
      · have he : Hid (spDrop ⟨sk, sn, st⟩ = 0) := if_neg h3
        have hb3 : (sk == 3) = false := by simpa using h3
        clear h3
        generalize sumW spDrop (xs.take k) = acc at hsn hwr ⊢
        go_wp2
        go_roundw
        case rel => exact ⟨k + 1, by omega, by go_num, by rw [hsn.out, he.out, Int.add_zero, ← hwr.out], hB⟩
        case measure => simp [intOf]; omega
    · have hk2 : Hid (k = xs.length) := (by omega : k = xs.length)
      go_wp2
      go_ret
      exact ⟨ret_int (by rw [hk2.out, List.take_length]), hB⟩

end Go.Proofs.YtmfpfipjhhfbhaaDoor
