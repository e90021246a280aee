/- The contracts of package op's functions. -/
import Derived.Test.YtmfpfipjhhfbhaaDoorSpan
namespace Go.Proofs.YtmfpfipjhhfbhaaDoor
open Go.RowKit Go.Proofs.YtmfpfipjhhfbhaaDoorW.PrintWords

/-- The sum of a measure over spans, as int adds. -/
def sumW (m : Sp → Int) (xs : List Sp) : Int := xs.foldl (fun a s => wrap64 (a + m s)) 0
theorem sumW_snoc (m : Sp → Int) (xs : List Sp) (s : Sp) : sumW m (xs ++ [s]) = wrap64 (sumW m xs + m s) := by simp [sumW, List.foldl_append]
theorem take_snoc' {α : Type} {xs : List α} {j : Nat} {s : α} (h : xs[j]? = some s) : xs.take (j + 1) = xs.take j ++ [s] := by
  obtain ⟨hl, rfl⟩ := List.getElem?_eq_some_iff.1 h
  rw [List.take_succ_eq_append_getElem hl]

/-- The texts are such as memory can hold. -/
def TextsOk (xs : List Sp) : Prop := ∀ s ∈ xs, s.t.size ≤ 9223372036854775807
theorem TextsOk.at_ {xs : List Sp} (h : TextsOk xs) {j : Nat} {s : Sp} (hj : xs[j]? = some s) : s.t.size ≤ 9223372036854775807 := by
  have := h s (List.mem_of_getElem? hj); omega

theorem spanIn_callsT (s : Sp) (w : World) (hL : Laid w) (_ : s.t.size ≤ 9223372036854775807) :
    Calls Tryd.prog 65 #[.agg #[.int .i64 s.k, .int .i64 s.n, .string s.t]] w fun e w' => e = .returned (.int .i64 (spIn s)) ∧ Below w.heap.size w w' := spanIn_calls s w hL
theorem spanOut_callsT (s : Sp) (w : World) (hL : Laid w) (h : s.t.size ≤ 9223372036854775807) :
    Calls Tryd.prog 51 #[.agg #[.int .i64 s.k, .int .i64 s.n, .string s.t]] w fun e w' => e = .returned (.int .i64 (spOut s)) ∧ Below w.heap.size w w' := spanOut_calls s w hL h

set_option maxHeartbeats 1000000 in
theorem sumIn_calls (A : Option Addr) (c : Nat) (xs : List Sp) (w : World) (hL : Laid w) (hT : TextsOk xs) (hr : Kd.C kSp w A xs.length xs) :
    Calls Tryd.prog 64 #[.slice A xs.length c, .func (.func 65) #[] #[]] w fun e w' => e = .returned (.int .i64 (sumW spIn xs)) ∧ Below w.heap.size w w' := by
  have hm := hr.2.1
  have HR := Aside0.mk hr
  clear hr
  go_enter Tryd.func64, Tryd.ntmps64
  go_wp2
  go_loopw [5, 10] (fun n i w' => ∃ k : Nat, k ≤ xs.length ∧ i = .int .i64 k ∧ n = .int .i64 (sumW spIn (xs.take k)) ∧ Below w.heap.size w w') (fun _ i _ => xs.length - (intOf i).toNat)
  case atStart => exact ⟨0, Nat.zero_le _, rfl, rfl, Below.refl _ _⟩
  case round =>
    obtain ⟨k, hk, rfl, rfl, hB⟩ := hrel
    rename_i wr
    have hz := hB.size
    by_cases hlt : k < xs.length
    · obtain ⟨s, hs⟩ : ∃ s, xs[k]? = some s := ⟨_, List.getElem?_eq_getElem hlt⟩
      obtain ⟨ad, rfl, h0, h1, h2⟩ := at_Sp (Kd.C_below HR.out hB) hs
      have hsn : Hid (sumW spIn (xs.take (k + 1)) = wrap64 (sumW spIn (xs.take k) + spIn s)) := by rw [take_snoc' hs]; exact sumW_snoc _ _ _
      have ht := hT.at_ hs
      clear hs
      obtain ⟨sk, sn, st⟩ := s
      generalize sumW spIn (xs.take k) = acc at hsn ⊢
      have B1 : Below w.heap.size w (wr.alloc (.cells #[.int .i64 sk, .int .i64 sn, .string st] 26)) := hB.alloc hB.size _
      go_wp2_with (go_at_call 65; refine (spanIn_callsT ⟨sk, sn, st⟩ _ (hL.below B1) ht).mono ?_; rintro e w2 ⟨rfl, hb2⟩)
      go_roundw
      case rel => exact ⟨k + 1, by omega, by go_num, by rw [hsn.out], B1.trans (hb2.mono (by simp; omega))⟩
      case measure => simp [intOf]; omega
    · have hk2 : Hid (k = xs.length) := (by omega : k = xs.length)
      go_wp2
      go_ret
      exact ⟨ret_int (by rw [hk2.out, List.take_length]), hB⟩

theorem opIn_calls (A : Option Addr) (c : Nat) (xs : List Sp) (w : World) (hL : Laid w) (hT : TextsOk xs) (hr : Kd.C kSp w A xs.length xs) :
    Calls Tryd.prog 27 #[.slice A xs.length c] w fun e w' => e = .returned (.int .i64 (sumW spIn xs)) ∧ Below w.heap.size w w' := by
  have cs := sumIn_calls A c xs w hL hT hr
  generalize sumW spIn xs = acc at cs ⊢
  clear hr
  go_enter Tryd.func27, Tryd.ntmps27
  go_wp2_with (go_at_call 64; refine cs.mono ?_; rintro e w2 ⟨rfl, hb2⟩)
  go_ret
  exact ⟨rfl, hb2⟩
set_option maxHeartbeats 1000000 in
theorem sumOut_calls (A : Option Addr) (c : Nat) (xs : List Sp) (w : World) (hL : Laid w) (hT : TextsOk xs) (hr : Kd.C kSp w A xs.length xs) :
    Calls Tryd.prog 64 #[.slice A xs.length c, .func (.func 51) #[] #[]] w fun e w' => e = .returned (.int .i64 (sumW spOut xs)) ∧ Below w.heap.size w w' := by
  have hm := hr.2.1
  have HR := Aside0.mk hr
  clear hr
  go_enter Tryd.func64, Tryd.ntmps64
  go_wp2
  go_loopw [5, 10] (fun n i w' => ∃ k : Nat, k ≤ xs.length ∧ i = .int .i64 k ∧ n = .int .i64 (sumW spOut (xs.take k)) ∧ Below w.heap.size w w') (fun _ i _ => xs.length - (intOf i).toNat)
  case atStart => exact ⟨0, Nat.zero_le _, rfl, rfl, Below.refl _ _⟩
  case round =>
    obtain ⟨k, hk, rfl, rfl, hB⟩ := hrel
    rename_i wr
    have hz := hB.size
    by_cases hlt : k < xs.length
    · obtain ⟨s, hs⟩ : ∃ s, xs[k]? = some s := ⟨_, List.getElem?_eq_getElem hlt⟩
      obtain ⟨ad, rfl, h0, h1, h2⟩ := at_Sp (Kd.C_below HR.out hB) hs
      have hsn : Hid (sumW spOut (xs.take (k + 1)) = wrap64 (sumW spOut (xs.take k) + spOut s)) := by rw [take_snoc' hs]; exact sumW_snoc _ _ _
      have ht := hT.at_ hs
      clear hs
      obtain ⟨sk, sn, st⟩ := s
      generalize sumW spOut (xs.take k) = acc at hsn ⊢
      have B1 : Below w.heap.size w (wr.alloc (.cells #[.int .i64 sk, .int .i64 sn, .string st] 26)) := hB.alloc hB.size _
      go_wp2_with (go_at_call 51; refine (spanOut_callsT ⟨sk, sn, st⟩ _ (hL.below B1) ht).mono ?_; rintro e w2 ⟨rfl, hb2⟩)
      go_roundw
      case rel => exact ⟨k + 1, by omega, by go_num, by rw [hsn.out], B1.trans (hb2.mono (by simp; omega))⟩
      case measure => simp [intOf]; omega
    · have hk2 : Hid (k = xs.length) := (by omega : k = xs.length)
      go_wp2
      go_ret
      exact ⟨ret_int (by rw [hk2.out, List.take_length]), hB⟩

theorem opOut_calls (A : Option Addr) (c : Nat) (xs : List Sp) (w : World) (hL : Laid w) (hT : TextsOk xs) (hr : Kd.C kSp w A xs.length xs) :
    Calls Tryd.prog 28 #[.slice A xs.length c] w fun e w' => e = .returned (.int .i64 (sumW spOut xs)) ∧ Below w.heap.size w w' := by
  have cs := sumOut_calls A c xs w hL hT hr
  generalize sumW spOut xs = acc at cs ⊢
  clear hr
  go_enter Tryd.func28, Tryd.ntmps28
  go_wp2_with (go_at_call 64; refine cs.mono ?_; rintro e w2 ⟨rfl, hb2⟩)
  go_ret
  exact ⟨rfl, hb2⟩

/-- op.May. -/
def opMayF : List Sp → Int
  | [] => 0
  | s :: xs => if spMay s = 0 then opMayF xs else spMay s
def opMay (xs : List Sp) : Int := if opMayF xs = 0 then (if 1048576 < sumW spIn xs then 4 else 0) else opMayF xs
theorem opMayF_step {xs : List Sp} {k : Nat} {s : Sp} (h : xs[k]? = some s) : opMayF (xs.drop k) = if spMay s = 0 then opMayF (xs.drop (k + 1)) else spMay s := by
  obtain ⟨hl, rfl⟩ := List.getElem?_eq_some_iff.1 h
  rw [List.drop_eq_getElem_cons hl]; rfl

set_option maxHeartbeats 1000000 in
theorem opMay_calls (A : Option Addr) (c : Nat) (xs : List Sp) (w : World) (hL : Laid w) (hT : TextsOk xs) (hr : Kd.C kSp w A xs.length xs) :
    Calls Tryd.prog 49 #[.slice A xs.length c] w fun e w' => e = .returned (.int .i64 (opMay xs)) ∧ Below w.heap.size w w' := by
  have hm := hr.2.1
  have HR := Aside0.mk hr
  clear hr
  go_enter Tryd.func49, Tryd.ntmps49
  go_wp2
  go_loopw [8] (fun i w' => ∃ k : Nat, k ≤ xs.length ∧ i = .int .i64 k ∧ opMayF xs = opMayF (xs.drop k) ∧ Below w.heap.size w w') (fun i _ => xs.length - (intOf i).toNat)
  case atStart => exact ⟨0, Nat.zero_le _, rfl, rfl, Below.refl _ _⟩
  case round =>
    obtain ⟨k, hk, rfl, he, hB⟩ := hrel
    rename_i wr
    have hz := hB.size
    by_cases hlt : k < xs.length
    · obtain ⟨s, hs⟩ : ∃ s, xs[k]? = some s := ⟨_, List.getElem?_eq_getElem hlt⟩
      obtain ⟨ad, rfl, h0, h1, h2⟩ := at_Sp (Kd.C_below HR.out hB) hs
      have he2 : Hid (opMayF xs = if spMay s = 0 then opMayF (xs.drop (k + 1)) else spMay s) := by rw [← opMayF_step hs]; exact he
      have ht := hT.at_ hs
      clear hs he
      obtain ⟨sk, sn, st⟩ := s
      have cm := fun w' hL' => spanMay_calls ⟨sk, sn, st⟩ w' hL' ht
      generalize hq : spMay ⟨sk, sn, st⟩ = q at he2 cm
      clear hq
      have B1 : Below w.heap.size w (wr.alloc (.cells #[.int .i64 sk, .int .i64 sn, .string st] 26)) := hB.alloc hB.size _
      have Hcm := Lib.hid cm
      clear cm
      by_cases hq : q = 0
      · subst hq
        have he3 : Hid (opMayF xs = opMayF (xs.drop (k + 1))) := he2.out
        clear he2
        go_wp2_with (go_at_call 82; refine (Hcm.out _ (hL.below B1)).mono ?_; rintro e w2 ⟨rfl, hb2⟩)
        go_roundw
        case rel => exact ⟨k + 1, by omega, by go_num, he3.out, B1.trans (hb2.mono (by simp; omega))⟩
        case measure => simp [intOf]; omega
      · have he3 : Hid (opMay xs = q) := by
          have h := he2.out
          rw [if_neg hq] at h
          show opMay xs = q
          unfold opMay
          rw [h, if_neg hq]
        clear he2
        have hq1 : (q != 0) = true := by simpa using hq
        go_wp2_with (go_at_call 82; refine (Hcm.out _ (hL.below B1)).mono ?_; rintro e w2 ⟨rfl, hb2⟩)
        go_ret
        exact ⟨ret_int he3.out.symm, B1.trans (hb2.mono (by simp; omega))⟩
    · have hk2 : Hid (opMayF xs = 0) := by
        obtain rfl : k = xs.length := by omega
        rw [List.drop_length] at he
        exact he
      clear he
      have ci := opIn_calls A c xs wr (hL.below hB) hT (Kd.C_below HR.out hB)
      have hmay : Hid (opMay xs = if 1048576 < sumW spIn xs then 4 else 0) := by show opMay xs = _; unfold opMay; rw [hk2.out]; rfl
      generalize sumW spIn xs = acc at ci hmay
      by_cases hbig : 1048576 < acc
      all_goals
        go_wp2_with (go_at_call 27; refine ci.mono ?_; rintro e w2 ⟨rfl, hb2⟩)
        go_ret
        exact ⟨ret_int (by rw [hmay.out]; first | rw [if_pos hbig] | rw [if_neg (by omega)]), hB.trans (hb2.mono (by omega))⟩

end Go.Proofs.YtmfpfipjhhfbhaaDoor
