/- epitomeref01.Count, Valid; epitomeref03.In, Out, May; epitomeref04.In, Out, May: the reference's measures are the program's. -/
import Derived.Test.YtmfpfipjhhfbhaaDoorStarts2
import Derived.Test.YtmfpfipjhhfbhaaDoorAtoms
namespace Go.Proofs.YtmfpfipjhhfbhaaDoor
open Go.RowKit Go.Proofs.YtmfpfipjhhfbhaaDoorW.PrintWords

theorem refCount_calls (s : ByteArray) (w : World) (hs : s.size ≤ 4194304) :
    Calls Tryd.prog 86 #[.string s] w fun e w' => e = .returned (.int .i64 (txtCount s)) ∧ Below w.heap.size w w' := by
  have cs := starts_calls s w hs
  by_cases hv : txtOk s = true
  · have hc : txtCount s = (cps s).length := by unfold txtCount; rw [if_pos hv, runeCount_cps]
    have HC := Lib.hid hc
    have HV := Lib.hid hv
    have hl := (cps_length_le s hv).1
    clear hc hv
    go_enter Tryd.func86, Tryd.ntmps86
    go_wp2_with fail
    refine cs.mono ?_
    rintro e w1 ⟨hb, hp⟩
    rw [if_pos HV.out] at hp
    obtain ⟨A, c, rfl, _⟩ := hp
    clear cs
    go_wp2
    go_ret
    exact ⟨ret_int (by rw [HC.out]), hb⟩
  · have HC := Lib.hid (show txtCount s = -1 by unfold txtCount; rw [if_neg hv])
    have HV := Lib.hid hv
    clear hv
    go_enter Tryd.func86, Tryd.ntmps86
    go_wp2_with fail
    refine cs.mono ?_
    rintro e w1 ⟨hb, hp⟩
    rw [if_neg HV.out] at hp
    subst hp
    clear cs
    go_wp2
    go_ret
    exact ⟨ret_int (by rw [HC.out]), hb⟩
theorem refValid_calls (s : ByteArray) (w : World) (hs : s.size ≤ 4194304) :
    Calls Tryd.prog 95 #[.string s] w fun e w' => e = .returned (.bool (txtOk s)) ∧ Below w.heap.size w w' := by
  have cs := starts_calls s w hs
  by_cases hv : txtOk s = true
  · have HV := Lib.hid hv
    clear hv
    go_enter Tryd.func95, Tryd.ntmps95
    go_wp2_with fail
    refine cs.mono ?_
    rintro e w1 ⟨hb, hp⟩
    rw [if_pos HV.out] at hp
    obtain ⟨A, c, rfl, _⟩ := hp
    clear cs
    go_wp2
    go_ret
    exact ⟨ret_bool HV.out.symm, hb⟩
  · have HV := Lib.hid hv
    clear hv
    go_enter Tryd.func95, Tryd.ntmps95
    go_wp2_with fail
    refine cs.mono ?_
    rintro e w1 ⟨hb, hp⟩
    rw [if_neg HV.out] at hp
    subst hp
    clear cs
    go_wp2
    go_ret
    exact ⟨ret_bool (by have := HV.out; simpa using this), hb⟩

/-! ### a span -/
theorem r3In_calls (s : Sp) (w : World) :
    Calls Tryd.prog 92 #[.agg #[.int .i64 s.k, .int .i64 s.n, .string s.t]] w fun e w' => e = .returned (.int .i64 (spIn s)) ∧ Below w.heap.size w w' := by
  obtain ⟨k, n, t⟩ := s
  unfold spIn
  simp only
  by_cases h1 : k = 1
  · subst h1
    rw [if_pos (.inl rfl)]
    go_enter Tryd.func92, Tryd.ntmps92
    go_wp2
    go_ret
    exact ⟨rfl, (Below.refl _ _).alloc (Nat.le_refl _) _⟩
  · have h1b : (k == 1) = false := by simpa using h1
    by_cases h3 : k = 3
    · subst h3
      rw [if_pos (.inr rfl)]
      go_enter Tryd.func92, Tryd.ntmps92
      go_wp2
      go_ret
      exact ⟨rfl, (Below.refl _ _).alloc (Nat.le_refl _) _⟩
    · have h3b : (k == 3) = false := by simpa using h3
      rw [if_neg (by omega)]
      clear h1 h3
      go_enter Tryd.func92, Tryd.ntmps92
      go_wp2
      go_ret
      exact ⟨rfl, (Below.refl _ _).alloc (Nat.le_refl _) _⟩
theorem r3Out_calls (s : Sp) (w : World) (hs : s.t.size ≤ 4194304) :
    Calls Tryd.prog 62 #[.agg #[.int .i64 s.k, .int .i64 s.n, .string s.t]] w fun e w' => e = .returned (.int .i64 (spOut s)) ∧ Below w.heap.size w w' := by
  obtain ⟨k, n, t⟩ := s
  unfold spOut
  simp only at hs ⊢
  by_cases h1 : k = 1
  · subst h1
    rw [if_pos rfl]
    go_enter Tryd.func62, Tryd.ntmps62
    go_wp2
    go_ret
    exact ⟨rfl, (Below.refl _ _).alloc (Nat.le_refl _) _⟩
  · have h1b : (k == 1) = false := by simpa using h1
    rw [if_neg h1]
    clear h1
    by_cases h2 : k = 2
    · subst h2
      rw [if_pos rfl]
      have cc := refCount_calls t (w.alloc (.cells #[.int .i64 2, .int .i64 n, .string t] 26)) hs
      have hB : Below w.heap.size w (w.alloc (.cells #[.int .i64 2, .int .i64 n, .string t] 26)) := (Below.refl _ _).alloc (Nat.le_refl _) _
      generalize txtCount t = z at *
      go_enter Tryd.func62, Tryd.ntmps62
      go_wp2_with fail
      refine cc.mono ?_
      rintro e w1 ⟨rfl, hb⟩
      go_wp2
      go_ret
      exact ⟨rfl, hB.trans (hb.mono hB.size)⟩
    · have h2b : (k == 2) = false := by simpa using h2
      rw [if_neg h2]
      clear h2
      go_enter Tryd.func62, Tryd.ntmps62
      go_wp2
      go_ret
      exact ⟨rfl, (Below.refl _ _).alloc (Nat.le_refl _) _⟩
set_option maxHeartbeats 1000000 in
theorem r3May_calls (s : Sp) (w : World) (hs : s.t.size ≤ 4194304) :
    Calls Tryd.prog 91 #[.agg #[.int .i64 s.k, .int .i64 s.n, .string s.t]] w fun e w' => e = .returned (.int .i64 (spMay s)) ∧ Below w.heap.size w w' := by
  obtain ⟨k, n, t⟩ := s
  have hB : Below w.heap.size w (w.alloc (.cells #[.int .i64 k, .int .i64 n, .string t] 26)) := (Below.refl _ _).alloc (Nat.le_refl _) _
  unfold spMay
  simp only at hs ⊢
  by_cases h13 : k = 1 ∨ k = 3
  · rw [if_pos h13]
    have h3 : (k == 1) = true ∨ ((k == 1) = false ∧ (k == 3) = true) := by rcases h13 with rfl | rfl <;> simp
    clear h13
    by_cases hn : n < 0 ∨ 1048576 < n
    · rw [if_pos hn]
      rcases hn with hn | hn <;> rcases h3 with h3 | ⟨h3, h4⟩
      all_goals
        go_enter Tryd.func91, Tryd.ntmps91
        go_wp2
        go_ret
        exact ⟨rfl, hB⟩
    · rw [if_neg hn]
      have hn0 : 0 ≤ n := by omega
      have hn1 : n ≤ 1048576 := by omega
      clear hn
      by_cases ht : t.toList = []
      · have ht2 : t.toList.isEmpty = true := by rw [ht]; rfl
        rw [if_neg (by simpa using ht)]
        rcases h3 with h3 | ⟨h3, h4⟩
        all_goals
          go_enter Tryd.func91, Tryd.ntmps91
          go_wp2
          go_ret
          exact ⟨rfl, hB⟩
      · have ht2 : t.toList.isEmpty = false := by cases h : t.toList with | nil => exact absurd h ht | cons _ _ => rfl
        rw [if_pos ht]
        rcases h3 with h3 | ⟨h3, h4⟩
        all_goals
          go_enter Tryd.func91, Tryd.ntmps91
          go_wp2
          go_ret
          exact ⟨rfl, hB⟩
  · rw [if_neg h13]
    have h1b : (k == 1) = false := by simp; omega
    have h3b : (k == 3) = false := by simp; omega
    clear h13
    by_cases h2 : k = 2
    · rw [if_pos h2]
      have h2b : (k == 2) = true := by simpa using h2
      clear h2
      by_cases hn : n = 0
      · rw [if_neg (by simpa using hn)]
        have hnb : (n != 0) = false := by simpa using hn
        clear hn
        have cc := refValid_calls t (w.alloc (.cells #[.int .i64 k, .int .i64 n, .string t] 26)) hs
        cases hv : txtOk t
        · rw [hv] at cc
          rw [if_pos rfl]
          go_enter Tryd.func91, Tryd.ntmps91
          go_wp2_with fail
          refine cc.mono ?_
          rintro e w1 ⟨rfl, hb⟩
          go_wp2
          go_ret
          exact ⟨rfl, hB.trans (hb.mono hB.size)⟩
        · rw [hv] at cc
          rw [if_neg (by simp)]
          go_enter Tryd.func91, Tryd.ntmps91
          go_wp2_with fail
          refine cc.mono ?_
          rintro e w1 ⟨rfl, hb⟩
          go_wp2
          go_ret
          exact ⟨rfl, hB.trans (hb.mono hB.size)⟩
      · rw [if_pos hn]
        have hnb : (n != 0) = true := by simpa using hn
        clear hn
        go_enter Tryd.func91, Tryd.ntmps91
        go_wp2
        go_ret
        exact ⟨rfl, hB⟩
    · rw [if_neg h2]
      have h2b : (k == 2) = false := by simpa using h2
      clear h2
      go_enter Tryd.func91, Tryd.ntmps91
      go_wp2
      go_ret
      exact ⟨rfl, hB⟩

/-! ### a row -/
def TextsS (xs : List Sp) : Prop := ∀ s ∈ xs, s.t.size ≤ 4194304
theorem TextsS.at_ {xs : List Sp} (h : TextsS xs) {j : Nat} {s : Sp} (hj : xs[j]? = some s) : s.t.size ≤ 4194304 := h s (List.mem_of_getElem? hj)
theorem r3In_callsT (s : Sp) (w : World) (_ : s.t.size ≤ 4194304) :
    Calls Tryd.prog 92 #[.agg #[.int .i64 s.k, .int .i64 s.n, .string s.t]] w fun e w' => e = .returned (.int .i64 (spIn s)) ∧ Below w.heap.size w w' := r3In_calls s w

theorem r4In_calls (A : Option Addr) (c : Nat) (xs : List Sp) (w : World) (hT : TextsS xs) (hr : Kd.C kSp w A xs.length xs) :
    Calls Tryd.prog 78 #[.slice A xs.length c] w fun e w' => e = .returned (.int .i64 (sumW spIn xs)) ∧ Below w.heap.size w w' := by
  have hm := hr.2.1
  have HR := Aside0.mk hr
  clear hr
  go_enter Tryd.func78, Tryd.ntmps78
  go_wp2
  go_loopw [3, 4] (fun n i w' => ∃ k : Nat, k ≤ xs.length ∧ i = .int .i64 k ∧ n = .int .i64 (sumW spIn (xs.take k)) ∧ Below w.heap.size w w') (fun _ i _ => xs.length - (intOf i).toNat)
  case atStart => exact ⟨0, Nat.zero_le _, rfl, rfl, Below.refl _ _⟩
  case round =>
    obtain ⟨k, hk, rfl, rfl, hB⟩ := hrel
    rename_i wr
    have hz := hB.size
    by_cases hlt : k < xs.length
    · obtain ⟨s, hs⟩ : ∃ s, xs[k]? = some s := ⟨_, List.getElem?_eq_getElem hlt⟩
      obtain ⟨ad, rfl, h0, h1, h2⟩ := at_Sp (Kd.C_below HR.out hB) hs
      have hsn : Hid (sumW spIn (xs.take (k + 1)) = wrap64 (sumW spIn (xs.take k) + spIn s)) := by rw [take_snoc' hs]; exact sumW_snoc _ _ _
      have ht := hT.at_ hs
      clear hs
      obtain ⟨sk, sn, st⟩ := s
      generalize sumW spIn (xs.take k) = acc at hsn ⊢
      have cs := r3In_callsT ⟨sk, sn, st⟩ wr ht
      simp only at cs
      go_wp2_with fail
      refine cs.mono ?_
      rintro e w2 ⟨rfl, hb2⟩
      clear cs
      go_wp2
      go_roundw
      case rel => exact ⟨k + 1, by omega, by go_num, by rw [hsn.out], hB.trans (hb2.mono hz)⟩
      case measure => simp [intOf]; omega
    · have hk2 : Hid (k = xs.length) := (by omega : k = xs.length)
      go_wp2
      go_ret
      exact ⟨ret_int (by rw [hk2.out, List.take_length]), hB⟩
theorem r4Out_calls (A : Option Addr) (c : Nat) (xs : List Sp) (w : World) (hT : TextsS xs) (hr : Kd.C kSp w A xs.length xs) :
    Calls Tryd.prog 79 #[.slice A xs.length c] w fun e w' => e = .returned (.int .i64 (sumW spOut xs)) ∧ Below w.heap.size w w' := by
  have hm := hr.2.1
  have HR := Aside0.mk hr
  clear hr
  go_enter Tryd.func79, Tryd.ntmps79
  go_wp2
  go_loopw [3, 4] (fun n i w' => ∃ k : Nat, k ≤ xs.length ∧ i = .int .i64 k ∧ n = .int .i64 (sumW spOut (xs.take k)) ∧ Below w.heap.size w w') (fun _ i _ => xs.length - (intOf i).toNat)
  case atStart => exact ⟨0, Nat.zero_le _, rfl, rfl, Below.refl _ _⟩
  case round =>
    obtain ⟨k, hk, rfl, rfl, hB⟩ := hrel
    rename_i wr
    have hz := hB.size
    by_cases hlt : k < xs.length
    · obtain ⟨s, hs⟩ : ∃ s, xs[k]? = some s := ⟨_, List.getElem?_eq_getElem hlt⟩
      obtain ⟨ad, rfl, h0, h1, h2⟩ := at_Sp (Kd.C_below HR.out hB) hs
      have hsn : Hid (sumW spOut (xs.take (k + 1)) = wrap64 (sumW spOut (xs.take k) + spOut s)) := by rw [take_snoc' hs]; exact sumW_snoc _ _ _
      have ht := hT.at_ hs
      clear hs
      obtain ⟨sk, sn, st⟩ := s
      generalize sumW spOut (xs.take k) = acc at hsn ⊢
      have cs := r3Out_calls ⟨sk, sn, st⟩ wr ht
      simp only at cs
      go_wp2_with fail
      refine cs.mono ?_
      rintro e w2 ⟨rfl, hb2⟩
      clear cs
      go_wp2
      go_roundw
      case rel => exact ⟨k + 1, by omega, by go_num, by rw [hsn.out], hB.trans (hb2.mono hz)⟩
      case measure => simp [intOf]; omega
    · have hk2 : Hid (k = xs.length) := (by omega : k = xs.length)
      go_wp2
      go_ret
      exact ⟨ret_int (by rw [hk2.out, List.take_length]), hB⟩

set_option maxHeartbeats 1000000 in
theorem r4May_calls (A : Option Addr) (c : Nat) (xs : List Sp) (w : World) (hT : TextsS xs) (hr : Kd.C kSp w A xs.length xs) :
    Calls Tryd.prog 77 #[.slice A xs.length c] w fun e w' => e = .returned (.int .i64 (opMay xs)) ∧ Below w.heap.size w w' := by
  have hm := hr.2.1
  have HR := Aside0.mk hr
  clear hr
  go_enter Tryd.func77, Tryd.ntmps77
  go_wp2
  go_loopw [3] (fun i w' => ∃ k : Nat, k ≤ xs.length ∧ i = .int .i64 k ∧ opMayF xs = opMayF (xs.drop k) ∧ Below w.heap.size w w') (fun i _ => xs.length - (intOf i).toNat)
  case atStart => exact ⟨0, Nat.zero_le _, rfl, rfl, Below.refl _ _⟩
  case round =>
    obtain ⟨k, hk, rfl, he, hB⟩ := hrel
    rename_i wr
    have hz := hB.size
    by_cases hlt : k < xs.length
    · obtain ⟨s, hs⟩ : ∃ s, xs[k]? = some s := ⟨_, List.getElem?_eq_getElem hlt⟩
      obtain ⟨ad, rfl, h0, h1, h2⟩ := at_Sp (Kd.C_below HR.out hB) hs
      have he2 : Hid (opMayF xs = if spMay s = 0 then opMayF (xs.drop (k + 1)) else spMay s) := by rw [← opMayF_step hs]; exact he
      have ht := hT.at_ hs
      clear hs he
      obtain ⟨sk, sn, st⟩ := s
      have cm := r3May_calls ⟨sk, sn, st⟩ wr ht
      generalize hq : spMay ⟨sk, sn, st⟩ = q at he2 cm
      clear hq
      simp only at cm
      by_cases hq : q = 0
      · subst hq
        have he3 : Hid (opMayF xs = opMayF (xs.drop (k + 1))) := he2.out
        clear he2
        go_wp2_with fail
        refine cm.mono ?_
        rintro e w2 ⟨rfl, hb2⟩
        clear cm
        go_wp2
        go_roundw
        case rel => exact ⟨k + 1, by omega, by go_num, he3.out, hB.trans (hb2.mono hz)⟩
        case measure => simp [intOf]; omega
      · have he3 : Hid (opMay xs = q) := by
          have h := he2.out
          rw [if_neg hq] at h
          show opMay xs = q
          unfold opMay
          rw [h, if_neg hq]
        clear he2
        have hq1 : (q != 0) = true := by simpa using hq
        go_wp2_with fail
        refine cm.mono ?_
        rintro e w2 ⟨rfl, hb2⟩
        clear cm
        go_wp2
        go_ret
        exact ⟨ret_int he3.out.symm, hB.trans (hb2.mono hz)⟩
    · have hk2 : Hid (opMayF xs = 0) := by
        obtain rfl : k = xs.length := by omega
        rw [List.drop_length] at he
        exact he
      clear he
      have ci := r4In_calls A c xs wr hT (Kd.C_below HR.out hB)
      have hmay : Hid (opMay xs = if 1048576 < sumW spIn xs then 4 else 0) := by show opMay xs = _; unfold opMay; rw [hk2.out]; rfl
      generalize sumW spIn xs = acc at ci hmay
      by_cases hbig : 1048576 < acc
      all_goals
        go_wp2_with fail
        refine ci.mono ?_
        rintro e w2 ⟨rfl, hb2⟩
        go_wp2
        go_ret
        exact ⟨ret_int (by rw [hmay.out]; first | rw [if_pos hbig] | rw [if_neg (by omega)]), hB.trans (hb2.mono hz)⟩

end Go.Proofs.YtmfpfipjhhfbhaaDoor
