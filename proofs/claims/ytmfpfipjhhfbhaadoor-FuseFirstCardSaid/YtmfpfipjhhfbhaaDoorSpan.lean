/- The contracts of package span's functions (and points.Valid, points.Count as far as they are handed in as hypotheses). -/
import Derived.Test.YtmfpfipjhhfbhaaDoorBase
import Derived.Test.YtmfpfipjhhfbhaaDoorShelf
namespace Go.Proofs.YtmfpfipjhhfbhaaDoor
open Go.RowKit Go.Proofs.YtmfpfipjhhfbhaaDoorW.PrintWords

theorem of_1 (n : Int) (t : ByteArray) (w : World) (hL : Laid w) :
    Calls Tryd.prog 83 #[.agg #[.int .i64 1, .int .i64 n, .string t]] w fun e w' => e = .returned (.tuple #[.agg #[.bool true, .bool true], .bool true]) ∧ Below w.heap.size w w' := by
  have hz := hL.size
  have h0 := hL.kinds 2 _ rfl
  have h1 := hL.kinds 3 _ rfl
  clear hL
  have hz0 : 0 < w.heap.size := by omega
  go_enter Tryd.func83, Tryd.ntmps83
  go_wp2
  exact bodyPost_ret (v := .tuple #[.agg #[.bool true, .bool true], .bool true]) (by simp [results, Tryd.results83, go_sem]) rfl ⟨rfl, (((Below.refl _ _).alloc (Nat.le_refl _) _).alloc (by simp) _)⟩
theorem of_3 (n : Int) (t : ByteArray) (w : World) (hL : Laid w) :
    Calls Tryd.prog 83 #[.agg #[.int .i64 3, .int .i64 n, .string t]] w fun e w' => e = .returned (.tuple #[.agg #[.bool true, .bool false], .bool true]) ∧ Below w.heap.size w w' := by
  have hz := hL.size
  have h0 := hL.kinds 6 _ rfl
  have h1 := hL.kinds 7 _ rfl
  clear hL
  have hz0 : 0 < w.heap.size := by omega
  go_enter Tryd.func83, Tryd.ntmps83
  go_wp2
  exact bodyPost_ret (v := .tuple #[.agg #[.bool true, .bool false], .bool true]) (by simp [results, Tryd.results83, go_sem]) rfl ⟨rfl, (((Below.refl _ _).alloc (Nat.le_refl _) _).alloc (by simp) _)⟩
theorem of_2 (n : Int) (t : ByteArray) (w : World) (hL : Laid w) :
    Calls Tryd.prog 83 #[.agg #[.int .i64 2, .int .i64 n, .string t]] w fun e w' => e = .returned (.tuple #[.agg #[.bool false, .bool false], .bool true]) ∧ Below w.heap.size w w' := by
  have hz := hL.size
  have h0 := hL.kinds 4 _ rfl
  have h1 := hL.kinds 5 _ rfl
  clear hL
  have hz0 : 0 < w.heap.size := by omega
  go_enter Tryd.func83, Tryd.ntmps83
  go_wp2
  exact bodyPost_ret (v := .tuple #[.agg #[.bool false, .bool false], .bool true]) (by simp [results, Tryd.results83, go_sem]) rfl ⟨rfl, (((Below.refl _ _).alloc (Nat.le_refl _) _).alloc (by simp) _)⟩
theorem of_x (k n : Int) (t : ByteArray) (w : World) (hk : k < 1 ∨ 3 < k) :
    Calls Tryd.prog 83 #[.agg #[.int .i64 k, .int .i64 n, .string t]] w fun e w' => e = .returned (.tuple #[.agg #[.bool false, .bool false], .bool false]) ∧ Below w.heap.size w w' := by
  rcases hk with hk | hk
  all_goals
    go_enter Tryd.func83, Tryd.ntmps83
    go_wp2
    exact bodyPost_ret (v := .tuple #[.agg #[.bool false, .bool false], .bool false]) (by simp [results, Tryd.results83, go_sem]) rfl ⟨rfl, (((Below.refl _ _).alloc (Nat.le_refl _) _).alloc (by simp) _)⟩


/-- A text's code points are counted by the range; a text is valid. (The functions of package points.) -/
def txtOk (t : ByteArray) : Bool := Lib.validD t.data.toList
def txtCount (t : ByteArray) : Int := if txtOk t = true then (Lib.runeCount t : Int) else -1
theorem valid_calls (t : ByteArray) (w : World) (hL : Laid w) (hs : t.size ≤ 9223372036854775807) :
    Calls Tryd.prog 57 #[.string t] w fun e w' => e = .returned (.bool (txtOk t)) ∧ Below w.heap.size w w' := by
  have cV : Calls Tryd.prog 84 #[.string t] w _ := Any.utf8_ValidString Tryd.laysValid t w hs hL.utf8
  unfold txtOk
  generalize Lib.validD t.data.toList = V at cV ⊢
  go_enter Tryd.func57, Tryd.ntmps57
  go_wp2_with (go_at_call 84; refine cV.mono ?_; rintro e w' ⟨rfl, hb⟩)
  go_ret
  exact ⟨rfl, hb⟩
theorem width_pos' (s : ByteArray) (pos : Nat) : 1 ≤ (Utf8.decode s pos).2 := Lib.width_pos s pos
theorem count_calls (t : ByteArray) (w : World) (hL : Laid w) (hs : t.size ≤ 9223372036854775807) :
    Calls Tryd.prog 19 #[.string t] w fun e w' => e = .returned (.int .i64 (txtCount t)) ∧ Below w.heap.size w w' := by
  have c := valid_calls t w hL hs
  unfold txtCount
  cases hv : txtOk t
  · rw [hv] at c
    simp only [Bool.false_eq_true, if_false]
    go_enter Tryd.func19, Tryd.ntmps19
    go_wp2_with (go_at_call 57; refine c.mono ?_; rintro e w' ⟨rfl, hb⟩)
    go_ret
    exact ⟨rfl, hb⟩
  · rw [hv] at c
    simp only [if_true]
    go_enter Tryd.func19, Tryd.ntmps19
    go_wp2_with (go_at_call 57; refine c.mono ?_; rintro e w1 ⟨rfl, hb⟩)
    go_loopw [3] (fun n w' => ∃ (pos b : Nat) (acc : Nat), w' = w1.iter t pos ∧ n = .int .i64 acc ∧ acc + Lib.runeCountFrom t b pos = Lib.runeCount t ∧ t.size ≤ pos + b) (fun _ w' => t.size - w'.iterPos w1.heap.size)
    case atStart => exact ⟨0, t.size, 0, rfl, rfl, by simp [Lib.runeCount], by omega⟩
    case round =>
      obtain ⟨pos, b, acc, rfl, rfl, hc, hb2⟩ := hrel
      have hle := Lib.runeCount_le t
      by_cases hp : pos < t.size
      · have hnx : ∀ ty, (Instr.next (.pointer (some ⟨w1.heap.size, 0, none⟩)) true ty).run Tryd.prog (w1.iter t pos) = _ := fun ty => run_next_any w1 t pos ty hp
        have hc' : Hid (acc + Lib.runeCountFrom t b pos = Lib.runeCount t) := hc
        have hacc : acc < 9223372036854775807 := by
          cases b with
          | zero => omega
          | succ b => simp only [Lib.runeCountFrom, hp, if_true] at hc; omega
        clear hc
        go_wp2
        have hwd := width_pos' t pos
        go_roundw
        case rel =>
          cases b with
          | zero => omega
          | succ b =>
            refine ⟨pos + (Utf8.decode t pos).2, b, acc + 1, rfl, by go_num, ?_, by omega⟩
            have := hc'.out
            simp only [Lib.runeCountFrom, hp, if_true] at this
            omega
        case measure =>
          simp
          omega
      · have hnx : ∀ ty, (Instr.next (.pointer (some ⟨w1.heap.size, 0, none⟩)) true ty).run Tryd.prog (w1.iter t pos) = _ := fun ty => run_next_end w1 t pos ty hp
        rw [Lib.runeCountFrom_end _ _ _ hp] at hc
        obtain rfl : acc = Lib.runeCount t := by omega
        clear hc
        go_wp2
        go_ret
        exact ⟨rfl, hb.alloc hb.size _⟩

theorem txtOk_nil {t : ByteArray} (h : t.toList = []) : txtOk t = true := by
  unfold txtOk; rw [← Lib.toList_data, h]; rfl

/-! ### span.In, span.Out, span.May -/
def takes (k : Int) : Bool := k == 1 || k == 3
def spIn (s : Sp) : Int := if s.k = 1 ∨ s.k = 3 then s.n else 0
def spOut (s : Sp) : Int := if s.k = 1 then s.n else if s.k = 2 then max (txtCount s.t) 0 else 0
def spMay (s : Sp) : Int :=
  if s.k = 1 ∨ s.k = 3 then (if s.n < 0 ∨ 1048576 < s.n then 2 else if s.t.toList ≠ [] then 3 else 0)
  else if s.k = 2 then (if s.n ≠ 0 then 2 else if txtOk s.t = false then 3 else 0) else 1
theorem kind_cases (k : Int) : k = 1 ∨ k = 2 ∨ k = 3 ∨ (k < 1 ∨ 3 < k) := by omega
theorem spMay2 (t : ByteArray) : spMay ⟨2, 0, t⟩ = if txtOk t = true then 0 else 3 := by
  cases h : txtOk t <;> simp [spMay, h]

theorem spanIn_calls (s : Sp) (w : World) (hL : Laid w) :
    Calls Tryd.prog 65 #[.agg #[.int .i64 s.k, .int .i64 s.n, .string s.t]] w fun e w' => e = .returned (.int .i64 (spIn s)) ∧ Below w.heap.size w w' := by
  obtain ⟨k, n, t⟩ := s
  have B0 : Below w.heap.size w (w.alloc (.cells #[.int .i64 k, .int .i64 n, .string t] 26)) := (Below.refl _ _).alloc (Nat.le_refl _) _
  have hL1 := hL.below B0
  rcases kind_cases k with rfl | rfl | rfl | hk
  · simp only [spIn]
    go_enter Tryd.func65, Tryd.ntmps65
    go_wp2_with (go_at_call 83; refine (of_1 n t _ hL1).mono ?_; rintro e w1 ⟨rfl, hb⟩; obtain ⟨hc1, hf1, hz0⟩ := bcell hb; have hz1 : w.heap.size < w1.heap.size := by simp at hz0; omega)
    go_ret
    exact ⟨rfl, (B0.trans (hb.mono (by simp))).alloc (by omega) _⟩
  · simp only [spIn]
    go_enter Tryd.func65, Tryd.ntmps65
    go_wp2_with (go_at_call 83; refine (of_2 n t _ hL1).mono ?_; rintro e w1 ⟨rfl, hb⟩; obtain ⟨hc1, hf1, hz0⟩ := bcell hb; have hz1 : w.heap.size < w1.heap.size := by simp at hz0; omega)
    go_ret
    exact ⟨rfl, (B0.trans (hb.mono (by simp))).alloc (by omega) _⟩
  · simp only [spIn]
    go_enter Tryd.func65, Tryd.ntmps65
    go_wp2_with (go_at_call 83; refine (of_3 n t _ hL1).mono ?_; rintro e w1 ⟨rfl, hb⟩; obtain ⟨hc1, hf1, hz0⟩ := bcell hb; have hz1 : w.heap.size < w1.heap.size := by simp at hz0; omega)
    go_ret
    exact ⟨rfl, (B0.trans (hb.mono (by simp))).alloc (by omega) _⟩
  · simp only [spIn]
    rw [if_neg (by omega)]
    go_enter Tryd.func65, Tryd.ntmps65
    go_wp2_with (go_at_call 83; refine (of_x k n t _ hk).mono ?_; rintro e w1 ⟨rfl, hb⟩; obtain ⟨hc1, hf1, hz0⟩ := bcell hb; have hz1 : w.heap.size < w1.heap.size := by simp at hz0; omega)
    go_ret
    exact ⟨rfl, (B0.trans (hb.mono (by simp))).alloc (by omega) _⟩

/-- What stands behind a call of span.of in a function that has put its span into a box. -/
theorem spanOut_calls (s : Sp) (w : World) (hL : Laid w) (hs : s.t.size ≤ 9223372036854775807) :
    Calls Tryd.prog 51 #[.agg #[.int .i64 s.k, .int .i64 s.n, .string s.t]] w fun e w' => e = .returned (.int .i64 (spOut s)) ∧ Below w.heap.size w w' := by
  obtain ⟨k, n, t⟩ := s
  have B0 : Below w.heap.size w (w.alloc (.cells #[.int .i64 k, .int .i64 n, .string t] 26)) := (Below.refl _ _).alloc (Nat.le_refl _) _
  have hL1 := hL.below B0
  rcases kind_cases k with rfl | rfl | rfl | hk
  · rw [show spOut ⟨1, n, t⟩ = n by simp [spOut]]
    go_enter Tryd.func51, Tryd.ntmps51
    go_wp2_with (go_at_call 83; refine (of_1 n t _ hL1).mono ?_; rintro e w1 ⟨rfl, hb⟩; obtain ⟨hc1, hf1, hz0⟩ := bcell hb; have hz1 : w.heap.size < w1.heap.size := by simp at hz0; omega)
    go_ret
    exact ⟨rfl, (B0.trans (hb.mono (by simp))).alloc (by omega) _⟩
  · rw [show spOut ⟨2, n, t⟩ = max (txtCount t) 0 by simp [spOut]]
    go_enter Tryd.func51, Tryd.ntmps51
    go_wp2_with (go_at_call 83; refine (of_2 n t _ hL1).mono ?_; rintro e w1 ⟨rfl, hb⟩; obtain ⟨hc1, hf1, hz0⟩ := bcell hb; have hz1 : w.heap.size < w1.heap.size := by simp at hz0; omega)
    have B1 : Below w.heap.size w (w1.alloc (.cells #[.bool false, .bool false] 107)) := (B0.trans (hb.mono (by simp))).alloc (by omega) _
    refine (count_calls t _ (hL.below B1) hs).mono ?_
    rintro e w2 ⟨rfl, hb2⟩
    go_wp2_with fail
    go_ret
    exact ⟨rfl, B1.trans (hb2.mono (by simp; omega))⟩
  · rw [show spOut ⟨3, n, t⟩ = 0 by simp [spOut]]
    go_enter Tryd.func51, Tryd.ntmps51
    go_wp2_with (go_at_call 83; refine (of_3 n t _ hL1).mono ?_; rintro e w1 ⟨rfl, hb⟩; obtain ⟨hc1, hf1, hz0⟩ := bcell hb; have hz1 : w.heap.size < w1.heap.size := by simp at hz0; omega)
    go_ret
    exact ⟨rfl, (B0.trans (hb.mono (by simp))).alloc (by omega) _⟩
  · rw [show spOut ⟨k, n, t⟩ = 0 by simp only [spOut]; rw [if_neg (by omega), if_neg (by omega)]]
    have hk2 : (k == 2) = false := by simp; omega
    go_enter Tryd.func51, Tryd.ntmps51
    go_wp2_with (go_at_call 83; refine (of_x k n t _ hk).mono ?_; rintro e w1 ⟨rfl, hb⟩; obtain ⟨hc1, hf1, hz0⟩ := bcell hb; have hz1 : w.heap.size < w1.heap.size := by simp at hz0; omega)
    go_ret
    exact ⟨rfl, (B0.trans (hb.mono (by simp))).alloc (by omega) _⟩

theorem spanMay_calls (s : Sp) (w : World) (hL : Laid w) (hs : s.t.size ≤ 9223372036854775807) :
    Calls Tryd.prog 82 #[.agg #[.int .i64 s.k, .int .i64 s.n, .string s.t]] w fun e w' => e = .returned (.int .i64 (spMay s)) ∧ Below w.heap.size w w' := by
  obtain ⟨k, n, t⟩ := s
  have B0 : Below w.heap.size w (w.alloc (.cells #[.int .i64 k, .int .i64 n, .string t] 26)) := (Below.refl _ _).alloc (Nat.le_refl _) _
  have hL1 := hL.below B0
  rcases kind_cases k with rfl | rfl | rfl | hk
  · by_cases hn : n < 0 ∨ 1048576 < n
    · rw [show spMay ⟨1, n, t⟩ = 2 by simp [spMay, hn]]
      have hd : (decide (n < 0) || decide (1048576 < n)) = true := by simp; omega
      go_enter Tryd.func82, Tryd.ntmps82
      go_wp2_with (go_at_call 83; refine (of_1 n t _ hL1).mono ?_; rintro e w1 ⟨rfl, hb⟩; obtain ⟨hc1, hf1, hz0⟩ := bcell hb; have hz1 : w.heap.size < w1.heap.size := by simp at hz0; omega)
      all_goals
        go_ret
        exact ⟨rfl, (B0.trans (hb.mono (by simp))).alloc (by omega) _⟩
    · by_cases ht : t.toList.isEmpty = true
      · rw [show spMay ⟨1, n, t⟩ = 0 by simp only [spMay]; rw [if_pos (by decide), if_neg hn, if_neg (by simpa using ht)]]
        have ht2 : (!t.toList.isEmpty) = false := by simpa using ht
        have hd : (decide (n < 0) || decide (1048576 < n)) = false := by simp; omega
        have hv : txtOk t = true := txtOk_nil (by simpa using ht)
        go_enter Tryd.func82, Tryd.ntmps82
        go_wp2_with (go_at_call 83; refine (of_1 n t _ hL1).mono ?_; rintro e w1 ⟨rfl, hb⟩; obtain ⟨hc1, hf1, hz0⟩ := bcell hb; have hz1 : w.heap.size < w1.heap.size := by simp at hz0; omega)
        have B1 : Below w.heap.size w (w1.alloc (.cells #[.bool true, .bool true] 107)) := (B0.trans (hb.mono (by simp))).alloc (by omega) _
        refine (valid_calls t _ (hL.below B1) hs).mono ?_
        rw [hv]
        rintro e w2 ⟨rfl, hb2⟩
        go_wp2_with fail
        go_ret
        exact ⟨rfl, B1.trans (hb2.mono (by simp; omega))⟩
      · rw [show spMay ⟨1, n, t⟩ = 3 by simp only [spMay]; rw [if_pos (by decide), if_neg hn, if_pos (by simpa using ht)]]
        have ht2 : (!t.toList.isEmpty) = true := by simpa using ht
        have hd : (decide (n < 0) || decide (1048576 < n)) = false := by simp; omega
        go_enter Tryd.func82, Tryd.ntmps82
        go_wp2_with (go_at_call 83; refine (of_1 n t _ hL1).mono ?_; rintro e w1 ⟨rfl, hb⟩; obtain ⟨hc1, hf1, hz0⟩ := bcell hb; have hz1 : w.heap.size < w1.heap.size := by simp at hz0; omega)
        go_ret
        exact ⟨rfl, (B0.trans (hb.mono (by simp))).alloc (by omega) _⟩
  · by_cases hn : n = 0
    · subst hn
      cases hv : txtOk t
      all_goals
        rw [spMay2, hv]
        simp only [Bool.false_eq_true, if_true, if_false]
        have hv' := Lib.hid hv
        clear hv
        go_enter Tryd.func82, Tryd.ntmps82
        go_wp2_with (go_at_call 83; refine (of_2 0 t _ hL1).mono ?_; rintro e w1 ⟨rfl, hb⟩; obtain ⟨hc1, hf1, hz0⟩ := bcell hb; have hz1 : w.heap.size < w1.heap.size := by simp at hz0; omega)
        have B1 : Below w.heap.size w (w1.alloc (.cells #[.bool false, .bool false] 107)) := (B0.trans (hb.mono (by simp))).alloc (by omega) _
        have cv := valid_calls t _ (hL.below B1) hs
        rw [hv'.out] at cv
        refine cv.mono ?_
        rintro e w2 ⟨rfl, hb2⟩
        go_wp2_with fail
        go_ret
        exact ⟨rfl, B1.trans (hb2.mono (by simp; omega))⟩
    · rw [show spMay ⟨2, n, t⟩ = 2 by simp [spMay, hn]]
      have hd : (n != 0) = true := by simpa using hn
      go_enter Tryd.func82, Tryd.ntmps82
      go_wp2_with (go_at_call 83; refine (of_2 n t _ hL1).mono ?_; rintro e w1 ⟨rfl, hb⟩; obtain ⟨hc1, hf1, hz0⟩ := bcell hb; have hz1 : w.heap.size < w1.heap.size := by simp at hz0; omega)
      go_ret
      exact ⟨rfl, (B0.trans (hb.mono (by simp))).alloc (by omega) _⟩
  · by_cases hn : n < 0 ∨ 1048576 < n
    · rw [show spMay ⟨3, n, t⟩ = 2 by simp [spMay, hn]]
      have hd : (decide (n < 0) || decide (1048576 < n)) = true := by simp; omega
      go_enter Tryd.func82, Tryd.ntmps82
      go_wp2_with (go_at_call 83; refine (of_3 n t _ hL1).mono ?_; rintro e w1 ⟨rfl, hb⟩; obtain ⟨hc1, hf1, hz0⟩ := bcell hb; have hz1 : w.heap.size < w1.heap.size := by simp at hz0; omega)
      all_goals
        go_ret
        exact ⟨rfl, (B0.trans (hb.mono (by simp))).alloc (by omega) _⟩
    · by_cases ht : t.toList.isEmpty = true
      · rw [show spMay ⟨3, n, t⟩ = 0 by simp only [spMay]; rw [if_pos (by decide), if_neg hn, if_neg (by simpa using ht)]]
        have ht2 : (!t.toList.isEmpty) = false := by simpa using ht
        have hd : (decide (n < 0) || decide (1048576 < n)) = false := by simp; omega
        have hv : txtOk t = true := txtOk_nil (by simpa using ht)
        go_enter Tryd.func82, Tryd.ntmps82
        go_wp2_with (go_at_call 83; refine (of_3 n t _ hL1).mono ?_; rintro e w1 ⟨rfl, hb⟩; obtain ⟨hc1, hf1, hz0⟩ := bcell hb; have hz1 : w.heap.size < w1.heap.size := by simp at hz0; omega)
        have B1 : Below w.heap.size w (w1.alloc (.cells #[.bool true, .bool false] 107)) := (B0.trans (hb.mono (by simp))).alloc (by omega) _
        refine (valid_calls t _ (hL.below B1) hs).mono ?_
        rw [hv]
        rintro e w2 ⟨rfl, hb2⟩
        go_wp2_with fail
        go_ret
        exact ⟨rfl, B1.trans (hb2.mono (by simp; omega))⟩
      · rw [show spMay ⟨3, n, t⟩ = 3 by simp only [spMay]; rw [if_pos (by decide), if_neg hn, if_pos (by simpa using ht)]]
        have ht2 : (!t.toList.isEmpty) = true := by simpa using ht
        have hd : (decide (n < 0) || decide (1048576 < n)) = false := by simp; omega
        go_enter Tryd.func82, Tryd.ntmps82
        go_wp2_with (go_at_call 83; refine (of_3 n t _ hL1).mono ?_; rintro e w1 ⟨rfl, hb⟩; obtain ⟨hc1, hf1, hz0⟩ := bcell hb; have hz1 : w.heap.size < w1.heap.size := by simp at hz0; omega)
        go_ret
        exact ⟨rfl, (B0.trans (hb.mono (by simp))).alloc (by omega) _⟩
  · rw [show spMay ⟨k, n, t⟩ = 1 by simp only [spMay]; rw [if_neg (by omega), if_neg (by omega)]]
    go_enter Tryd.func82, Tryd.ntmps82
    go_wp2_with (go_at_call 83; refine (of_x k n t _ hk).mono ?_; rintro e w1 ⟨rfl, hb⟩; obtain ⟨hc1, hf1, hz0⟩ := bcell hb; have hz1 : w.heap.size < w1.heap.size := by simp at hz0; omega)
    go_ret
    exact ⟨rfl, (B0.trans (hb.mono (by simp))).alloc (by omega) _⟩

end Go.Proofs.YtmfpfipjhhfbhaaDoor
