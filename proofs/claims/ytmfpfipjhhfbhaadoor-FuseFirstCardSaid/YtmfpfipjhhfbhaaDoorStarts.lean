/- epitomeref01.first, Starts, Count, Valid: the reference's own reading of UTF-8 is the model's. -/
import Derived.Test.YtmfpfipjhhfbhaaDoorText
import Derived.Test.YtmfpfipjhhfbhaaDoorSpan
namespace Go.Proofs.YtmfpfipjhhfbhaaDoor
open Go.Lib Go.RowKit Go.Proofs.YtmfpfipjhhfbhaaDoorW.PrintWords

/-! ### plain -/
def sizeR (n : Int) : Int := if n < 0 ∨ 1114111 < n ∨ (55296 ≤ n ∧ n ≤ 57343) then 0 else if n < 128 then 1 else if n < 2048 then 2 else if n < 65536 then 3 else 4
/-- The code point that bytes begin with, and its size; none: (0, 0). -/
def firstV (l : List UInt8) : Nat × Nat := if l = [] then (0, 0) else if (decodeL l).1 = 65533 ∧ (decodeL l).2 = 1 then (0, 0) else decodeL l
def byteN (l : List UInt8) (j : Nat) : Nat := (l.getD j 0).toNat
theorem byteN_lt (l : List UInt8) (j : Nat) : byteN l j < 256 := (l.getD j 0).toNat_lt
theorem firstV_N (l : List UInt8) (h : l ≠ []) : firstV l = if (decodeN l.length (byteN l 0) (byteN l 1) (byteN l 2) (byteN l 3)) = (65533, 1) then (0, 0) else decodeN l.length (byteN l 0) (byteN l 1) (byteN l 2) (byteN l 3) := by
  unfold firstV byteN
  rw [if_neg h, decodeL_N]
  simp only [Prod.ext_iff]
theorem firstV_bad {l : List UInt8} (h : l ≠ []) (e : decodeN l.length (byteN l 0) (byteN l 1) (byteN l 2) (byteN l 3) = (65533, 1)) : firstV l = (0, 0) := by rw [firstV_N l h, if_pos e]
theorem firstV_good {l : List UInt8} (h : l ≠ []) {r k : Nat} (e : decodeN l.length (byteN l 0) (byteN l 1) (byteN l 2) (byteN l 3) = (r, k)) (hk : k ≠ 1 ∨ r ≠ 65533) : firstV l = (r, k) := by
  rw [firstV_N l h, e, if_neg]
  intro h2
  injection h2 with h3 h4
  rcases hk with hk | hk
  · exact hk h4
  · exact hk h3
/-- What the bytes so far come to. -/
def accN (l : List UInt8) (n0 : Nat) : Nat → Nat
  | 0 => n0
  | k + 1 => accN l n0 k * 64 + byteN l (k + 1) - 128
/-- The first byte tells how many follow (m), and what it gives (n0). -/
def Lead (b m n0 : Nat) : Prop := (m = 1 ∧ 192 ≤ b ∧ b < 224 ∧ n0 = b - 192) ∨ (m = 2 ∧ 224 ≤ b ∧ b < 240 ∧ n0 = b - 224) ∨ (m = 3 ∧ 240 ≤ b ∧ b < 248 ∧ n0 = b - 240)
theorem lead_short {l : List UInt8} {m n0 : Nat} (h : l ≠ []) (hl : Lead (byteN l 0) m n0) (hs : l.length < m + 1) : firstV l = (0, 0) := by
  refine firstV_bad h ?_
  have hp : 0 < l.length := List.length_pos_iff.2 h
  unfold decodeN
  rcases hl with ⟨rfl, h1, h2, _⟩ | ⟨rfl, h1, h2, _⟩ | ⟨rfl, h1, h2, _⟩ <;> (repeat' split) <;> first | omega | rfl
theorem lead_cont {l : List UInt8} {m n0 j : Nat} (h : l ≠ []) (hl : Lead (byteN l 0) m n0) (h1 : 1 ≤ j) (hj : j ≤ m) (hs : byteN l j < 128 ∨ 191 < byteN l j) : firstV l = (0, 0) := by
  refine firstV_bad h ?_
  unfold decodeN
  have hm3 : m ≤ 3 := by rcases hl with ⟨e, _⟩ | ⟨e, _⟩ | ⟨e, _⟩ <;> omega
  have hc : j = 1 ∨ j = 2 ∨ j = 3 := by omega
  have b1 := byteN_lt l 1
  have b2 := byteN_lt l 2
  have b3 := byteN_lt l 3
  rcases hl with ⟨rfl, h1, h2, _⟩ | ⟨rfl, h1, h2, _⟩ | ⟨rfl, h1, h2, _⟩ <;> rcases hc with rfl | rfl | rfl <;> (first | omega | skip) <;> (repeat' split) <;> first | omega | rfl
theorem sizeU2 (v : Nat) : sizeR (v : Int) = ((1 : Nat) : Int) + 1 ↔ 128 ≤ v ∧ v < 2048 := by
  unfold sizeR
  constructor
  · intro h
    (repeat' split at h) <;> omega
  · intro h
    rw [if_neg (by omega), if_neg (by omega), if_pos (by omega)]; rfl
theorem sizeU3 (v : Nat) : sizeR (v : Int) = ((2 : Nat) : Int) + 1 ↔ 2048 ≤ v ∧ v < 65536 ∧ (v < 55296 ∨ 57344 ≤ v) := by
  unfold sizeR
  constructor
  · intro h
    (repeat' split at h) <;> omega
  · intro h
    rw [if_neg (by omega), if_neg (by omega), if_neg (by omega), if_pos (by omega)]; rfl
theorem sizeU4 (v : Nat) : sizeR (v : Int) = ((3 : Nat) : Int) + 1 ↔ 65536 ≤ v ∧ v ≤ 1114111 := by
  unfold sizeR
  constructor
  · intro h
    (repeat' split at h) <;> omega
  · intro h
    rw [if_neg (by omega), if_neg (by omega), if_neg (by omega), if_neg (by omega)]; rfl
theorem dec1 (n b0 b1 b2 b3 v : Nat) (hs : 1 + 1 ≤ n) (h1 : 192 ≤ b0) (h2 : b0 < 224) (c1 : 128 ≤ b1 ∧ b1 ≤ 191) (ha : v = (b0 - 192) * 64 + b1 - 128) (hz : sizeR (v : Int) = ((1 : Nat) : Int) + 1 ↔ 128 ≤ v ∧ v < 2048) :
    decodeN n b0 b1 b2 b3 = if sizeR (v : Int) = ((1 : Nat) : Int) + 1 then (v, 1 + 1) else (65533, 1) := by
  have e1 : b0 / 32 = 6 := by omega
  have e2 : b1 / 64 = 2 := by omega
  have e3 : b0 % 32 * 64 + b1 % 64 = v := by omega
  unfold decodeN
  rw [if_neg (by omega), if_pos ⟨e1, by omega, e2⟩, e3]
  by_cases h : 128 ≤ v
  · rw [if_pos h, if_pos (hz.2 (by omega))]
  · rw [if_neg h, if_neg (fun e => h (hz.1 e).1)]
theorem dec2 (n b0 b1 b2 b3 v : Nat) (hs : 2 + 1 ≤ n) (h1 : 224 ≤ b0) (h2 : b0 < 240) (c1 : 128 ≤ b1 ∧ b1 ≤ 191) (c2 : 128 ≤ b2 ∧ b2 ≤ 191) (ha : v = ((b0 - 224) * 64 + b1 - 128) * 64 + b2 - 128) (hz : sizeR (v : Int) = ((2 : Nat) : Int) + 1 ↔ 2048 ≤ v ∧ v < 65536 ∧ (v < 55296 ∨ 57344 ≤ v)) :
    decodeN n b0 b1 b2 b3 = if sizeR (v : Int) = ((2 : Nat) : Int) + 1 then (v, 2 + 1) else (65533, 1) := by
  have e1 : b0 / 16 = 14 := by omega
  have e2 : b1 / 64 = 2 := by omega
  have e4 : b2 / 64 = 2 := by omega
  have e3 : b0 % 16 * 4096 + b1 % 64 * 64 + b2 % 64 = v := by omega
  unfold decodeN
  rw [if_neg (by omega), if_neg (by omega), if_pos ⟨e1, ⟨by omega, e2⟩, by omega, e4⟩, e3]
  by_cases h : sizeR (v : Int) = ((2 : Nat) : Int) + 1
  · have := hz.1 h
    rw [if_pos h, if_pos (by omega)]
  · have h5 : ¬ (2048 ≤ v ∧ v < 65536 ∧ (v < 55296 ∨ 57344 ≤ v)) := fun e => h (hz.2 e)
    rw [if_neg h, if_neg (by omega)]
theorem dec3 (n b0 b1 b2 b3 v : Nat) (hs : 3 + 1 ≤ n) (h1 : 240 ≤ b0) (h2 : b0 < 248) (c1 : 128 ≤ b1 ∧ b1 ≤ 191) (c2 : 128 ≤ b2 ∧ b2 ≤ 191) (c3 : 128 ≤ b3 ∧ b3 ≤ 191) (ha : v = (((b0 - 240) * 64 + b1 - 128) * 64 + b2 - 128) * 64 + b3 - 128) (hz : sizeR (v : Int) = ((3 : Nat) : Int) + 1 ↔ 65536 ≤ v ∧ v ≤ 1114111) :
    decodeN n b0 b1 b2 b3 = if sizeR (v : Int) = ((3 : Nat) : Int) + 1 then (v, 3 + 1) else (65533, 1) := by
  have e1 : b0 / 8 = 30 := by omega
  have e2 : b1 / 64 = 2 := by omega
  have e4 : b2 / 64 = 2 := by omega
  have e5 : b3 / 64 = 2 := by omega
  have e3 : b0 % 8 * 262144 + b1 % 64 * 4096 + b2 % 64 * 64 + b3 % 64 = v := by omega
  unfold decodeN
  rw [if_neg (by omega), if_neg (by omega), if_neg (by omega), if_pos ⟨e1, ⟨by omega, e2⟩, ⟨by omega, e4⟩, by omega, e5⟩, e3]
  by_cases h : sizeR (v : Int) = ((3 : Nat) : Int) + 1
  · have := hz.1 h
    rw [if_pos h, if_pos (by omega)]
  · have h5 : ¬ (65536 ≤ v ∧ v ≤ 1114111) := fun e => h (hz.2 e)
    rw [if_neg h, if_neg (by omega)]
set_option maxRecDepth 100000 in
set_option maxHeartbeats 2000000 in
theorem lead_all {l : List UInt8} {m n0 : Nat} (h : l ≠ []) (hl : Lead (byteN l 0) m n0) (hs : m + 1 ≤ l.length) (hc : ∀ j, 1 ≤ j → j ≤ m → 128 ≤ byteN l j ∧ byteN l j ≤ 191) :
    accN l n0 m ≤ 2097151 ∧ firstV l = if sizeR (accN l n0 m) = m + 1 then (accN l n0 m, m + 1) else (0, 0) := by
  rcases hl with ⟨rfl, h1, h2, rfl⟩ | ⟨rfl, h1, h2, rfl⟩ | ⟨rfl, h1, h2, rfl⟩
  · have c1 := hc 1 (by omega) (by omega)
    have ha : accN l (byteN l 0 - 192) 1 = (byteN l 0 - 192) * 64 + byteN l 1 - 128 := rfl
    generalize accN l (byteN l 0 - 192) 1 = v at *
    clear hc
    refine ⟨by omega, ?_⟩
    have hh : decodeN l.length (byteN l 0) (byteN l 1) (byteN l 2) (byteN l 3) = if sizeR (v : Int) = ((1 : Nat) : Int) + 1 then (v, 1 + 1) else (65533, 1) := by
      have hz := sizeU2 v
      exact dec1 _ _ _ _ _ v hs h1 h2 c1 ha hz
    by_cases hz : sizeR (v : Int) = ((1 : Nat) : Int) + 1
    · rw [if_pos hz]
      rw [if_pos hz] at hh
      exact firstV_good h hh (.inl (by omega))
    · rw [if_neg hz]
      rw [if_neg hz] at hh
      exact firstV_bad h hh
  · have c1 := hc 1 (by omega) (by omega)
    have c2 := hc 2 (by omega) (by omega)
    have ha : accN l (byteN l 0 - 224) 2 = ((byteN l 0 - 224) * 64 + byteN l 1 - 128) * 64 + byteN l 2 - 128 := rfl
    generalize accN l (byteN l 0 - 224) 2 = v at *
    clear hc
    refine ⟨by omega, ?_⟩
    have hh : decodeN l.length (byteN l 0) (byteN l 1) (byteN l 2) (byteN l 3) = if sizeR (v : Int) = ((2 : Nat) : Int) + 1 then (v, 2 + 1) else (65533, 1) := by
      have hz := sizeU3 v
      exact dec2 _ _ _ _ _ v hs h1 h2 c1 c2 ha hz
    by_cases hz : sizeR (v : Int) = ((2 : Nat) : Int) + 1
    · rw [if_pos hz]
      rw [if_pos hz] at hh
      exact firstV_good h hh (.inl (by omega))
    · rw [if_neg hz]
      rw [if_neg hz] at hh
      exact firstV_bad h hh
  · have c1 := hc 1 (by omega) (by omega)
    have c2 := hc 2 (by omega) (by omega)
    have c3 := hc 3 (by omega) (by omega)
    have ha : accN l (byteN l 0 - 240) 3 = (((byteN l 0 - 240) * 64 + byteN l 1 - 128) * 64 + byteN l 2 - 128) * 64 + byteN l 3 - 128 := rfl
    generalize accN l (byteN l 0 - 240) 3 = v at *
    clear hc
    refine ⟨by omega, ?_⟩
    have hh : decodeN l.length (byteN l 0) (byteN l 1) (byteN l 2) (byteN l 3) = if sizeR (v : Int) = ((3 : Nat) : Int) + 1 then (v, 3 + 1) else (65533, 1) := by
      have hz := sizeU4 v
      exact dec3 _ _ _ _ _ v hs h1 h2 c1 c2 c3 ha hz
    by_cases hz : sizeR (v : Int) = ((3 : Nat) : Int) + 1
    · rw [if_pos hz]
      rw [if_pos hz] at hh
      exact firstV_good h hh (.inl (by omega))
    · rw [if_neg hz]
      rw [if_neg hz] at hh
      exact firstV_bad h hh
theorem lead_none {l : List UInt8} (h : l ≠ []) (hb : (128 ≤ byteN l 0 ∧ byteN l 0 < 192) ∨ 248 ≤ byteN l 0) : firstV l = (0, 0) := by
  refine firstV_bad h ?_
  have := byteN_lt l 0
  unfold decodeN
  rcases hb with hb | hb <;> (repeat' split) <;> first | omega | rfl
theorem lead_one {l : List UInt8} (h : l ≠ []) (hb : byteN l 0 < 128) : firstV l = (byteN l 0, 1) := by
  refine firstV_good h ?_ (.inr (by omega))
  unfold decodeN
  rw [if_pos hb]

/-! ### the walks -/
theorem size01_calls (n : Int) (h0 : -1000 ≤ n) (h1 : n ≤ 3000000) (w : World) : Calls Tryd.prog 81 #[.int .i64 n] w fun e w' => e = .returned (.int .i64 (sizeR n)) ∧ Below w.heap.size w w' := by
  unfold sizeR
  by_cases a : n < 0 ∨ 1114111 < n ∨ (55296 ≤ n ∧ n ≤ 57343)
  · rw [if_pos a]
    rcases a with a | a | ⟨a, b⟩
    all_goals
      go_enter Tryd.func81, Tryd.ntmps81
      go_wp2
      go_ret
      exact ⟨rfl, Below.refl _ _⟩
  · rw [if_neg a]
    have a0 : 0 ≤ n := by omega
    have a1 : n ≤ 1114111 := by omega
    have a2 : n < 55296 ∨ 57344 ≤ n := by omega
    clear a
    by_cases b : n < 128
    · rw [if_pos b]
      go_enter Tryd.func81, Tryd.ntmps81
      go_wp2
      go_ret
      exact ⟨rfl, Below.refl _ _⟩
    · rw [if_neg b]
      by_cases c : n < 2048
      · rw [if_pos c]
        go_enter Tryd.func81, Tryd.ntmps81
        go_wp2
        go_ret
        exact ⟨rfl, Below.refl _ _⟩
      · rw [if_neg c]
        by_cases d : n < 65536
        · rw [if_pos d]
          rcases a2 with a2 | a2
          all_goals
            go_enter Tryd.func81, Tryd.ntmps81
            go_wp2
            go_ret
            exact ⟨rfl, Below.refl _ _⟩
        · rw [if_neg d]
          go_enter Tryd.func81, Tryd.ntmps81
          go_wp2
          go_ret
          exact ⟨rfl, Below.refl _ _⟩

theorem byte_at (s : ByteArray) (j : Nat) (h : j < s.size) : (s[j]).toNat = byteN s.data.toList j := by
  unfold byteN
  simp [List.getD, h]
  rfl
theorem bytes_ne {s : ByteArray} (h : 0 < s.size) : s.data.toList ≠ [] := by
  intro e
  have := congrArg List.length e
  rw [← size_eq, List.length_nil] at this
  omega
structure FirstInv (s : ByteArray) (m n0 : Nat) (vn vi : Value) : Prop where
  out : ∃ k : Nat, k ≤ m ∧ vi = .int .i64 (k + 1 : Nat) ∧ vn = .int .i64 (accN s.data.toList n0 k) ∧ ∀ j, 1 ≤ j → j ≤ k → 128 ≤ byteN s.data.toList j ∧ byteN s.data.toList j ≤ 191
theorem acc_small {l : List UInt8} {m n0 k : Nat} (hl : Lead (byteN l 0) m n0) (hk : k ≤ m) (hc : ∀ j, 1 ≤ j → j ≤ k → 128 ≤ byteN l j ∧ byteN l j ≤ 191) : accN l n0 k ≤ 2097151 ∧ (k < m → accN l n0 k ≤ 32767) := by
  have hm : m ≤ 3 := by rcases hl with ⟨e, _⟩ | ⟨e, _⟩ | ⟨e, _⟩ <;> omega
  have hk3 : k = 0 ∨ k = 1 ∨ k = 2 ∨ k = 3 := by omega
  rcases hk3 with rfl | rfl | rfl | rfl
  · have e : accN l n0 0 = n0 := rfl
    rw [e]
    rcases hl with ⟨_, h⟩ | ⟨_, h⟩ | ⟨_, h⟩ <;> omega
  · have c1 := hc 1 (by omega) (by omega)
    have e : accN l n0 1 = n0 * 64 + byteN l 1 - 128 := rfl
    rw [e]
    rcases hl with ⟨_, h⟩ | ⟨_, h⟩ | ⟨_, h⟩ <;> omega
  · have c1 := hc 1 (by omega) (by omega)
    have c2 := hc 2 (by omega) (by omega)
    have e : accN l n0 2 = (n0 * 64 + byteN l 1 - 128) * 64 + byteN l 2 - 128 := rfl
    rw [e]
    rcases hl with ⟨_, h⟩ | ⟨_, h⟩ | ⟨_, h⟩ <;> omega
  · have c1 := hc 1 (by omega) (by omega)
    have c2 := hc 2 (by omega) (by omega)
    have c3 := hc 3 (by omega) (by omega)
    have e : accN l n0 3 = ((n0 * 64 + byteN l 1 - 128) * 64 + byteN l 2 - 128) * 64 + byteN l 3 - 128 := rfl
    rw [e]
    rcases hl with ⟨_, h⟩ | ⟨_, h⟩ | ⟨_, h⟩ <;> omega
theorem acc_next (l : List UInt8) (n0 k : Nat) (h : 128 ≤ byteN l (k + 1)) : ((accN l n0 (k + 1) : Nat) : Int) = (accN l n0 k : Int) * 64 + byteN l (k + 1) - 128 := by
  show ((accN l n0 k * 64 + byteN l (k + 1) - 128 : Nat) : Int) = _
  omega
set_option maxRecDepth 100000 in
set_option maxHeartbeats 2000000 in
theorem first_calls (s : ByteArray) (w : World) (hs : s.size ≤ 9223372036854775807) :
    Calls Tryd.prog 96 #[.string s] w fun e w' => e = .returned (.tuple #[.int .i64 (firstV s.data.toList).1, .int .i64 (firstV s.data.toList).2]) ∧ Below w.heap.size w w' := by
  by_cases h0 : s.size = 0
  · have hf : firstV s.data.toList = (0, 0) := by
      have : s.data.toList = [] := List.eq_nil_of_length_eq_zero (by rw [← size_eq]; exact h0)
      rw [this]; rfl
    have HF := Lib.hid hf
    clear hf
    go_enter Tryd.func96, Tryd.ntmps96
    go_wp2
    exact bodyPost_ret (v := .tuple #[.int .i64 0, .int .i64 0]) (by simp [results, Tryd.results96, go_sem]) rfl ⟨by rw [HF.out]; rfl, Below.refl _ _⟩
  have hp : 0 < s.size := by omega
  have hne := bytes_ne hp
  have hb0 := byte_at s 0 hp
  have hbl := byteN_lt s.data.toList 0
  have hnz : ¬ s.size = 0 := h0
  clear h0
  by_cases c1 : byteN s.data.toList 0 < 128
  · have HF := Lib.hid (lead_one hne c1)
    have cz := size01_calls (byteN s.data.toList 0 : Nat) (by omega) (by omega) w
    rw [show sizeR ((byteN s.data.toList 0 : Nat) : Int) = 1 by unfold sizeR; rw [if_neg (by omega), if_pos (by omega)]] at cz
    go_enter Tryd.func96, Tryd.ntmps96
    go_wp2
    refine wp_loop_rounds 1 ?_
    rw [rounds_succ]
    go_wp2_with fail
    refine cz.mono ?_
    rintro e w1 ⟨rfl, hb⟩
    go_wp2_with fail
    exact bodyPost_ret (v := .tuple #[.int .i64 (byteN s.data.toList 0), .int .i64 1]) (by simp [results, Tryd.results96, go_sem]) rfl ⟨by rw [HF.out]; rfl, hb⟩
  by_cases c2 : byteN s.data.toList 0 < 192 ∨ 248 ≤ byteN s.data.toList 0
  · have HF := Lib.hid (lead_none hne (by omega))
    rcases c2 with c2 | c2
    all_goals
      go_enter Tryd.func96, Tryd.ntmps96
      go_wp2
      exact bodyPost_ret (v := .tuple #[.int .i64 0, .int .i64 0]) (by simp [results, Tryd.results96, go_sem]) rfl ⟨by rw [HF.out]; rfl, Below.refl _ _⟩
  by_cases c3 : byteN s.data.toList 0 < 224
  · skip
    have hLd : Lead (byteN s.data.toList 0) 1 (byteN s.data.toList 0 - 192) := .inl ⟨rfl, by omega, c3, rfl⟩
    have HL := Lib.hid hLd
    have hn0 : byteN s.data.toList 0 - 192 ≤ 31 := by omega
    clear hLd
    by_cases hsh : s.size < 1 + 1
    · have hf := lead_short hne HL.out (by rw [← size_eq]; exact hsh)
      have HF := Lib.hid hf
      clear hf
      go_enter Tryd.func96, Tryd.ntmps96
      go_wp2
      exact bodyPost_ret (v := .tuple #[.int .i64 0, .int .i64 0]) (by simp [results, Tryd.results96, go_sem]) rfl ⟨by rw [HF.out]; rfl, Below.refl _ _⟩
    · have hnc : (((byteN s.data.toList 0 - 192 : Nat)) : Int) = (byteN s.data.toList 0 : Int) - 192 := by omega
      have HNC := Lib.hid hnc
      clear hnc
      go_enter Tryd.func96, Tryd.ntmps96
      go_wp2
      go_loop [6, 7] (fun vn vi => FirstInv s 1 (byteN s.data.toList 0 - 192) vn vi) (fun _ vi => 10 - (RowKit.intOf vi).toNat)
      case atStart => exact ⟨0, by omega, rfl, by show _ = Value.int _ _; rw [show accN s.data.toList (byteN s.data.toList 0 - 192) 0 = byteN s.data.toList 0 - 192 from rfl, HNC.out], fun j h1 h2 => by omega⟩
      case round =>
        obtain ⟨k, hk, rfl, rfl, hct⟩ := hrel.out
        clear hrel
        obtain ⟨s1, s2⟩ := acc_small HL.out hk hct
        have HCT := Lib.hid hct
        by_cases hkm : k < 1
        · have hlt : k + 1 < s.size := by omega
          have hbk := byte_at s (k + 1) hlt
          have hbk2 := byteN_lt s.data.toList (k + 1)
          have s3 := s2 hkm
          clear hct s2
          by_cases hcb : 128 ≤ byteN s.data.toList (k + 1) ∧ byteN s.data.toList (k + 1) ≤ 191
          · have hnx := acc_next s.data.toList (byteN s.data.toList 0 - 192) k hcb.1
            have HNX := Lib.hid hnx
            obtain ⟨hcb1, hcb2⟩ := hcb
            clear hnx
            generalize hav : accN s.data.toList (byteN s.data.toList 0 - 192) k = av at *
            clear hav
            go_wp2
            go_round
            case rel =>
              have hrelN : FirstInv s 1 (byteN s.data.toList 0 - 192) (.int .i64 ((av : Int) * 64 + (byteN s.data.toList (k + 1) : Int) - 128)) (.int .i64 ((k : Int) + 1 + 1)) := ⟨k + 1, by omega, by go_num, by rw [HNX.out], fun j h1 h2 => by
                rcases Nat.lt_or_ge j (k + 1) with h | h
                · exact HCT.out j h1 (by omega)
                · obtain rfl : j = k + 1 := by omega
                  exact ⟨hcb1, hcb2⟩⟩
              first | exact hrelN | exact ⟨_, _, _, _, hrelN, rfl, rfl, rfl, rfl⟩
            case measure => simp [RowKit.intOf]; omega
          · have HF := Lib.hid (lead_cont hne HL.out (by omega : 1 ≤ k + 1) (by omega) (by omega))
            generalize accN s.data.toList (byteN s.data.toList 0 - 192) k = av at *
            have hcc : byteN s.data.toList (k + 1) < 128 ∨ 191 < byteN s.data.toList (k + 1) := by omega
            clear hcb
            rcases hcc with hcc | hcc
            all_goals
              go_wp2
              exact bodyPost_ret (v := .tuple #[.int .i64 0, .int .i64 0]) (by simp [results, Tryd.results96, go_sem]) rfl ⟨by rw [HF.out]; rfl, Below.refl _ _⟩
        · obtain rfl : k = 1 := by omega
          obtain ⟨_, hf⟩ := lead_all hne HL.out (by rw [← size_eq]; omega) hct
          have cz := size01_calls (accN s.data.toList (byteN s.data.toList 0 - 192) 1 : Nat) (by omega) (by omega) w
          have HF := Lib.hid hf
          clear hf hct s2
          by_cases hz : sizeR ((accN s.data.toList (byteN s.data.toList 0 - 192) 1 : Nat) : Int) = ((1 : Nat) : Int) + 1
          · rw [hz] at cz
            have HF2 : Hid (firstV s.data.toList = (accN s.data.toList (byteN s.data.toList 0 - 192) 1, 1 + 1)) := by show _ = _; rw [HF.out, if_pos hz]
            clear hz HF
            generalize accN s.data.toList (byteN s.data.toList 0 - 192) 1 = av at *
            go_wp2_with fail
            refine cz.mono ?_
            rintro e w1 ⟨rfl, hb⟩
            go_wp2_with fail
            exact bodyPost_ret (v := .tuple #[.int .i64 av, .int .i64 (1 + 1)]) (by simp [results, Tryd.results96, go_sem]) rfl ⟨by rw [HF2.out]; rfl, hb⟩
          · have HF2 : Hid (firstV s.data.toList = (0, 0)) := by show _ = _; rw [HF.out, if_neg hz]
            have hzb : (sizeR ((accN s.data.toList (byteN s.data.toList 0 - 192) 1 : Nat) : Int) != (1 + 1)) = true := by simpa using hz
            generalize sizeR ((accN s.data.toList (byteN s.data.toList 0 - 192) 1 : Nat) : Int) = z at *
            clear hz HF
            generalize accN s.data.toList (byteN s.data.toList 0 - 192) 1 = av at *
            go_wp2_with fail
            refine cz.mono ?_
            rintro e w1 ⟨rfl, hb⟩
            go_wp2_with fail
            exact bodyPost_ret (v := .tuple #[.int .i64 0, .int .i64 0]) (by simp [results, Tryd.results96, go_sem]) rfl ⟨by rw [HF2.out]; rfl, hb⟩
  · by_cases c4 : byteN s.data.toList 0 < 240
    · skip
      have hLd : Lead (byteN s.data.toList 0) 2 (byteN s.data.toList 0 - 224) := .inr (.inl ⟨rfl, by omega, c4, rfl⟩)
      have HL := Lib.hid hLd
      have hn0 : byteN s.data.toList 0 - 224 ≤ 31 := by omega
      clear hLd
      by_cases hsh : s.size < 2 + 1
      · have hf := lead_short hne HL.out (by rw [← size_eq]; exact hsh)
        have HF := Lib.hid hf
        clear hf
        go_enter Tryd.func96, Tryd.ntmps96
        go_wp2
        exact bodyPost_ret (v := .tuple #[.int .i64 0, .int .i64 0]) (by simp [results, Tryd.results96, go_sem]) rfl ⟨by rw [HF.out]; rfl, Below.refl _ _⟩
      · have hnc : (((byteN s.data.toList 0 - 224 : Nat)) : Int) = (byteN s.data.toList 0 : Int) - 224 := by omega
        have HNC := Lib.hid hnc
        clear hnc
        go_enter Tryd.func96, Tryd.ntmps96
        go_wp2
        go_loop [6, 7] (fun vn vi => FirstInv s 2 (byteN s.data.toList 0 - 224) vn vi) (fun _ vi => 10 - (RowKit.intOf vi).toNat)
        case atStart => exact ⟨0, by omega, rfl, by show _ = Value.int _ _; rw [show accN s.data.toList (byteN s.data.toList 0 - 224) 0 = byteN s.data.toList 0 - 224 from rfl, HNC.out], fun j h1 h2 => by omega⟩
        case round =>
          obtain ⟨k, hk, rfl, rfl, hct⟩ := hrel.out
          clear hrel
          obtain ⟨s1, s2⟩ := acc_small HL.out hk hct
          have HCT := Lib.hid hct
          by_cases hkm : k < 2
          · have hlt : k + 1 < s.size := by omega
            have hbk := byte_at s (k + 1) hlt
            have hbk2 := byteN_lt s.data.toList (k + 1)
            have s3 := s2 hkm
            clear hct s2
            by_cases hcb : 128 ≤ byteN s.data.toList (k + 1) ∧ byteN s.data.toList (k + 1) ≤ 191
            · have hnx := acc_next s.data.toList (byteN s.data.toList 0 - 224) k hcb.1
              have HNX := Lib.hid hnx
              obtain ⟨hcb1, hcb2⟩ := hcb
              clear hnx
              generalize hav : accN s.data.toList (byteN s.data.toList 0 - 224) k = av at *
              clear hav
              go_wp2
              go_round
              case rel =>
                have hrelN : FirstInv s 2 (byteN s.data.toList 0 - 224) (.int .i64 ((av : Int) * 64 + (byteN s.data.toList (k + 1) : Int) - 128)) (.int .i64 ((k : Int) + 1 + 1)) := ⟨k + 1, by omega, by go_num, by rw [HNX.out], fun j h1 h2 => by
                  rcases Nat.lt_or_ge j (k + 1) with h | h
                  · exact HCT.out j h1 (by omega)
                  · obtain rfl : j = k + 1 := by omega
                    exact ⟨hcb1, hcb2⟩⟩
                first | exact hrelN | exact ⟨_, _, _, _, hrelN, rfl, rfl, rfl, rfl⟩
              case measure => simp [RowKit.intOf]; omega
            · have HF := Lib.hid (lead_cont hne HL.out (by omega : 1 ≤ k + 1) (by omega) (by omega))
              generalize accN s.data.toList (byteN s.data.toList 0 - 224) k = av at *
              have hcc : byteN s.data.toList (k + 1) < 128 ∨ 191 < byteN s.data.toList (k + 1) := by omega
              clear hcb
              rcases hcc with hcc | hcc
              all_goals
                go_wp2
                exact bodyPost_ret (v := .tuple #[.int .i64 0, .int .i64 0]) (by simp [results, Tryd.results96, go_sem]) rfl ⟨by rw [HF.out]; rfl, Below.refl _ _⟩
          · obtain rfl : k = 2 := by omega
            obtain ⟨_, hf⟩ := lead_all hne HL.out (by rw [← size_eq]; omega) hct
            have cz := size01_calls (accN s.data.toList (byteN s.data.toList 0 - 224) 2 : Nat) (by omega) (by omega) w
            have HF := Lib.hid hf
            clear hf hct s2
            by_cases hz : sizeR ((accN s.data.toList (byteN s.data.toList 0 - 224) 2 : Nat) : Int) = ((2 : Nat) : Int) + 1
            · rw [hz] at cz
              have HF2 : Hid (firstV s.data.toList = (accN s.data.toList (byteN s.data.toList 0 - 224) 2, 2 + 1)) := by show _ = _; rw [HF.out, if_pos hz]
              clear hz HF
              generalize accN s.data.toList (byteN s.data.toList 0 - 224) 2 = av at *
              go_wp2_with fail
              refine cz.mono ?_
              rintro e w1 ⟨rfl, hb⟩
              go_wp2_with fail
              exact bodyPost_ret (v := .tuple #[.int .i64 av, .int .i64 (2 + 1)]) (by simp [results, Tryd.results96, go_sem]) rfl ⟨by rw [HF2.out]; rfl, hb⟩
            · have HF2 : Hid (firstV s.data.toList = (0, 0)) := by show _ = _; rw [HF.out, if_neg hz]
              have hzb : (sizeR ((accN s.data.toList (byteN s.data.toList 0 - 224) 2 : Nat) : Int) != (2 + 1)) = true := by simpa using hz
              generalize sizeR ((accN s.data.toList (byteN s.data.toList 0 - 224) 2 : Nat) : Int) = z at *
              clear hz HF
              generalize accN s.data.toList (byteN s.data.toList 0 - 224) 2 = av at *
              go_wp2_with fail
              refine cz.mono ?_
              rintro e w1 ⟨rfl, hb⟩
              go_wp2_with fail
              exact bodyPost_ret (v := .tuple #[.int .i64 0, .int .i64 0]) (by simp [results, Tryd.results96, go_sem]) rfl ⟨by rw [HF2.out]; rfl, hb⟩
    · skip
      have hLd : Lead (byteN s.data.toList 0) 3 (byteN s.data.toList 0 - 240) := .inr (.inr ⟨rfl, by omega, by omega, rfl⟩)
      have HL := Lib.hid hLd
      have hn0 : byteN s.data.toList 0 - 240 ≤ 31 := by omega
      clear hLd
      by_cases hsh : s.size < 3 + 1
      · have hf := lead_short hne HL.out (by rw [← size_eq]; exact hsh)
        have HF := Lib.hid hf
        clear hf
        go_enter Tryd.func96, Tryd.ntmps96
        go_wp2
        exact bodyPost_ret (v := .tuple #[.int .i64 0, .int .i64 0]) (by simp [results, Tryd.results96, go_sem]) rfl ⟨by rw [HF.out]; rfl, Below.refl _ _⟩
      · have hnc : (((byteN s.data.toList 0 - 240 : Nat)) : Int) = (byteN s.data.toList 0 : Int) - 240 := by omega
        have HNC := Lib.hid hnc
        clear hnc
        go_enter Tryd.func96, Tryd.ntmps96
        go_wp2
        go_loop [6, 7] (fun vn vi => FirstInv s 3 (byteN s.data.toList 0 - 240) vn vi) (fun _ vi => 10 - (RowKit.intOf vi).toNat)
        case atStart => exact ⟨0, by omega, rfl, by show _ = Value.int _ _; rw [show accN s.data.toList (byteN s.data.toList 0 - 240) 0 = byteN s.data.toList 0 - 240 from rfl, HNC.out], fun j h1 h2 => by omega⟩
        case round =>
          obtain ⟨k, hk, rfl, rfl, hct⟩ := hrel.out
          clear hrel
          obtain ⟨s1, s2⟩ := acc_small HL.out hk hct
          have HCT := Lib.hid hct
          by_cases hkm : k < 3
          · have hlt : k + 1 < s.size := by omega
            have hbk := byte_at s (k + 1) hlt
            have hbk2 := byteN_lt s.data.toList (k + 1)
            have s3 := s2 hkm
            clear hct s2
            by_cases hcb : 128 ≤ byteN s.data.toList (k + 1) ∧ byteN s.data.toList (k + 1) ≤ 191
            · have hnx := acc_next s.data.toList (byteN s.data.toList 0 - 240) k hcb.1
              have HNX := Lib.hid hnx
              obtain ⟨hcb1, hcb2⟩ := hcb
              clear hnx
              generalize hav : accN s.data.toList (byteN s.data.toList 0 - 240) k = av at *
              clear hav
              go_wp2
              go_round
              case rel =>
                have hrelN : FirstInv s 3 (byteN s.data.toList 0 - 240) (.int .i64 ((av : Int) * 64 + (byteN s.data.toList (k + 1) : Int) - 128)) (.int .i64 ((k : Int) + 1 + 1)) := ⟨k + 1, by omega, by go_num, by rw [HNX.out], fun j h1 h2 => by
                  rcases Nat.lt_or_ge j (k + 1) with h | h
                  · exact HCT.out j h1 (by omega)
                  · obtain rfl : j = k + 1 := by omega
                    exact ⟨hcb1, hcb2⟩⟩
                first | exact hrelN | exact ⟨_, _, _, _, hrelN, rfl, rfl, rfl, rfl⟩
              case measure => simp [RowKit.intOf]; omega
            · have HF := Lib.hid (lead_cont hne HL.out (by omega : 1 ≤ k + 1) (by omega) (by omega))
              generalize accN s.data.toList (byteN s.data.toList 0 - 240) k = av at *
              have hcc : byteN s.data.toList (k + 1) < 128 ∨ 191 < byteN s.data.toList (k + 1) := by omega
              clear hcb
              rcases hcc with hcc | hcc
              all_goals
                go_wp2
                exact bodyPost_ret (v := .tuple #[.int .i64 0, .int .i64 0]) (by simp [results, Tryd.results96, go_sem]) rfl ⟨by rw [HF.out]; rfl, Below.refl _ _⟩
          · obtain rfl : k = 3 := by omega
            obtain ⟨_, hf⟩ := lead_all hne HL.out (by rw [← size_eq]; omega) hct
            have cz := size01_calls (accN s.data.toList (byteN s.data.toList 0 - 240) 3 : Nat) (by omega) (by omega) w
            have HF := Lib.hid hf
            clear hf hct s2
            by_cases hz : sizeR ((accN s.data.toList (byteN s.data.toList 0 - 240) 3 : Nat) : Int) = ((3 : Nat) : Int) + 1
            · rw [hz] at cz
              have HF2 : Hid (firstV s.data.toList = (accN s.data.toList (byteN s.data.toList 0 - 240) 3, 3 + 1)) := by show _ = _; rw [HF.out, if_pos hz]
              clear hz HF
              generalize accN s.data.toList (byteN s.data.toList 0 - 240) 3 = av at *
              go_wp2_with fail
              refine cz.mono ?_
              rintro e w1 ⟨rfl, hb⟩
              go_wp2_with fail
              exact bodyPost_ret (v := .tuple #[.int .i64 av, .int .i64 (3 + 1)]) (by simp [results, Tryd.results96, go_sem]) rfl ⟨by rw [HF2.out]; rfl, hb⟩
            · have HF2 : Hid (firstV s.data.toList = (0, 0)) := by show _ = _; rw [HF.out, if_neg hz]
              have hzb : (sizeR ((accN s.data.toList (byteN s.data.toList 0 - 240) 3 : Nat) : Int) != (3 + 1)) = true := by simpa using hz
              generalize sizeR ((accN s.data.toList (byteN s.data.toList 0 - 240) 3 : Nat) : Int) = z at *
              clear hz HF
              generalize accN s.data.toList (byteN s.data.toList 0 - 240) 3 = av at *
              go_wp2_with fail
              refine cz.mono ?_
              rintro e w1 ⟨rfl, hb⟩
              go_wp2_with fail
              exact bodyPost_ret (v := .tuple #[.int .i64 0, .int .i64 0]) (by simp [results, Tryd.results96, go_sem]) rfl ⟨by rw [HF2.out]; rfl, hb⟩

end Go.Proofs.YtmfpfipjhhfbhaaDoor
