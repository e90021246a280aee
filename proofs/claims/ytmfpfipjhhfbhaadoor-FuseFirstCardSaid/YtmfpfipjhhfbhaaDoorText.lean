/- Texts as code points: a string that is valid UTF-8 is the encoding of its code points, and each list of code points has one encoding. No program in sight. -/
import Derived.Lib.RuneCount
import Derived.Lib.ValidLaws
import Derived.Lib.MapLaws
import Derived.Lib.TrimUEq
import Derived.Laws.Cover4
namespace Go.Proofs.YtmfpfipjhhfbhaaDoor
open Go.Lib

/-- A code point. -/
def goodC (c : Nat) : Prop := c < 55296 ∨ (57344 ≤ c ∧ c ≤ 1114111)
def encL (cs : List Nat) : List UInt8 := cs.flatMap fun (c : Nat) => encodeRune (c : Int)
/-- The text of some code points. -/
def encB (cs : List Nat) : ByteArray := ⟨(encL cs).toArray⟩
def cpsF : Nat → List UInt8 → List Nat
  | 0, _ => []
  | n + 1, l => if l = [] then [] else (decodeL l).1 :: cpsF n (l.drop (decodeL l).2)
def cpsL (l : List UInt8) : List Nat := cpsF l.length l
/-- A text's code points. -/
def cps (t : ByteArray) : List Nat := cpsL t.data.toList

theorem encL_append (a b : List Nat) : encL (a ++ b) = encL a ++ encL b := by simp [encL]
theorem encB_append (a b : List Nat) : encB (a ++ b) = encB a ++ encB b := by
  apply ByteArray.ext
  apply Array.ext'
  simp [encB, encL_append]
theorem encB_nil : encB [] = ⟨#[]⟩ := rfl
theorem encB_data (cs : List Nat) : (encB cs).data.toList = encL cs := by simp [encB]
theorem encB_size (cs : List Nat) : (encB cs).size = (encL cs).length := by simp [encB, ByteArray.size]

theorem cpsF_nil (n : Nat) : cpsF n [] = [] := by cases n <;> simp [cpsF]
theorem cpsF_fuel : ∀ (n m : Nat) (l : List UInt8), l.length ≤ n → l.length ≤ m → cpsF n l = cpsF m l
  | 0, m, l, hn, _ => by
    obtain rfl : l = [] := List.eq_nil_of_length_eq_zero (by omega)
    rw [cpsF_nil, cpsF_nil]
  | n + 1, 0, l, _, hm => by
    obtain rfl : l = [] := List.eq_nil_of_length_eq_zero (by omega)
    rw [cpsF_nil, cpsF_nil]
  | n + 1, m + 1, l, hn, hm => by
    simp only [cpsF]
    split
    · rfl
    · rename_i hne
      have hw := decodeL_width l
      have hp := List.length_pos_iff.2 hne
      rw [cpsF_fuel n m _ (by rw [List.length_drop]; omega) (by rw [List.length_drop]; omega)]
theorem cpsL_step (l : List UInt8) (hne : l ≠ []) : cpsL l = (decodeL l).1 :: cpsL (l.drop (decodeL l).2) := by
  have hp := List.length_pos_iff.2 hne
  have hw := decodeL_width l
  obtain ⟨m, hm⟩ : ∃ m, l.length = m + 1 := ⟨l.length - 1, by omega⟩
  unfold cpsL
  rw [hm]
  simp only [cpsF]
  rw [if_neg hne, cpsF_fuel m _ _ (by rw [List.length_drop]; omega) (Nat.le_refl _)]

/-- Decoding what was encoded. -/
theorem decode_encode (c : Nat) (h : goodC c) (t : List UInt8) : decodeL (encodeRune (c : Int) ++ t) = (c, (encodeRune (c : Int)).length) := by
  rw [decodeL_N]
  unfold goodC at h
  have hc : c ≤ 127 ∨ (128 ≤ c ∧ c ≤ 2047) ∨ ((2048 ≤ c ∧ c < 55296) ∨ (57343 < c ∧ c ≤ 65535)) ∨ (65536 ≤ c ∧ c ≤ 1114111) := by omega
  have tb : ∀ n : Nat, n < 256 → ((n : Int).toNat.toUInt8).toNat = n := by
    intro n hn
    simp [Nat.mod_eq_of_lt hn]
  rcases hc with hc | hc | hc | hc
  · have e : encodeRune (c : Int) = [(c : Int).toNat.toUInt8] := by unfold encodeRune; rw [encodeRuneZ_one (by omega) (by omega)]; rfl
    rw [e]
    have h0 := tb c (by omega)
    simp only [List.cons_append, List.nil_append, List.getD_cons_zero, h0]
    unfold decodeN
    rw [if_pos (by omega)]
    rfl
  · have e : encodeRune (c : Int) = [((192 + c / 64 : Nat) : Int).toNat.toUInt8, ((128 + c % 64 : Nat) : Int).toNat.toUInt8] := by
      unfold encodeRune; rw [encodeRuneZ_two (by omega) (by omega)]; rfl
    rw [e]
    have h0 := tb (192 + c / 64) (by omega)
    have h1 := tb (128 + c % 64) (by omega)
    simp only [List.cons_append, List.nil_append, List.getD_cons_zero, List.getD_cons_succ, h0, h1, List.length_cons]
    unfold decodeN
    rw [if_neg (by omega), if_pos (by omega), if_pos (by omega)]
    simp only [List.length_nil, Prod.mk.injEq, and_true]
    omega
  · have e : encodeRune (c : Int) = [((224 + c / 4096 : Nat) : Int).toNat.toUInt8, ((128 + c / 64 % 64 : Nat) : Int).toNat.toUInt8, ((128 + c % 64 : Nat) : Int).toNat.toUInt8] := by
      unfold encodeRune; rw [encodeRuneZ_three (by omega)]; rfl
    rw [e]
    have h0 := tb (224 + c / 4096) (by omega)
    have h1 := tb (128 + c / 64 % 64) (by omega)
    have h2 := tb (128 + c % 64) (by omega)
    simp only [List.cons_append, List.nil_append, List.getD_cons_zero, List.getD_cons_succ, h0, h1, h2, List.length_cons]
    unfold decodeN
    rw [if_neg (by omega), if_neg (by omega), if_pos (by omega), if_pos (by omega)]
    simp only [List.length_nil, Prod.mk.injEq, and_true]
    omega
  · have e : encodeRune (c : Int) = [((240 + c / 262144 : Nat) : Int).toNat.toUInt8, ((128 + c / 4096 % 64 : Nat) : Int).toNat.toUInt8, ((128 + c / 64 % 64 : Nat) : Int).toNat.toUInt8, ((128 + c % 64 : Nat) : Int).toNat.toUInt8] := by
      unfold encodeRune; rw [encodeRuneZ_four (by omega) (by omega)]; rfl
    rw [e]
    have h0 := tb (240 + c / 262144) (by omega)
    have h1 := tb (128 + c / 4096 % 64) (by omega)
    have h2 := tb (128 + c / 64 % 64) (by omega)
    have h3 := tb (128 + c % 64) (by omega)
    simp only [List.cons_append, List.nil_append, List.getD_cons_zero, List.getD_cons_succ, h0, h1, h2, h3, List.length_cons]
    unfold decodeN
    rw [if_neg (by omega), if_neg (by omega), if_neg (by omega), if_pos (by omega), if_pos (by omega)]
    simp only [List.length_nil, Prod.mk.injEq, and_true]
    omega
theorem encodeRune_length (c : Nat) : 1 ≤ (encodeRune (c : Int)).length ∧ (encodeRune (c : Int)).length ≤ 4 := by
  have := encodeRuneZ_length (c : Int)
  simpa [encodeRune] using this
theorem encodeRune_ne (c : Nat) (t : List UInt8) : encodeRune (c : Int) ++ t ≠ [] := by
  intro h
  have := (encodeRune_length c).1
  have h2 := congrArg List.length h
  rw [List.length_append, List.length_nil] at h2
  omega
theorem not_bad (c : Nat) (h : goodC c) (t : List UInt8) : ¬ ((decodeL (encodeRune (c : Int) ++ t)).1 = 65533 ∧ (decodeL (encodeRune (c : Int) ++ t)).2 = 1) := by
  rw [decode_encode c h]
  rintro ⟨h1, h2⟩
  simp only at h1 h2
  subst h1
  revert h2
  decide
theorem validD_enc : ∀ cs : List Nat, (∀ c ∈ cs, goodC c) → validD (encL cs) = true
  | [], _ => rfl
  | c :: cs, h => by
    have hc := h c (by simp)
    show validD (encodeRune (c : Int) ++ encL cs) = true
    rw [validD_step _ (encodeRune_ne c _), if_neg (not_bad c hc _), decode_encode c hc]
    simp only [List.drop_left]
    exact validD_enc cs (fun x hx => h x (by simp [hx]))
theorem cpsL_enc : ∀ cs : List Nat, (∀ c ∈ cs, goodC c) → cpsL (encL cs) = cs
  | [], _ => rfl
  | c :: cs, h => by
    have hc := h c (by simp)
    show cpsL (encodeRune (c : Int) ++ encL cs) = _
    rw [cpsL_step _ (encodeRune_ne c _), decode_encode c hc]
    simp only [List.drop_left]
    rw [cpsL_enc cs (fun x hx => h x (by simp [hx]))]
theorem good_decode (l : List UInt8) : goodC (decodeL l).1 := by
  rw [decodeL_N]
  unfold goodC
  unfold decodeN
  repeat' split
  all_goals (simp only; omega)
/-- A valid text is the encoding of its code points. -/
theorem enc_cpsL : ∀ (n : Nat) (l : List UInt8), l.length ≤ n → validD l = true → encL (cpsL l) = l ∧ ∀ c ∈ cpsL l, goodC c
  | 0, l, hn, _ => by
    obtain rfl : l = [] := List.eq_nil_of_length_eq_zero (by omega)
    exact ⟨rfl, fun c hc => by simp [cpsL, cpsF] at hc⟩
  | n + 1, l, hn, hv => by
    by_cases hne : l = []
    · subst hne
      exact ⟨rfl, fun c hc => by simp [cpsL, cpsF] at hc⟩
    · have hp := List.length_pos_iff.2 hne
      have hw := decodeL_width l
      rw [validD_step l hne] at hv
      split at hv
      · cases hv
      · rename_i hb
        obtain ⟨h1, h2⟩ := enc_cpsL n (l.drop (decodeL l).2) (by rw [List.length_drop]; omega) hv
        rw [cpsL_step l hne]
        refine ⟨?_, ?_⟩
        · show encodeRune _ ++ encL _ = _
          rw [h1, encode_decode l hne hb, List.take_append_drop]
        · intro c hc
          rcases List.mem_cons.1 hc with rfl | hc
          · exact good_decode l
          · exact h2 c hc
theorem enc_cps (t : ByteArray) (h : validD t.data.toList = true) : encB (cps t) = t ∧ ∀ c ∈ cps t, goodC c := by
  obtain ⟨h1, h2⟩ := enc_cpsL _ _ (Nat.le_refl _) h
  refine ⟨?_, h2⟩
  apply ByteArray.ext
  apply Array.ext'
  simpa [encB, cps] using h1
theorem cps_enc (cs : List Nat) (h : ∀ c ∈ cs, goodC c) : cps (encB cs) = cs := by
  unfold cps
  rw [encB_data]
  exact cpsL_enc cs h
theorem validD_encB (cs : List Nat) (h : ∀ c ∈ cs, goodC c) : validD (encB cs).data.toList = true := by
  rw [encB_data]; exact validD_enc cs h
theorem cps_nil : cps ⟨#[]⟩ = [] := rfl
theorem cps_append (s t : ByteArray) (hs : validD s.data.toList = true) (ht : validD t.data.toList = true) : cps (s ++ t) = cps s ++ cps t ∧ validD (s ++ t).data.toList = true := by
  obtain ⟨a1, a2⟩ := enc_cps s hs
  obtain ⟨b1, b2⟩ := enc_cps t ht
  have hg : ∀ c ∈ cps s ++ cps t, goodC c := by
    intro c hc
    rcases List.mem_append.1 hc with h | h
    · exact a2 c h
    · exact b2 c h
  have e : s ++ t = encB (cps s ++ cps t) := by rw [encB_append, a1, b1]
  rw [e]
  exact ⟨cps_enc _ hg, validD_encB _ hg⟩
/-- The range over a string counts the code points. -/
theorem count_cps : ∀ (n : Nat) (t : ByteArray) (pos : Nat), t.size ≤ pos + n → runeCountFrom t n pos = (cpsF n (t.data.toList.drop pos)).length
  | 0, t, pos, h => by simp [runeCountFrom, cpsF]
  | n + 1, t, pos, h => by
    by_cases hp : pos < t.size
    · have hne : t.data.toList.drop pos ≠ [] := by
        intro he
        have := congrArg List.length he
        rw [List.length_drop, ← size_eq] at this
        simp at this
        omega
      have hw := width_pos t pos
      simp only [runeCountFrom, hp, if_true, cpsF]
      rw [if_neg hne, decodeL_drop, List.drop_drop, count_cps n t _ (by omega)]
      simp [Nat.add_comm]
    · rw [runeCountFrom_end _ _ _ hp, List.drop_of_length_le (by rw [← size_eq]; omega), cpsF_nil]
      rfl
theorem runeCount_cps (t : ByteArray) : runeCount t = (cps t).length := by
  unfold runeCount cps cpsL
  rw [count_cps _ _ _ (by omega), List.drop_zero, ← size_eq]
theorem encL_length (cs : List Nat) : cs.length ≤ (encL cs).length ∧ (encL cs).length ≤ 4 * cs.length := by
  induction cs with
  | nil => simp [encL]
  | cons c cs ih =>
    have := encodeRune_length c
    simp only [encL, List.flatMap_cons, List.length_append, List.length_cons] at ih ⊢
    omega
theorem cps_length_le (t : ByteArray) (h : validD t.data.toList = true) : (cps t).length ≤ t.size ∧ t.size ≤ 4 * (cps t).length := by
  obtain ⟨a1, _⟩ := enc_cps t h
  have := encL_length (cps t)
  rw [← encB_size, a1] at this
  exact this
theorem cps_eq_nil (t : ByteArray) (h : validD t.data.toList = true) : cps t = [] ↔ t.size = 0 := by
  have := cps_length_le t h
  constructor
  · intro h0; rw [h0, List.length_nil] at this; omega
  · intro h0; exact List.eq_nil_of_length_eq_zero (by omega)

end Go.Proofs.YtmfpfipjhhfbhaaDoor
