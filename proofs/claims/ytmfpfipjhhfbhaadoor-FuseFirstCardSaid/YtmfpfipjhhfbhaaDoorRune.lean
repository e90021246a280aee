/- Between texts and rows of code points: what '[]rune(s)' and 'string(rs)' are. -/
import Derived.Test.YtmfpfipjhhfbhaaDoorAtoms
import Derived.Laws.Cover4
import Derived.Laws.IdiomStrings
namespace Go.Proofs.YtmfpfipjhhfbhaaDoor
open Go.Lib Go.RowKit Go.Proofs.YtmfpfipjhhfbhaaDoorW.PrintWords

theorem encode_rune (c : Nat) (h : goodC c) : Utf8.encode (c : Int) = ⟨(encodeRune (c : Int)).toArray⟩ := by
  unfold goodC at h
  have hv : Utf8.valid (c : Int) = true := by simp [Utf8.valid]; omega
  have hc : c ≤ 127 ∨ (128 ≤ c ∧ c ≤ 2047) ∨ ((2048 ≤ c ∧ c < 55296) ∨ (57343 < c ∧ c ≤ 65535)) ∨ (65536 ≤ c ∧ c ≤ 1114111) := by omega
  unfold Utf8.encode
  simp only [hv, if_true, Int.toNat_natCast]
  rcases hc with hc | hc | hc | hc
  · have e : encodeRune (c : Int) = [(c : Int).toNat.toUInt8] := by unfold encodeRune; rw [encodeRuneZ_one (by omega) (by omega)]; rfl
    rw [e, if_pos (by omega)]; rfl
  · have e : encodeRune (c : Int) = [((192 + c / 64 : Nat) : Int).toNat.toUInt8, ((128 + c % 64 : Nat) : Int).toNat.toUInt8] := by
      unfold encodeRune; rw [encodeRuneZ_two (by omega) (by omega)]; rfl
    rw [e, if_neg (by omega), if_pos (by omega)]; rfl
  · have e : encodeRune (c : Int) = [((224 + c / 4096 : Nat) : Int).toNat.toUInt8, ((128 + c / 64 % 64 : Nat) : Int).toNat.toUInt8, ((128 + c % 64 : Nat) : Int).toNat.toUInt8] := by
      unfold encodeRune; rw [encodeRuneZ_three (by omega)]; rfl
    rw [e, if_neg (by omega), if_neg (by omega), if_pos (by omega)]; rfl
  · have e : encodeRune (c : Int) = [((240 + c / 262144 : Nat) : Int).toNat.toUInt8, ((128 + c / 4096 % 64 : Nat) : Int).toNat.toUInt8, ((128 + c / 64 % 64 : Nat) : Int).toNat.toUInt8, ((128 + c % 64 : Nat) : Int).toNat.toUInt8] := by
      unfold encodeRune; rw [encodeRuneZ_four (by omega) (by omega)]; rfl
    rw [e, if_neg (by omega), if_neg (by omega), if_neg (by omega)]; rfl
/-- The runes of a text, as cells. -/
def runeCells' (cs : List Nat) : List Value := cs.map fun (c : Nat) => Value.int .i32 (c : Int)
theorem runesFrom_cps : ∀ (n : Nat) (t : ByteArray) (pos : Nat) (acc : Array Value), Conv.runesFrom t n pos acc = acc ++ (runeCells' (cpsF n (t.data.toList.drop pos))).toArray
  | 0, t, pos, acc => by simp [Conv.runesFrom, cpsF, runeCells']
  | n + 1, t, pos, acc => by
    by_cases hp : pos < t.size
    · have hne : t.data.toList.drop pos ≠ [] := by
        intro he
        have := congrArg List.length he
        rw [List.length_drop, ← size_eq] at this
        simp at this
        omega
      unfold Conv.runesFrom
      rw [if_pos hp]
      simp only [cpsF]
      rw [if_neg hne, decodeL_drop, List.drop_drop, runesFrom_cps n t _ _]
      simp [runeCells']
    · unfold Conv.runesFrom
      rw [if_neg hp, List.drop_of_length_le (by rw [← size_eq]; omega), cpsF_nil]
      simp [runeCells']
theorem runes_cps (t : ByteArray) : Conv.runesFrom t t.size 0 #[] = (runeCells' (cps t)).toArray := by
  rw [runesFrom_cps]
  unfold cps cpsL
  rw [List.drop_zero, ← size_eq]
  simp
theorem runesBytes_enc : ∀ cs : List Nat, (∀ c ∈ cs, goodC c) → runesBytes (cs.map fun (c : Nat) => (c : Int)) = encB cs := by
  have key : ∀ (cs : List Nat) (r : ByteArray), (∀ c ∈ cs, goodC c) → (cs.map fun (c : Nat) => (c : Int)).foldl (fun r n => r ++ Utf8.encode n) r = r ++ encB cs := by
    intro cs
    induction cs with
    | nil => intro r _; simp only [List.map_nil, List.foldl_nil, encB_nil]; exact (bytes_append_nil r).symm
    | cons c cs ih =>
      intro r h
      simp only [List.map_cons, List.foldl_cons]
      rw [ih _ (fun x hx => h x (by simp [hx])), encode_rune c (h c (by simp)), bytes_assoc]
      congr 1
  intro cs h
  unfold runesBytes
  rw [key cs _ h]
  exact bytes_nil_append _

end Go.Proofs.YtmfpfipjhhfbhaaDoor
