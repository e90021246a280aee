/- epitomelaw11.spans: a row of spans out of letters and numbers. -/
import Derived.Test.YtmfpfipjhhfbhaaDoorLit
import Derived.Test.YtmfpfipjhhfbhaaDoorFit
namespace Go.Proofs.YtmfpfipjhhfbhaaDoor
open Go.RowKit Go.Proofs.YtmfpfipjhhfbhaaDoorW.PrintWords

def spAt (s : ByteArray) (j : Nat) : Sp :=
  if (s.data.toList.getD (2 * j) 0).toNat = 107 then ⟨1, ((s.data.toList.getD (2 * j + 1) 0).toNat : Int) - 48, ⟨#[]⟩⟩
  else if (s.data.toList.getD (2 * j) 0).toNat = 100 then ⟨3, ((s.data.toList.getD (2 * j + 1) 0).toNat : Int) - 48, ⟨#[]⟩⟩
  else ⟨2, 0, s.extract (2 * j) (2 * j + 1)⟩
def spansS (s : ByteArray) (k : Nat) : List Sp := (List.range k).map (spAt s)
theorem spansS_succ (s : ByteArray) (k : Nat) : spansS s (k + 1) = spansS s k ++ [spAt s k] := by simp [spansS, List.range_succ]
theorem spansS_len (s : ByteArray) (k : Nat) : (spansS s k).length = k := by simp [spansS]
set_option maxRecDepth 100000 in
set_option maxHeartbeats 2000000 in
theorem spans_calls (s : ByteArray) (m : Nat) (w : World) (hs : s.size = 2 * m) (hm : m ≤ 1000) (hd : ∀ j, j < m → 48 ≤ (s.data.toList.getD (2 * j + 1) 0).toNat) :
    Calls Tryd.prog 66 #[.string s] w fun e w' => ∃ v, e = .returned v ∧ Gives w w' v (spansS s m) ∧ Below w.heap.size w w' := by
  have HS := Lib.hid hs
  have hs1 : s.size ≤ 2000 := by omega
  have HD := Lib.hid hd
  clear hs hd
  go_enter Tryd.func66, Tryd.ntmps66
  go_wp2
  go_loopw [3, 4] (fun v i wr => ∃ k : Nat, k ≤ m ∧ i = .int .i64 ((2 * k : Nat) : Int) ∧ Kd.R kSp 26 wr w.heap.size (fun _ => True) v (spansS s k) ∧ Below w.heap.size w wr) (fun _ i _ => 2000 - (intOf i).toNat)
  case atStart =>
    refine ⟨0, Nat.zero_le _, rfl, ?_, (Below.refl _ _).alloc (Nat.le_refl _) _⟩
    have h := World.ownsRow_made (base := w.heap.size) (e := 26) (size := 3) w #[] 0 (Nat.le_refl _) (Nat.zero_le _) rfl
    exact ⟨fun _ _ => trivial, [], h, rfl, fun j p hj => by simp [spansS] at hj⟩
  case round =>
    obtain ⟨k, hk, rfl, hO, hB⟩ := hrel
    rename_i wr
    have hz := hB.size
    obtain ⟨Av, cv, rfl⟩ := Kd.R_slice hO
    have hlen : Hid ((spansS s k).length = k) := spansS_len s k
    have hl4 : (spansS s k).length + 1 ≤ 4194304 := by rw [hlen.out]; omega
    by_cases hlt : k < m
    · have h1 : 2 * k + 1 < s.size := by rw [HS.out]; omega
      have h0 : 2 * k < s.size := by omega
      have hsn : Hid (spansS s (k + 1) = spansS s k ++ [spAt s k]) := spansS_succ s k
      have hd := HD.out k hlt
      have g0 : s.data.toList.getD (2 * k) 0 = s[2 * k] := by simp [List.getD, h0]; rfl
      have g1 : s.data.toList.getD (2 * k + 1) 0 = s[2 * k + 1] := by simp [List.getD, h1]; rfl
      have hsp : Hid (spAt s k = if (s[2 * k]).toNat = 107 then ⟨1, ((s[2 * k + 1]).toNat : Int) - 48, ⟨#[]⟩⟩ else if (s[2 * k]).toNat = 100 then ⟨3, ((s[2 * k + 1]).toNat : Int) - 48, ⟨#[]⟩⟩ else ⟨2, 0, s.extract (2 * k) (2 * k + 1)⟩) := by show _ = _; unfold spAt; rw [g0, g1]
      rw [g1] at hd
      clear g0 g1
      have hdl : (s[2 * k + 1]).toNat < 256 := (s[2 * k + 1]).toNat_lt
      have hw : IntKind.u8.wrap (((s[2 * k + 1]).toNat : Int) - 48) = ((s[2 * k + 1]).toNat : Int) - 48 := by
        show (((s[2 * k + 1]).toNat : Int) - 48) % 256 = _
        omega
      by_cases hc : (s[2 * k]).toNat = 107
      · have hcb : (((s[2 * k]).toNat : Int) == 107) = true := by simp [hc]
        rw [if_pos hc] at hsp
        clear hc
        go_wp2_with (at_builtin; go_loud (refine wp_push (base := w.heap.size) (w0 := w) rfl (.tmp 34) (.tmp 37) rfl ⟨1, ((s[2 * k + 1]).toNat : Int) - 48, ⟨#[]⟩⟩ hO hB rfl (by simp [Act.eval]) hl4 (Nat.le_refl _) ?_); intro A1 e1 w3 hO3 hB3)
        go_roundw
        case rel => exact ⟨k + 1, by omega, by go_num, by rw [hsn.out, hsp.out]; exact hO3, hB3⟩
        case measure => simp [intOf]; omega
      · have hcb : (((s[2 * k]).toNat : Int) == 107) = false := by simp; omega
        rw [if_neg hc] at hsp
        by_cases hc2 : (s[2 * k]).toNat = 100
        · have hcb2 : (((s[2 * k]).toNat : Int) == 100) = true := by simp [hc2]
          rw [if_pos hc2] at hsp
          clear hc hc2
          go_wp2_with (at_builtin; go_loud (refine wp_push (base := w.heap.size) (w0 := w) rfl (.tmp 41) (.tmp 44) rfl ⟨3, ((s[2 * k + 1]).toNat : Int) - 48, ⟨#[]⟩⟩ hO hB rfl (by simp [Act.eval]) hl4 (Nat.le_refl _) ?_); intro A1 e1 w3 hO3 hB3)
          go_roundw
          case rel => exact ⟨k + 1, by omega, by go_num, by rw [hsn.out, hsp.out]; exact hO3, hB3⟩
          case measure => simp [intOf]; omega
        · have hcb2 : (((s[2 * k]).toNat : Int) == 100) = false := by simp; omega
          rw [if_neg hc2] at hsp
          clear hc hc2
          go_wp2_with (at_builtin; go_loud (refine wp_push (base := w.heap.size) (w0 := w) rfl (.tmp 23) (.tmp 30) rfl ⟨2, 0, s.extract (2 * k) (2 * k + 1)⟩ hO hB rfl (by simp [Act.eval]) hl4 (Nat.le_refl _) ?_); intro A1 e1 w3 hO3 hB3)
          go_roundw
          case rel => exact ⟨k + 1, by omega, by go_num, by rw [hsn.out, hsp.out]; exact hO3, hB3⟩
          case measure => simp [intOf]; omega
    · have hkm : k = m := by omega
      subst hkm
      have hge : ¬ 2 * k + 1 < s.size := by rw [HS.out]; omega
      have HO := Lib.hid hO
      clear hO hlt
      go_wp2_with fail
      go_ret
      exact ⟨_, rfl, HO.out, hB⟩

end Go.Proofs.YtmfpfipjhhfbhaaDoor
