/- epitomeref01.Starts, Count, Valid. -/
import Derived.Test.YtmfpfipjhhfbhaaDoorStarts
import Derived.Test.YtmfpfipjhhfbhaaDoorRow
import Derived.Test.YtmfpfipjhhfbhaaDoorOp
namespace Go.Proofs.YtmfpfipjhhfbhaaDoor
open Go.RowKit Go.Proofs.YtmfpfipjhhfbhaaDoorW.PrintWords

/-- Where code point i begins. -/
def posA (cs : List Nat) (i : Nat) : Int := ((encL (cs.take i)).length : Nat)
def startsL (cs : List Nat) (j : Nat) : List Int := (List.range (j + 1)).map (posA cs)
theorem startsL_succ (cs : List Nat) (j : Nat) : startsL cs (j + 1) = startsL cs j ++ [posA cs (j + 1)] := by unfold startsL; rw [List.range_succ, List.map_append]; rfl
theorem startsL_len (cs : List Nat) (j : Nat) : (startsL cs j).length = j + 1 := by simp [startsL]
/-- One step of the reader: it fails. -/
theorem step_bad {l : List UInt8} (hne : l ≠ []) (h : (firstV l).2 = 0) : Lib.validD l = false := by
  rw [Lib.validD_step l hne]
  unfold firstV at h
  rw [if_neg hne] at h
  have hw := Lib.decodeL_width l
  split at h
  · rename_i hb; rw [if_pos hb]
  · omega
/-- One step of the reader: it does not. -/
theorem step_good {l : List UInt8} (hne : l ≠ []) (h : (firstV l).2 ≠ 0) : firstV l = Lib.decodeL l ∧ 1 ≤ (firstV l).2 ∧ (firstV l).2 ≤ l.length ∧ Lib.validD l = Lib.validD (l.drop (firstV l).2) := by
  have hw := Lib.decodeL_width l
  have hl := Lib.decodeL_le l hne
  have hv := Lib.validD_step l hne
  unfold firstV at h ⊢
  rw [if_neg hne] at h ⊢
  split at h
  · exact absurd rfl h
  · rename_i hb
    rw [if_neg hb] at hv
    rw [if_neg hb]
    exact ⟨rfl, by omega, hl, hv⟩
theorem drop_enc {l : List UInt8} {cs : List Nat} (he : encL cs = l) (hg : ∀ c ∈ cs, goodC c) (j at_ : Nat) (ha : at_ = (encL (cs.take j)).length) (hlt : at_ < l.length) :
    j < cs.length ∧ at_ + (Lib.decodeL (l.drop at_)).2 = (encL (cs.take (j + 1))).length := by
  have h1 : l.drop at_ = encL (cs.drop j) := by
    rw [← he, ha]
    conv => lhs; rw [← List.take_append_drop j cs, encL_append]
    rw [show (encL (List.take j (List.take j cs ++ List.drop j cs))).length = (encL (cs.take j)).length by rw [List.take_append_drop], List.drop_left]
  have hj : j < cs.length := by
    apply Classical.byContradiction
    intro h
    have h2 : cs.take j = cs := List.take_of_length_le (by omega)
    rw [h2, he] at ha
    omega
  refine ⟨hj, ?_⟩
  rw [h1, List.drop_eq_getElem_cons hj, take_snoc' (List.getElem?_eq_getElem hj), encL_append, List.length_append, ← ha]
  have h3 : encL (cs[j] :: cs.drop (j + 1)) = Lib.encodeRune (cs[j] : Int) ++ encL (cs.drop (j + 1)) := rfl
  rw [h3, decode_encode _ (hg _ (List.getElem_mem hj))]
  simp [encL]
theorem info_int : (Tryd.prog.info? 3).map (fun i => (i.zero, i.size, i.bytes)) = some (some (.int .i64 0), 1, 8) := by kernel_rfl
section
variable {ops : Array Oper} {rest : List Oper} {o : Oper} {a : Act} {Q : Exit → Act → World → Prop}
theorem wp_pushI {base : Nat} {A : Option Addr} {cv : Nat} {out : List Int} {w0 W : World} (hgd : o.guard = none) (s x : Operand) (ho : o.op = .call { callee := .builtin .append, args := #[s, x], argTypes := #[122, 122] })
    (p : Int) (H : Kd.R (Kd.int .i64) 3 W base (fun _ => True) (.slice A out.length cv) out) (HB : Below base w0 W)
    (hs : a.eval s = .slice A out.length cv) (hx : a.eval x = .slice (some ⟨W.heap.size, 0, none⟩) 1 1) (hl : out.length + 1 ≤ 4398046511104) (hbase : base ≤ w0.heap.size)
    (h : ∀ A1 c1 w1, Kd.R (Kd.int .i64) 3 w1 base (fun _ => True) (.slice A1 (out.length + 1) c1) (out ++ [p]) → Below base w0 w1 → wpList Tryd.prog ops Q rest (a.put o.dst (.slice A1 (out.length + 1) c1)) w1) :
    wpList Tryd.prog ops Q (o :: rest) a (W.alloc (.cells #[.int .i64 p] 3)) := by
  have hz := HB.size
  refine Kd.R_append (Kd.int .i64) (w0 := w0) (W := W) base hgd s x 122 3 _ 8 ho Tryd.underlying122 info_int rfl (by show 0 < 1; omega) (by omega) (.slice A out.length cv) out p [.int .i64 p] (fun _ => True) (fun _ => False) hs hx rfl (fun k hk => hk.elim) (fun k hk => trivial) H HB (by omega) (by omega) ?_
  intro v1 w1 hr hb hg _
  obtain ⟨A1, d1, rfl⟩ := Kd.R_slice hr
  simp only [List.length_append, List.length_singleton] at hr ⊢
  exact h A1 d1 w1 hr hb
end
theorem lit_int (w : World) (z : Int) : Kd.R (Kd.int .i64) 3 (w.alloc (.cells #[.int .i64 z] 3)) w.heap.size (fun _ => True) (.slice (some ⟨w.heap.size, 0, none⟩) 1 1) [z] := by
  refine ⟨fun _ _ => trivial, [.int .i64 z], ⟨rfl, .inr ⟨w.heap.size, 1, #[.int .i64 z], rfl, Nat.le_refl _, blk_new _ _, Nat.le_refl _, by simp [maxLen], rfl, rfl⟩⟩, rfl, fun j p hj => ?_⟩
  match j, hj with
  | 0, hj => simp at hj; subst hj; rfl
structure StInv (s : ByteArray) (w wr : World) (v4 v5 : Value) : Prop where
  out : ∃ (at_ : Nat) (out : List Int) (A : Option Addr) (c : Nat), v5 = .int .i64 at_ ∧ at_ ≤ s.size ∧ v4 = .slice A out.length c ∧ Kd.R (Kd.int .i64) 3 wr w.heap.size (fun _ => True) (.slice A out.length c) out ∧ Below w.heap.size w wr ∧ out.length ≤ at_ + 1 ∧
    Lib.validD s.data.toList = Lib.validD (s.data.toList.drop at_) ∧ (Lib.validD s.data.toList = true → ∃ j, j ≤ (cps s).length ∧ at_ = (encL ((cps s).take j)).length ∧ out = startsL (cps s) j)
def StartsPost (s : ByteArray) (w : World) (e : Ending) (w' : World) : Prop :=
  Below w.heap.size w w' ∧ if txtOk s = true then ∃ A c, e = .returned (.tuple #[.slice A ((cps s).length + 1) c, .bool true]) ∧ Kd.C (Kd.int .i64) w' A ((cps s).length + 1) (startsL (cps s) (cps s).length) else e = .returned (.tuple #[.slice none 0 0, .bool false])
set_option maxRecDepth 100000 in
set_option maxHeartbeats 2000000 in
theorem starts_calls (s : ByteArray) (w : World) (hs : s.size ≤ 4194304) :
    Calls Tryd.prog 94 #[.string s] w (StartsPost s w) := by
  go_enter Tryd.func94, Tryd.ntmps94
  go_wp2
  go_loopw [4, 5] (fun v4 v5 wr => StInv s w wr v4 v5) (fun _ v5 _ => s.size - (intOf v5).toNat)
  case atStart => exact ⟨0, [0], _, _, rfl, Nat.zero_le _, rfl, lit_int w 0, (Below.refl _ _).alloc (Nat.le_refl _) _, by simp, by rw [List.drop_zero], fun _ => ⟨0, Nat.zero_le _, rfl, rfl⟩⟩
  case round =>
    obtain ⟨at_, out, A, c, rfl, hat, rfl, hR, hB, hol, hv, hcs⟩ := hrel.out
    rename_i wr
    clear hrel
    have hsz : s.data.toList.length = s.size := (Lib.size_eq s).symm
    by_cases hlt : at_ < s.size
    · have hxd : (s.extract at_ s.size).data.toList = s.data.toList.drop at_ := by
        rw [ByteArray.data_extract, Array.toList_extract, List.extract_eq_take_drop, List.take_of_length_le (by rw [List.length_drop, hsz]; exact Nat.le_refl _)]
      have hne : s.data.toList.drop at_ ≠ [] := by
        intro e
        have := congrArg List.length e
        rw [List.length_drop, hsz, List.length_nil] at this
        omega
      have cf := first_calls (s.extract at_ s.size) wr (by rw [ByteArray.size_extract]; omega)
      rw [hxd] at cf
      have HV := Lib.hid hv
      have HCS := Lib.hid hcs
      have hz := hB.size
      have HR := Lib.hid hR
      clear hv hcs hxd hR
      by_cases hk : (firstV (s.data.toList.drop at_)).2 = 0
      · have hbad : Lib.validD s.data.toList = false := by rw [HV.out]; exact step_bad hne hk
        have HBAD := Lib.hid hbad
        rw [hk] at cf
        generalize (firstV (s.data.toList.drop at_)).1 = r at *
        clear hbad hk hsz
        go_wp2_with fail
        refine cf.mono ?_
        rintro e w1 ⟨rfl, hb⟩
        go_wp2_with fail
        refine bodyPost_ret (v := .tuple #[.slice none 0 0, .bool false]) (by simp [results, Tryd.results94, go_sem]) rfl ⟨hB.trans (hb.mono hz), ?_⟩
        rw [if_neg (by unfold txtOk; rw [HBAD.out]; simp)]
      · obtain ⟨g1, g2, g3, g4⟩ := step_good hne hk
        rw [List.length_drop, hsz] at g3
        rw [List.drop_drop] at g4
        have hkk : (firstV (s.data.toList.drop at_)).2 = (Lib.decodeL (s.data.toList.drop at_)).2 := by rw [g1]
        have HN : Hid (Lib.validD s.data.toList = true → ∃ j, j ≤ (cps s).length ∧ at_ + (firstV (s.data.toList.drop at_)).2 = (encL ((cps s).take j)).length ∧ out ++ [((at_ + (firstV (s.data.toList.drop at_)).2 : Nat) : Int)] = startsL (cps s) j) := by
          intro hval
          obtain ⟨j, hj1, hj2, hj3⟩ := HCS.out hval
          obtain ⟨he, hg⟩ := enc_cpsL _ _ (Nat.le_refl _) hval
          obtain ⟨d1, d2⟩ := drop_enc (cs := cps s) he hg j at_ hj2 (by rw [hsz]; exact hlt)
          rw [← hkk] at d2
          exact ⟨j + 1, d1, d2, by rw [startsL_succ, ← hj3]; unfold posA; rw [← d2]⟩
        have HG : Hid (Lib.validD s.data.toList = Lib.validD (s.data.toList.drop (at_ + (firstV (s.data.toList.drop at_)).2))) := by show _ = _; rw [HV.out, g4]
        have hkz : (((firstV (s.data.toList.drop at_)).2 : Int) == 0) = false := by simpa using hk
        clear g1 g4 hkk hk hsz
        generalize (firstV (s.data.toList.drop at_)).1 = r at *
        generalize (firstV (s.data.toList.drop at_)).2 = k at *
        go_wp2_with fail
        refine cf.mono ?_
        rintro e w1 ⟨rfl, hb⟩
        have HR1 := Kd.R_below HR.out hb
        have HB1 := hB.trans (hb.mono hz)
        have hol4 : out.length + 1 ≤ 4398046511104 := by omega
        clear cf hb
        go_wp2_with (at_builtin; go_loud (refine wp_pushI (base := w.heap.size) (w0 := w) rfl (.tmp 25) (.tmp 27) rfl ((at_ + k : Nat) : Int) HR1 HB1 rfl (by simp [Act.eval]) hol4 (Nat.le_refl _) ?_); intro A1 e1 w3 hO3 hB3)
        go_roundw
        case rel => exact ⟨at_ + k, out ++ [((at_ + k : Nat) : Int)], A1, e1, by go_num, by omega, by simp, by simpa using hO3, hB3, by simp; omega, HG.out, HN.out⟩
        case measure => simp [intOf]; omega
    · have hval : Lib.validD s.data.toList = true := by
        rw [hv, List.drop_of_length_le (by rw [hsz]; omega)]; rfl
      obtain ⟨j, hj1, hj2, hj3⟩ := hcs hval
      have hjl : j = (cps s).length := by
        apply Classical.byContradiction
        intro h
        obtain ⟨he, hg⟩ := enc_cpsL _ _ (Nat.le_refl _) hval
        have h1 : encL (cps s) = encL ((cps s).take j) ++ encL ((cps s).drop j) := by rw [← encL_append, List.take_append_drop]
        have h2 := congrArg List.length (he.symm.trans h1)
        rw [hsz, List.length_append, ← hj2] at h2
        have h3 := (encL_length ((cps s).drop j)).1
        rw [List.length_drop] at h3
        omega
      have hlen : out.length = (cps s).length + 1 := by rw [hj3, startsL_len, hjl]
      have hC := (Kd.R_reads' hR).2.2
      rw [hlen] at hC
      rw [hj3, hjl] at hC
      have HC := Lib.hid (And.intro hC hval)
      clear hv hcs hj2 hj3 hjl hR hC hval hsz
      rw [hlen]
      clear hlen
      go_wp2_with fail
      refine bodyPost_ret (v := .tuple #[.slice A ((cps s).length + 1) c, .bool true]) (by simp [results, Tryd.results94, go_sem]) rfl ⟨hB, ?_⟩
      rw [if_pos (by unfold txtOk; exact HC.out.2)]
      exact ⟨A, c, rfl, HC.out.1⟩

end Go.Proofs.YtmfpfipjhhfbhaaDoor
