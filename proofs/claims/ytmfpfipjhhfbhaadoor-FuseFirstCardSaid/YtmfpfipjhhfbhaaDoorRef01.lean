/- epitomeref01: size, Of, Fit. -/
import Derived.Test.YtmfpfipjhhfbhaaDoorAtoms
import Derived.Deep.AppendLies
namespace Go.Proofs.YtmfpfipjhhfbhaaDoor
open Go.RowKit Go.Proofs.YtmfpfipjhhfbhaaDoorW.PrintWords

/-- append of some whole numbers onto a row that is owned. -/
theorem wp_nums {P : Program} {ops : Array Oper} {rest : List Oper} {o : Oper} {a : Act} {Q : Exit → Act → World → Prop} {w0 W : World} (base : Nat) (hgd : o.guard = none) (s x : Operand) (t e : TypeId) (k : IntKind) (bytes : Nat)
    (ho : o.op = .call { callee := .builtin .append, args := #[s, x], argTypes := #[t, t] })
    (ht : P.underlying t = some (.slice e)) (hinfo : (P.info? e).map (fun i => (i.zero, i.size, i.bytes)) = some (some (.int k 0), 1, bytes)) (hb0 : 0 < bytes)
    (v : Value) (xs ys : List Int) (hs : a.eval s = v) (m : Nat) (hx : a.eval x = .slice (some ⟨W.heap.size, 0, none⟩) m m) (hm : ys.length = m) (hy : 0 < m)
    (HO : W.ownsRow base e 1 v xs.length (nums k xs)) (HB : Below base w0 W) (hbase : base ≤ W.heap.size) (hl : (xs.length + m) * bytes ≤ 140737488355328)
    (h : ∀ A c w1, w1.ownsRow base e 1 (.slice A (xs.length + m) c) (xs ++ ys).length (nums k (xs ++ ys)) → Below base w0 w1 → wpList P ops Q rest (a.put o.dst (.slice A (xs.length + m) c)) w1) :
    wpList P ops Q (o :: rest) a (W.alloc (.cells (nums k ys).toArray e)) := by
  obtain ⟨i0, hi, hzz⟩ := Option.map_eq_some_iff.1 hinfo
  simp only [Prod.mk.injEq] at hzz
  obtain ⟨hz0, hz1, hz2⟩ := hzz
  have hlen : xs.length + m ≤ 140737488355328 := Nat.le_trans (Nat.le_mul_of_pos_right _ hb0) hl
  refine wpList_append_lies (W.alloc (.cells (nums k ys).toArray e)) hgd s x t ho base e i0 (.int k 0) 1 bytes ht hi hz0 hz1 hz2 rfl (by omega) v xs.length (nums k xs) hs (HO.alloc _) ⟨W.heap.size, 0, none⟩ m m (nums k ys) hx (by rw [nums_length]; omega)
    (World.news_of_block (cs := (nums k ys).toArray) (t := e) (fr := (0, 0)) (heap_alloc_new W _)) (by intro u hu; obtain ⟨z, _, rfl⟩ := List.mem_map.1 hu; rfl) hy (by simp only [maxLen]; omega) hl (by simp; omega) _ rfl ?_
  intro g cap w1 hown hg _ _
  refine h _ _ w1 ?_ ((HB.alloc hbase _).grown hg (by simp; omega) (own_base HO))
  rw [nums_append, List.length_append, hm]
  exact hown

/-- How many bytes a code point has. -/
def sizeI (c : Int) : Int := if c < 128 then 1 else if c < 2048 then 2 else if c < 65536 then 3 else 4
theorem size1 (z : Int) (h0 : ¬ (z < 0)) (h1 : z < 128) (w : World) : Calls Tryd.prog 81 #[.int .i64 z] w fun e w' => e = .returned (.int .i64 1) ∧ Below w.heap.size w w' := by
  have h2 : ¬ (1114111 < z) := by omega
  have h3 : ¬ (55296 ≤ z) := by omega
  go_enter Tryd.func81, Tryd.ntmps81
  go_wp2
  go_ret
  exact ⟨rfl, Below.refl _ _⟩
theorem size2 (z : Int) (h1 : ¬ (z < 128)) (h5 : z < 2048) (w : World) : Calls Tryd.prog 81 #[.int .i64 z] w fun e w' => e = .returned (.int .i64 2) ∧ Below w.heap.size w w' := by
  have h0 : ¬ (z < 0) := by omega
  have h2 : ¬ (1114111 < z) := by omega
  have h3 : ¬ (55296 ≤ z) := by omega
  go_enter Tryd.func81, Tryd.ntmps81
  go_wp2
  go_ret
  exact ⟨rfl, Below.refl _ _⟩
theorem size3a (z : Int) (h5 : ¬ (z < 2048)) (h3 : ¬ (55296 ≤ z)) (w : World) : Calls Tryd.prog 81 #[.int .i64 z] w fun e w' => e = .returned (.int .i64 3) ∧ Below w.heap.size w w' := by
  have h0 : ¬ (z < 0) := by omega
  have h1 : ¬ (z < 128) := by omega
  have h2 : ¬ (1114111 < z) := by omega
  have h6 : z < 65536 := by omega
  go_enter Tryd.func81, Tryd.ntmps81
  go_wp2
  go_ret
  exact ⟨rfl, Below.refl _ _⟩
theorem size3b (z : Int) (h3 : 57344 ≤ z) (h6 : z < 65536) (w : World) : Calls Tryd.prog 81 #[.int .i64 z] w fun e w' => e = .returned (.int .i64 3) ∧ Below w.heap.size w w' := by
  have h0 : ¬ (z < 0) := by omega
  have h1 : ¬ (z < 128) := by omega
  have h5 : ¬ (z < 2048) := by omega
  have h2 : ¬ (1114111 < z) := by omega
  have h7 : 55296 ≤ z := by omega
  have h8 : ¬ (z ≤ 57343) := by omega
  go_enter Tryd.func81, Tryd.ntmps81
  go_wp2
  go_ret
  exact ⟨rfl, Below.refl _ _⟩
theorem size4 (z : Int) (h6 : ¬ (z < 65536)) (h2 : ¬ (1114111 < z)) (w : World) : Calls Tryd.prog 81 #[.int .i64 z] w fun e w' => e = .returned (.int .i64 4) ∧ Below w.heap.size w w' := by
  have h0 : ¬ (z < 0) := by omega
  have h1 : ¬ (z < 128) := by omega
  have h5 : ¬ (z < 2048) := by omega
  have h7 : 55296 ≤ z := by omega
  have h8 : ¬ (z ≤ 57343) := by omega
  go_enter Tryd.func81, Tryd.ntmps81
  go_wp2
  go_ret
  exact ⟨rfl, Below.refl _ _⟩
theorem size_calls (c : Nat) (hg : goodC c) (w : World) : Calls Tryd.prog 81 #[.int .i64 c] w fun e w' => e = .returned (.int .i64 (sizeI c)) ∧ Below w.heap.size w w' := by
  unfold goodC at hg
  unfold sizeI
  split
  · exact size1 _ (by omega) (by omega) w
  · split
    · exact size2 _ (by omega) (by omega) w
    · split
      · rcases (by omega : c < 55296 ∨ 57344 ≤ c) with h | h
        · exact size3a _ (by omega) (by omega) w
        · exact size3b _ (by omega) (by omega) w
      · exact size4 _ (by omega) (by omega) w

/-- A text's bytes, as numbers. -/
def bz (cs : List Nat) : List Int := cs.flatMap fun (c : Nat) => Lib.encodeRuneZ (c : Int)
theorem bz_snoc (cs : List Nat) (c : Nat) : bz (cs ++ [c]) = bz cs ++ Lib.encodeRuneZ (c : Int) := by simp [bz]
theorem bz_length (cs : List Nat) : (bz cs).length ≤ 4 * cs.length := by
  induction cs with
  | nil => simp [bz]
  | cons c cs ih =>
    have h4 : (Lib.encodeRuneZ (c : Int)).length ≤ 4 := by
      unfold Lib.encodeRuneZ
      repeat' split
      all_goals simp
    simp [bz] at ih ⊢
    omega
theorem at_I {w : World} {A : Option Addr} {n : Nat} {xs : List Int} {k : IntKind} (h : Kd.C (Kd.int k) w A n xs) {j : Nat} {x : Int} (hj : xs[j]? = some x) : ∃ ad, A = some ad ∧ w.cell? (ad.add j) = some (.int k x) := by
  have hl := (List.getElem?_eq_some_iff.1 hj).1
  have h1 := h.1
  obtain ⟨ad, e, hc⟩ := h.2.2 (by omega)
  obtain ⟨c, _, hK, hcell⟩ := hc j x hj
  refine ⟨ad, e, ?_⟩
  obtain rfl : c = [.int k x] := hK
  have : w.cell? (ad.add (j * 1 + 0)) = some (.int k x) := hcell 0 _ rfl
  rwa [Nat.mul_one, Nat.add_zero] at this

set_option maxHeartbeats 1000000 in
theorem str_bz (cs : List Nat) : strOfNums (bz cs) = encB cs := by
  unfold strOfNums bz encB encL Lib.encodeRune
  rw [List.map_flatMap]

set_option maxRecDepth 100000 in
set_option maxHeartbeats 2000000 in
theorem refOf_calls (A : Option Addr) (ca : Nat) (cs : List Nat) (w : World) (hr : Kd.C (Kd.int .i32) w A cs.length (cs.map fun (c : Nat) => (c : Int))) (hg : ∀ c ∈ cs, goodC c) (hl : cs.length ≤ 1048576) :
    Calls Tryd.prog 48 #[.slice A cs.length ca] w fun e w' => e = .returned (.string (encB cs)) ∧ Below w.heap.size w w' := by
  have HR := Aside0.mk hr
  have HG := Lib.hid hg
  clear hr hg
  go_enter Tryd.func48, Tryd.ntmps48
  go_wp2
  go_loopw [3, 4] (fun v i wr => ∃ k : Nat, k ≤ cs.length ∧ i = .int .i64 k ∧ (∃ n, n = (bz (cs.take k)).length ∧ wr.ownsRow w.heap.size 5 1 v n (nums .u8 (bz (cs.take k)))) ∧ Below w.heap.size w wr) (fun _ i _ => cs.length - (intOf i).toNat)
  case atStart =>
    refine ⟨0, Nat.zero_le _, rfl, ⟨0, rfl, ?_⟩, (Below.refl _ _).alloc (Nat.le_refl _) _⟩
    exact World.ownsRow_made w #[] 0 (Nat.le_refl _) (Nat.zero_le _) rfl
  case round =>
    obtain ⟨k, hk, rfl, ⟨n, hn, hO⟩, hB⟩ := hrel
    rename_i wr
    have hz := hB.size
    by_cases hlt : k < cs.length
    · obtain ⟨c, hc⟩ : ∃ c, cs[k]? = some c := ⟨_, List.getElem?_eq_getElem hlt⟩
      obtain ⟨ad, rfl, h0⟩ := at_I (x := (c : Int)) (Kd.C_below HR.out hB) (by rw [List.getElem?_map, hc]; rfl)
      have hgc := HG.out c (List.mem_of_getElem? hc)
      have hsn : Hid (bz (cs.take (k + 1)) = bz (cs.take k) ++ Lib.encodeRuneZ (c : Int)) := by show _ = _; rw [take_snoc' hc, bz_snoc]
      have hbl : (bz (cs.take k)).length ≤ 4 * k := by have := bz_length (cs.take k); rw [List.length_take] at this; omega
      have cz := size_calls c hgc wr
      clear hc
      obtain ⟨z, hz⟩ : ∃ z : Int, z = c := ⟨_, rfl⟩
      have hz0 : 0 ≤ z := by omega
      have hz1 : z ≤ 1114111 := by unfold goodC at hgc; omega
      have Hz := Lib.hid hz
      unfold goodC at hgc
      have Hgc : Hid (z < 55296 ∨ 57344 ≤ z) := (by omega : z < 55296 ∨ 57344 ≤ z)
      rw [← hz] at h0 hsn cz
      clear hz hgc
      generalize bz (cs.take k) = xs at hn hO hsn hbl ⊢
      subst hn
      unfold sizeI at cz
      by_cases g1 : z < 128
      · rw [if_pos g1] at cz
        have he := Lib.encodeRuneZ_one hz0 (by omega)
        obtain ⟨Av, cv, rfl⟩ := own_slice hO
        go_wp2_with (first
          | (go_at_call 81; refine cz.mono ?_; rintro e w2 ⟨rfl, hb2⟩)
          | (at_builtin; go_loud (refine wp_nums (w0 := w) w.heap.size rfl (.tmp 22) (.tmp 25) 103 5 .u8 1 rfl Tryd.underlying103 (by kernel_rfl) (by omega) _ xs [z] rfl 1 rfl rfl (by omega) (pw_own_below hO hb2) (hB.trans (hb2.mono hB.size)) (by have := hb2.size; omega) (by omega) ?_); intro A1 c1 w3 hO3 hB3))
        go_roundw
        case rel => exact ⟨k + 1, by omega, by go_num, ⟨_, rfl, by rw [hsn.out, he]; exact hO3⟩, hB3⟩
        case measure => simp [intOf]; omega
      · rw [if_neg g1] at cz
        by_cases g2 : z < 2048
        · rw [if_pos g2] at cz
          have he := Lib.encodeRuneZ_two (r := z) (by omega) (by omega)
          obtain ⟨Av, cv, rfl⟩ := own_slice hO
          go_wp2_with (first
            | (go_at_call 81; refine cz.mono ?_; rintro e w2 ⟨rfl, hb2⟩)
            | (at_builtin; go_loud (refine wp_nums (w0 := w) w.heap.size rfl (.tmp 29) (.tmp 38) 103 5 .u8 1 rfl Tryd.underlying103 (by kernel_rfl) (by omega) _ xs [192 + z / 64, 128 + z % 64] rfl 2 rfl rfl (by omega) (pw_own_below hO hb2) (hB.trans (hb2.mono hB.size)) (by have := hb2.size; omega) (by omega) ?_); intro A1 c1 w3 hO3 hB3))
          go_roundw
          case rel => exact ⟨k + 1, by omega, by go_num, ⟨_, rfl, by rw [hsn.out, he]; exact hO3⟩, hB3⟩
          case measure => simp [intOf]; omega
        · rw [if_neg g2] at cz
          by_cases g3 : z < 65536
          · rw [if_pos g3] at cz
            have he := Lib.encodeRuneZ_three (r := z) (by have := Hgc.out; omega)
            obtain ⟨Av, cv, rfl⟩ := own_slice hO
            go_wp2_with (first
              | (go_at_call 81; refine cz.mono ?_; rintro e w2 ⟨rfl, hb2⟩)
              | (at_builtin; go_loud (refine wp_nums (w0 := w) w.heap.size rfl (.tmp 42) (.tmp 56) 103 5 .u8 1 rfl Tryd.underlying103 (by kernel_rfl) (by omega) _ xs [224 + z / 4096, 128 + z / 64 % 64, 128 + z % 64] rfl 3 rfl rfl (by omega) (pw_own_below hO hb2) (hB.trans (hb2.mono hB.size)) (by have := hb2.size; omega) (by omega) ?_); intro A1 c1 w3 hO3 hB3))
            go_roundw
            case rel => exact ⟨k + 1, by omega, by go_num, ⟨_, rfl, by rw [hsn.out, he]; exact hO3⟩, hB3⟩
            case measure => simp [intOf]; omega
          · rw [if_neg g3] at cz
            have he := Lib.encodeRuneZ_four (r := z) (by omega) (by omega)
            obtain ⟨Av, cv, rfl⟩ := own_slice hO
            go_wp2_with (first
              | (go_at_call 81; refine cz.mono ?_; rintro e w2 ⟨rfl, hb2⟩)
              | (at_builtin; go_loud (refine wp_nums (w0 := w) w.heap.size rfl (.tmp 60) (.tmp 79) 103 5 .u8 1 rfl Tryd.underlying103 (by kernel_rfl) (by omega) _ xs [240 + z / 262144, 128 + z / 4096 % 64, 128 + z / 64 % 64, 128 + z % 64] rfl 4 rfl rfl (by omega) (pw_own_below hO hb2) (hB.trans (hb2.mono hB.size)) (by have := hb2.size; omega) (by omega) ?_); intro A1 c1 w3 hO3 hB3))
            go_roundw
            case rel => exact ⟨k + 1, by omega, by go_num, ⟨_, rfl, by rw [hsn.out, he]; exact hO3⟩, hB3⟩
            case measure => simp [intOf]; omega
    · have hk2 : Hid (k = cs.length) := (by omega : k = cs.length)
      subst hn
      obtain ⟨Av, cv, rfl⟩ := own_slice hO
      have hcv := own_string Tryd.underlying103 Tryd.underlying5 Tryd.underlying9 hO
      go_wp2
      go_ret
      refine ⟨ret_str ?_, hB⟩
      rw [hk2.out, List.take_length]
      exact str_bz cs

end Go.Proofs.YtmfpfipjhhfbhaaDoor

/- epitomeref01.Fit. -/
namespace Go.Proofs.YtmfpfipjhhfbhaaDoor
open Go.RowKit Go.Proofs.YtmfpfipjhhfbhaaDoorW.PrintWords

/-- The eight code points. -/
def eight (j : Nat) : Nat := [97, 98, 99, 120, 121, 233, 8364, 128512].getD j 0
def fitC (t : ByteArray) : List Nat := t.data.toList.map fun b => eight (b.toNat % 8)
theorem eight_good (j : Nat) (h : j < 8) : goodC (eight j) := by
  unfold goodC
  match j, h with
  | 0, _ | 1, _ | 2, _ | 3, _ | 4, _ | 5, _ | 6, _ | 7, _ => simp [eight]
theorem fitC_good (t : ByteArray) : ∀ c ∈ fitC t, goodC c := by
  intro c hc
  obtain ⟨b, _, rfl⟩ := List.mem_map.1 hc
  exact eight_good _ (by omega)
theorem fitC_length (t : ByteArray) : (fitC t).length = t.size := by simp [fitC]
theorem eight_cells (w : World) (j : Nat) (h : j < 8) : (w.alloc (.cells #[.int .i32 97, .int .i32 98, .int .i32 99, .int .i32 120, .int .i32 121, .int .i32 233, .int .i32 8364, .int .i32 128512] 69)).cell? ⟨w.heap.size, j, none⟩ = some (.int .i32 (eight j : Nat)) := by
  match j, h with
  | 0, _ | 1, _ | 2, _ | 3, _ | 4, _ | 5, _ | 6, _ | 7, _ => simp [eight]

theorem C_of_ints {w : World} {A : Option Addr} {n : Nat} {k : IntKind} {xs : List Int} (h : ReadsInt w k A n xs) : Kd.C (Kd.int k) w A n xs := by
  refine ⟨h.1, h.2.1, fun hn => ?_⟩
  obtain ⟨ad, e, hc⟩ := h.2.2 hn
  refine ⟨ad, e, fun j p hj => ⟨[.int k p], rfl, rfl, fun i u hu => ?_⟩⟩
  obtain ⟨hl, hp⟩ := List.getElem?_eq_some_iff.1 hj
  have h2 := hc j (by have := h.1; omega)
  rw [List.getD_eq_getElem?_getD, hj] at h2
  cases i with
  | zero =>
    have : Value.int k p = u := by simpa using hu
    rw [← this]
    show w.cell? (ad.add (j * 1 + 0)) = _
    rw [Nat.mul_one, Nat.add_zero]; exact h2
  | succ i => simp at hu

set_option maxRecDepth 100000 in
set_option maxHeartbeats 2000000 in
theorem refFit_calls (t : ByteArray) (w : World) (hl : t.size ≤ 1048576) :
    Calls Tryd.prog 16 #[.string t] w fun e w' => e = .returned (.string (encB (fitC t))) ∧ Below w.heap.size w w' := by
  obtain ⟨W0, hW0⟩ : ∃ W0, W0 = w.alloc (.cells #[.int .i32 97, .int .i32 98, .int .i32 99, .int .i32 120, .int .i32 121, .int .i32 233, .int .i32 8364, .int .i32 128512] 69) := ⟨_, rfl⟩
  have hs0 : W0.heap.size = w.heap.size + 1 := by rw [hW0]; simp
  have hB0 : Below w.heap.size w W0 := by rw [hW0]; exact (Below.refl _ _).alloc (Nat.le_refl _) _
  have hcell : ∀ j, j < 8 → W0.cell? ⟨w.heap.size, j, none⟩ = some (.int .i32 (eight j : Nat)) := fun j h => by rw [hW0]; exact eight_cells w j h
  have HW0 := Lib.hid hW0
  have HS0 := Lib.hid hs0
  have HC := Lib.hid hcell
  clear hW0 hs0 hcell
  go_enter Tryd.func16, Tryd.ntmps16
  go_wp2
  rw [← HW0.out]
  go_loopw [4, 5] (fun v i wr => ∃ k : Nat, k ≤ t.size ∧ i = .int .i64 k ∧ (∃ n, n = k ∧ wr.ownsRow (w.heap.size + 1) 21 1 v n (nums .i32 (((fitC t).take k).map fun (c : Nat) => (c : Int)))) ∧ Below (w.heap.size + 1) W0 wr) (fun _ i _ => t.size - (intOf i).toNat)
  case atStart =>
    refine ⟨0, Nat.zero_le _, rfl, ⟨0, rfl, ?_⟩, (Below.refl _ _).alloc (by rw [HS0.out]; exact Nat.le_refl _) _⟩
    have := World.ownsRow_made (base := w.heap.size + 1) (e := 21) (size := 1) W0 #[] 0 (by rw [HS0.out]; exact Nat.le_refl _) (Nat.zero_le _) rfl
    rw [HS0.out] at this
    exact this
  case round =>
    obtain ⟨k, hk, rfl, ⟨n, hn, hO⟩, hB⟩ := hrel
    rename_i wr
    have hz := hB.size
    rw [HS0.out] at hz
    by_cases hlt : k < t.size
    · obtain ⟨Av, cv, rfl⟩ := own_slice hO
      have hc : wr.cell? ⟨w.heap.size, (t[k]'hlt).toNat % 8, none⟩ = some (.int .i32 (eight ((t[k]'hlt).toNat % 8) : Nat)) := by
        rw [hB.cell (p := ⟨w.heap.size, _, none⟩) (by show w.heap.size < w.heap.size + 1; omega)]
        exact HC.out _ (by omega)
      have hf : (fitC t)[k]? = some (eight ((t[k]'hlt).toNat % 8)) := by
        unfold fitC
        rw [List.getElem?_map]
        have : t.data.toList[k]? = some (t[k]'hlt) := by rw [Array.getElem?_toList]; exact Array.getElem?_eq_getElem hlt
        rw [this]; rfl
      have hsn : Hid (((fitC t).take (k + 1)).map (fun (c : Nat) => (c : Int)) = ((fitC t).take k).map (fun (c : Nat) => (c : Int)) ++ [((eight ((t[k]'hlt).toNat % 8) : Nat) : Int)]) := by show _ = _; rw [take_snoc' hf, List.map_append]; rfl
      have hxl : (((fitC t).take k).map (fun (c : Nat) => (c : Int))).length = k := by rw [List.length_map, List.length_take, fitC_length]; omega
      clear hf
      generalize ((fitC t).take k).map (fun (c : Nat) => (c : Int)) = xs at hO hsn hxl ⊢
      subst hn
      rw [← hxl] at hO
      have HXL := Lib.hid hxl
      have hx2 : xs.length + 1 ≤ 1048577 := by omega
      have hx3 : xs.length = n := hxl
      clear hxl
      have BW := hB
      go_wp2_with (at_builtin; go_loud (refine wp_nums (w0 := W0) (w.heap.size + 1) rfl (.tmp 14) (.tmp 21) 70 21 .i32 4 rfl Tryd.underlying70 (by kernel_rfl) (by omega) _ xs [((eight ((t[n]'hlt).toNat % 8) : Nat) : Int)] (by simp [Act.eval, hx3]) 1 rfl rfl (by omega) hO BW hz (by omega) ?_); intro A1 c1 w3 hO3 hB3)
      go_roundw
      case rel => exact ⟨n + 1, by omega, by go_num, ⟨n + 1, rfl, by rw [hsn.out]; simpa [hx3] using hO3⟩, hB3⟩
      case measure => simp [intOf]; omega
    · have hk2 : Hid (k = t.size) := (by omega : k = t.size)
      subst hn
      obtain ⟨Av, cv, rfl, hR⟩ := own_reads hO
      rw [hk2.out, ← fitC_length, List.take_length] at hR
      have hB2 : Below w.heap.size w wr := hB0.trans (hB.mono (by omega))
      have cc := refOf_calls Av cv (fitC t) wr (C_of_ints hR) (fitC_good t) (by rw [fitC_length]; exact hl)
      have hkl : (fitC t).length = n := by rw [fitC_length, hk2.out]
      rw [hkl] at cc
      clear hR hO
      go_wp2_with fail
      refine cc.mono ?_
      rintro e w4 ⟨rfl, hb4⟩
      go_wp2
      go_ret
      exact ⟨rfl, hB2.trans (hb4.mono hB2.size)⟩

end Go.Proofs.YtmfpfipjhhfbhaaDoor
