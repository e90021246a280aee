/- The contracts of package normal's functions. -/
import Derived.Test.YtmfpfipjhhfbhaaDoorOp
import Derived.Test.YtmfpfipjhhfbhaaDoorRow
namespace Go.Proofs.YtmfpfipjhhfbhaaDoor
open Go.RowKit Go.Proofs.YtmfpfipjhhfbhaaDoorW.PrintWords

/-! ### normal.empty, and where the first empty span is -/
def spEmpty (s : Sp) : Bool := s.n == 0 && s.t.toList.isEmpty
theorem empty_calls (s : Sp) (w : World) :
    Calls Tryd.prog 59 #[.agg #[.int .i64 s.k, .int .i64 s.n, .string s.t]] w fun e w' => e = .returned (.bool (spEmpty s)) ∧ Below w.heap.size w w' := by
  obtain ⟨k, n, t⟩ := s
  by_cases hn : n = 0
  · subst hn
    go_enter Tryd.func59, Tryd.ntmps59
    go_wp2
    go_ret
    exact ⟨ret_bool (by simp [spEmpty]), (Below.refl _ _).alloc (Nat.le_refl _) _⟩
  · have hd : (n == 0) = false := by simpa using hn
    go_enter Tryd.func59, Tryd.ntmps59
    go_wp2
    go_ret
    exact ⟨ret_bool (by simp [spEmpty, hn]), (Below.refl _ _).alloc (Nat.le_refl _) _⟩

/-- The first empty span's place; -1: there is none. -/
def firstEmpty (xs : List Sp) : Nat := xs.findIdx spEmpty
theorem firstEmpty_step {xs : List Sp} {k : Nat} {s : Sp} (h : xs[k]? = some s) (hk : k ≤ firstEmpty xs) : if spEmpty s = true then firstEmpty xs = k else k + 1 ≤ firstEmpty xs := by
  obtain ⟨hl, rfl⟩ := List.getElem?_eq_some_iff.1 h
  unfold firstEmpty at *
  split
  · rename_i he
    rcases Nat.lt_or_ge k (xs.findIdx spEmpty) with hc | hc
    · have := List.not_of_lt_findIdx (p := spEmpty) (xs := xs) (i := k) hc
      simp_all
    · omega
  · rename_i he
    rcases Nat.lt_or_ge k (xs.findIdx spEmpty) with hc | hc
    · exact hc
    · have h2 : xs.findIdx spEmpty = k := by omega
      have := List.findIdx_getElem (p := spEmpty) (xs := xs) (w := by omega)
      simp only [h2] at this
      exact absurd this he
/-- What slices.IndexFunc tells. -/
def emptyAt (xs : List Sp) : Int := if firstEmpty xs < xs.length then (firstEmpty xs : Int) else -1

set_option maxHeartbeats 1000000 in
theorem indexFunc_calls (A : Option Addr) (c : Nat) (xs : List Sp) (w : World) (hr : Kd.C kSp w A xs.length xs) :
    Calls Tryd.prog 85 #[.slice A xs.length c, .func (.func 59) #[] #[]] w fun e w' => e = .returned (.int .i64 (emptyAt xs)) ∧ Below w.heap.size w w' := by
  have hm := hr.2.1
  have HR := Aside0.mk hr
  clear hr
  go_enter Tryd.func85, Tryd.ntmps85
  go_wp2
  go_loopw [8] (fun i w' => ∃ k : Nat, k ≤ xs.length ∧ i = .int .i64 k ∧ k ≤ firstEmpty xs ∧ Below w.heap.size w w') (fun i _ => xs.length - (intOf i).toNat)
  case atStart => exact ⟨0, Nat.zero_le _, rfl, Nat.zero_le _, Below.refl _ _⟩
  case round =>
    obtain ⟨k, hk, rfl, he, hB⟩ := hrel
    rename_i wr
    have hz := hB.size
    by_cases hlt : k < xs.length
    · obtain ⟨s, hs⟩ : ∃ s, xs[k]? = some s := ⟨_, List.getElem?_eq_getElem hlt⟩
      obtain ⟨ad, rfl, h0, h1, h2⟩ := at_Sp (Kd.C_below HR.out hB) hs
      have he2 := firstEmpty_step hs he
      clear hs he
      obtain ⟨sk, sn, st⟩ := s
      have ce := empty_calls ⟨sk, sn, st⟩ wr
      cases hq : spEmpty ⟨sk, sn, st⟩
      · rw [hq] at ce he2
        clear hq
        have he3 : Hid (k + 1 ≤ firstEmpty xs) := Lib.hid (by simpa using he2)
        clear he2
        go_wp2_with (go_at_call 59; refine ce.mono ?_; rintro e w2 ⟨rfl, hb2⟩)
        go_roundw
        case rel => exact ⟨k + 1, by omega, by go_num, he3.out, hB.trans (hb2.mono hz)⟩
        case measure => simp [intOf]; omega
      · rw [hq] at ce he2
        clear hq
        have he3 : Hid (emptyAt xs = k) := by
          have h3 : firstEmpty xs = k := by simpa using he2
          show emptyAt xs = k
          unfold emptyAt
          rw [h3, if_pos hlt]
        clear he2
        go_wp2_with (go_at_call 59; refine ce.mono ?_; rintro e w2 ⟨rfl, hb2⟩)
        go_ret
        exact ⟨ret_int he3.out.symm, hB.trans (hb2.mono hz)⟩
    · have he3 : Hid (emptyAt xs = -1) := by
        show emptyAt xs = -1
        unfold emptyAt
        rw [if_neg (by omega)]
      clear he
      go_wp2
      go_ret
      exact ⟨ret_int he3.out.symm, hB⟩

/-! ### slices.DeleteFunc, of the empty spans, in place -/
def full (s : Sp) : Bool := !spEmpty s
theorem bcellA {W w1 : World} {row : Option Nat} (hb : W.grownBy w1 row) : W.heap.size ≤ w1.heap.size := hb.size
theorem filter_snoc {xs : List Sp} {j : Nat} {s : Sp} (h : xs[j]? = some s) : (xs.take (j + 1)).filter full = (xs.take j).filter full ++ (if spEmpty s = true then [] else [s]) := by
  rw [take_snoc' h, List.filter_append]
  congr 1
  cases hs : spEmpty s <;> simp [full, hs]

/-- What is left of a row behind slices.DeleteFunc: first the spans that are not empty. -/
def Deleted (g : Nat) (xs : List Sp) (w : World) : Prop := ∃ ys, RowAt w g ys ∧ ys.length = xs.length ∧ ys.take (xs.filter full).length = xs.filter full
theorem ret_slice {A : Option Addr} {n m c : Nat} (h : n = m) : Ending.returned (.slice A n c) = .returned (.slice A m c) := by rw [h]
theorem filter_full_all {xs : List Sp} (h : ¬ firstEmpty xs < xs.length) : xs.filter full = xs := by
  rw [List.filter_eq_self]
  intro s hs
  obtain ⟨j, hj, rfl⟩ := List.getElem_of_mem hs
  have h1 := List.not_of_lt_findIdx (p := spEmpty) (xs := xs) (i := j) (by unfold firstEmpty at h; omega)
  unfold full
  simpa using h1
theorem filter_first {xs : List Sp} (h : firstEmpty xs < xs.length) : (xs.take (firstEmpty xs + 1)).filter full = xs.take (firstEmpty xs) := by
  rw [List.take_succ_eq_append_getElem h, List.filter_append]
  have h1 : [xs[firstEmpty xs]].filter full = [] := by
    have := List.findIdx_getElem (p := spEmpty) (xs := xs) (w := h)
    have h2 : spEmpty xs[firstEmpty xs] = true := this
    simp [full, h2]
  rw [h1, List.append_nil, List.filter_eq_self]
  intro s hs
  obtain ⟨j, hj, rfl⟩ := List.getElem_of_mem hs
  have hj' : j < firstEmpty xs := by simp at hj; omega
  have h3 := List.not_of_lt_findIdx (p := spEmpty) (xs := xs) (i := j) hj'
  rw [List.getElem_take]
  unfold full
  simpa using h3

set_option maxHeartbeats 2000000 in
theorem deleteFunc_calls (g : Nat) (xs : List Sp) (w : World) (hm : xs.length ≤ 4398046511104) (hr : RowAt w g xs) :
    Calls Tryd.prog 58 #[.slice (some ⟨g, 0, none⟩) xs.length xs.length, .func (.func 59) #[] #[]] w fun e w' =>
      e = .returned (.slice (some ⟨g, 0, none⟩) (xs.filter full).length xs.length) ∧ Deleted g xs w' ∧ w.grownBy w' (some g) := by
  have ci := indexFunc_calls (some ⟨g, 0, none⟩) xs.length xs w (by have := hr.reads (by omega) xs.length (Nat.le_refl _); rwa [List.take_length] at this)
  by_cases h0 : firstEmpty xs < xs.length
  · have he : emptyAt xs = firstEmpty xs := by unfold emptyAt; rw [if_pos h0]
    rw [he] at ci
    have hd : ((firstEmpty xs : Int) == -1) = false := by simp
    have hf0 : Hid ((xs.take (firstEmpty xs + 1)).filter full = xs.take (firstEmpty xs)) := filter_first h0
    obtain ⟨f, hf⟩ : ∃ f, f = firstEmpty xs := ⟨_, rfl⟩
    rw [← hf] at ci hd hf0 h0
    clear he hf
    have HR := Aside0.mk hr
    clear hr
    go_enter Tryd.func58, Tryd.ntmps58
    go_wp2_with (go_at_call 85; refine ci.mono ?_; rintro e w1 ⟨rfl, hb⟩)
    have hR1 : RowAt w1 g xs := HR.out.below hb HR.out.lt
    have hg1 : w.grownBy w1 (some g) := grown_of_below hb _
    have HG := HR.out.lt
    clear hb
    go_loopw [5, 6] (fun v5 v6 wr => ∃ (i j : Nat) (ys : List Sp), v5 = .int .i64 i ∧ v6 = .int .i64 j ∧ i < j ∧ j ≤ xs.length ∧ RowAt wr g ys ∧ Hid (ys.length = xs.length) ∧ Hid (ys.take i = (xs.take j).filter full) ∧ Hid (∀ m, j ≤ m → ys[m]? = xs[m]?) ∧ w.grownBy wr (some g)) (fun _ v6 _ => xs.length - (intOf v6).toNat)
    case atStart => exact ⟨f, f + 1, xs, rfl, by go_num, by omega, by omega, hR1, rfl, hf0.out.symm, fun _ _ => rfl, hg1⟩
    case round =>
      obtain ⟨i, j, ys, rfl, rfl, hij, hj, hR, hl, htk, hsm, hg⟩ := hrel
      rename_i wr
      by_cases hlt : j < xs.length
      · obtain ⟨s, hs⟩ : ∃ s, xs[j]? = some s := ⟨_, List.getElem?_eq_getElem hlt⟩
        have hys : ys[j]? = some s := (hsm.out j (Nat.le_refl _)).trans hs
        have hfs := Lib.hid (filter_snoc hs)
        obtain ⟨c0, c1, c2⟩ := hR.cell hys
        have hs' := Lib.hid hs
        have hys' := Lib.hid hys
        clear hs hys
        obtain ⟨sk, sn, st⟩ := s
        have ce := fun W => empty_calls ⟨sk, sn, st⟩ W
        have hlw := hR.lt
        have hil : i < ys.length := by have := hl.out; omega
        obtain ⟨d0, d1, d2⟩ := hR.cell (List.getElem?_eq_getElem hil)
        have e0 := hR.frozen (i * 3)
        have e1 := hR.frozen (i * 3 + 1)
        have e2 := hR.frozen (i * 3 + 2)
        cases hq : spEmpty ⟨sk, sn, st⟩
        · rw [hq] at ce hfs
          clear hq
          have Hce := Lib.hid ce
          clear ce
          go_wp2_with fail
          refine (Hce.out _).mono ?_
          rintro e w2 ⟨rfl, hb2⟩
          obtain ⟨hc2, hf2, hz2⟩ := bcell hb2
          have hz3 : wr.heap.size < w2.heap.size := by simp at hz2; omega
          have hR2 : RowAt w2 g ys := (hR.alloc _).below hb2 (by simp; omega)
          have hg2 : w.grownBy w2 (some g) := gb_below (gb_alloc hg _) hb2
          clear hb2
          go_wp2_with fail
          go_roundw
          case rel =>
            have hl' := hl.out
            refine ⟨i + 1, j + 1, ys.set i ⟨sk, sn, st⟩, by go_num, by go_num, by omega, by omega, hR2.set_all hil ⟨sk, sn, st⟩, ?_, ?_, ?_, ?_⟩
            · show _ = _; simp [hl']
            · show _ = _
              rw [hfs.out, ← htk.out]
              rw [take_set_snoc _ hil, if_neg (by simp)]
            · show ∀ m, _
              intro m hm2
              rw [List.getElem?_set_ne (by omega)]
              exact hsm.out m (by omega)
            · exact gb_set (gb_set (gb_set hg2 _ _) _ _) _ _
          case measure => simp [intOf]; omega
        · rw [hq] at ce hfs
          clear hq
          have Hce := Lib.hid ce
          clear ce
          go_wp2_with fail
          refine (Hce.out _).mono ?_
          rintro e w2 ⟨rfl, hb2⟩
          have hR2 : RowAt w2 g ys := (hR.alloc _).below hb2 (by simp; omega)
          have hg2 : w.grownBy w2 (some g) := gb_below (gb_alloc hg _) hb2
          clear hb2
          go_wp2_with fail
          go_roundw
          case rel =>
            refine ⟨i, j + 1, ys, rfl, by go_num, by omega, by omega, hR2, hl, ?_, ?_, hg2⟩
            · show _ = _
              rw [hfs.out, ← htk.out]
              simp
            · show ∀ m, _
              intro m hm2
              exact hsm.out m (by omega)
          case measure => simp [intOf]; omega
      · have hjl : Hid (j = xs.length) := (by omega : j = xs.length)
        have hil : i < xs.length := by omega
        have hn : Hid (i + (xs.length - i) = ys.length) := by have hl' := hl.out; show _ = _; omega
        have hfl : Hid ((xs.filter full).length = i) := by
          show _ = _
          have h := htk.out
          rw [hjl.out, List.take_length] at h
          have hl' := hl.out
          rw [← h, List.length_take]
          omega
        have hcap : ¬ xs.length = i := by omega
        go_wp2_with (with_reducible refine wp_clear_sp (o := ⟨none, _, _, _, _, _⟩) rfl (.tmp 38) rfl g i (xs.length - i) (xs.length - i) ys rfl hR hn.out (Nat.sub_pos_of_lt hil) ?_)
        intro w3 hR3 hg3
        go_wp2_with fail
        go_ret
        refine ⟨ret_slice hfl.out.symm, ⟨_, hR3, by have hl' := hl.out; simp; omega, ?_⟩, World.grownBy.trans hg hg3⟩
        rw [hfl.out, List.take_left' (by have hl' := hl.out; simp; omega), htk.out, hjl.out, List.take_length]
  · have he : emptyAt xs = -1 := by unfold emptyAt; rw [if_neg h0]
    rw [he] at ci
    have hfl := Lib.hid (filter_full_all h0)
    have HR := Aside0.mk hr
    clear hr he
    go_enter Tryd.func58, Tryd.ntmps58
    go_wp2_with (go_at_call 85; refine ci.mono ?_; rintro e w1 ⟨rfl, hb⟩)
    go_ret
    exact ⟨ret_slice (by rw [hfl.out]), ⟨xs, HR.out.below hb HR.out.lt, rfl, by rw [hfl.out, List.take_length]⟩, grown_of_below hb _⟩

/-! ### normal.Of -/
/-- One span more behind some that are in their shortest form. -/
def nstep (acc : List Sp) (s : Sp) : List Sp :=
  match acc.getLast? with
  | none => [s]
  | some l => if l.k = s.k then acc.dropLast ++ [⟨l.k, wrap64 (l.n + s.n), l.t ++ s.t⟩] else acc ++ [s]
/-- normal.Of. -/
def normS (xs : List Sp) : List Sp := (xs.filter full).foldl nstep []
/-- How many bytes all texts have. -/
def bytesL (xs : List Sp) : Nat := (xs.map fun s => s.t.size).sum
theorem nstep_nil (s : Sp) : nstep [] s = [s] := rfl
theorem nstep_same {acc : List Sp} {l s : Sp} (h : acc.getLast? = some l) (hk : l.k = s.k) : nstep acc s = acc.dropLast ++ [⟨l.k, wrap64 (l.n + s.n), l.t ++ s.t⟩] := by
  simp only [nstep, h]; rw [if_pos hk]
theorem nstep_other {acc : List Sp} {l s : Sp} (h : acc.getLast? = some l) (hk : ¬ l.k = s.k) : nstep acc s = acc ++ [s] := by
  simp only [nstep, h]; rw [if_neg hk]
theorem nstep_length (acc : List Sp) (s : Sp) : 0 < (nstep acc s).length ∧ (nstep acc s).length ≤ acc.length + 1 := by
  unfold nstep
  split
  · simp
  · split
    · simp
    · simp
theorem bytesL_append (xs ys : List Sp) : bytesL (xs ++ ys) = bytesL xs + bytesL ys := by simp [bytesL]
theorem bytesL_nstep (acc : List Sp) (s : Sp) : bytesL (nstep acc s) = bytesL acc + s.t.size := by
  unfold nstep
  split
  · rename_i h
    have : acc = [] := by simpa using h
    subst this; simp [bytesL]
  · rename_i l h
    split
    · have : acc = acc.dropLast ++ [l] := by
        obtain ⟨ys, rfl⟩ := List.getLast?_eq_some_iff.1 h
        simp
      conv => rhs; rw [this]
      simp [bytesL, ByteArray.size_append]; omega
    · simp [bytesL]
theorem foldl_nstep_snoc (xs acc : List Sp) (s : Sp) : (xs ++ [s]).foldl nstep acc = nstep (xs.foldl nstep acc) s := by simp [List.foldl_append]

end Go.Proofs.YtmfpfipjhhfbhaaDoor
