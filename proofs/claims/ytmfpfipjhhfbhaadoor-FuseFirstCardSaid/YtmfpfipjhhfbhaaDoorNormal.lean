/- The contracts of package normal's functions. -/
import Derived.Test.YtmfpfipjhhfbhaaDoorOp
import Derived.Test.YtmfpfipjhhfbhaaDoorRow
namespace Go.Proofs.YtmfpfipjhhfbhaaDoor
open Go.RowKit Go.Proofs.YtmfpfipjhhfbhaaDoorW.PrintWords

/-! ### normal.empty, and where the first empty span is -/
def spEmpty (s : Sp) : Bool := s.n == 0 && s.t.toList.isEmpty
theorem empty_calls (s : Sp) (w : World) :
    Calls Tryd.prog 59 #[.agg #[.int .i64 s.k, .int .i64 s.n, .string s.t]] w fun e w' => e = .returned (.bool (spEmpty s)) ∧ Below w.heap.size w w' := by
  obtain ⟨k, n, t⟩ := s
  by_cases hn : n = 0
  · subst hn
    go_enter Tryd.func59, Tryd.ntmps59
    go_wp2
    go_ret
    exact ⟨ret_bool (by simp [spEmpty]), (Below.refl _ _).alloc (Nat.le_refl _) _⟩
  · have hd : (n == 0) = false := by simpa using hn
    go_enter Tryd.func59, Tryd.ntmps59
    go_wp2
    go_ret
    exact ⟨ret_bool (by simp [spEmpty, hn]), (Below.refl _ _).alloc (Nat.le_refl _) _⟩

/-- The first empty span's place; -1: there is none. -/
def firstEmpty (xs : List Sp) : Nat := xs.findIdx spEmpty
theorem firstEmpty_step {xs : List Sp} {k : Nat} {s : Sp} (h : xs[k]? = some s) (hk : k ≤ firstEmpty xs) : if spEmpty s = true then firstEmpty xs = k else k + 1 ≤ firstEmpty xs := by
  obtain ⟨hl, rfl⟩ := List.getElem?_eq_some_iff.1 h
  unfold firstEmpty at *
  split
  · rename_i he
    rcases Nat.lt_or_ge k (xs.findIdx spEmpty) with hc | hc
    · have := List.not_of_lt_findIdx (p := spEmpty) (xs := xs) (i := k) hc
      simp_all
    · omega
  · rename_i he
    rcases Nat.lt_or_ge k (xs.findIdx spEmpty) with hc | hc
    · exact hc
    · have h2 : xs.findIdx spEmpty = k := by omega
      have := List.findIdx_getElem (p := spEmpty) (xs := xs) (w := by omega)
      simp only [h2] at this
      exact absurd this he
/-- What slices.IndexFunc tells. -/
def emptyAt (xs : List Sp) : Int := if firstEmpty xs < xs.length then (firstEmpty xs : Int) else -1

set_option maxHeartbeats 1000000 in
theorem indexFunc_calls (A : Option Addr) (c : Nat) (xs : List Sp) (w : World) (hr : Kd.C kSp w A xs.length xs) :
    Calls Tryd.prog 85 #[.slice A xs.length c, .func (.func 59) #[] #[]] w fun e w' => e = .returned (.int .i64 (emptyAt xs)) ∧ Below w.heap.size w w' := by
  have hm := hr.2.1
  have HR := Aside0.mk hr
  clear hr
  go_enter Tryd.func85, Tryd.ntmps85
  go_wp2
  go_loopw [8] (fun i w' => ∃ k : Nat, k ≤ xs.length ∧ i = .int .i64 k ∧ k ≤ firstEmpty xs ∧ Below w.heap.size w w') (fun i _ => xs.length - (intOf i).toNat)
  case atStart => exact ⟨0, Nat.zero_le _, rfl, Nat.zero_le _, Below.refl _ _⟩
  case round =>
    obtain ⟨k, hk, rfl, he, hB⟩ := hrel
    rename_i wr
    have hz := hB.size
    by_cases hlt : k < xs.length
    · obtain ⟨s, hs⟩ : ∃ s, xs[k]? = some s := ⟨_, List.getElem?_eq_getElem hlt⟩
      obtain ⟨ad, rfl, h0, h1, h2⟩ := at_Sp (Kd.C_below HR.out hB) hs
      have he2 := firstEmpty_step hs he
      clear hs he
      obtain ⟨sk, sn, st⟩ := s
      have ce := empty_calls ⟨sk, sn, st⟩ wr
      cases hq : spEmpty ⟨sk, sn, st⟩
      · rw [hq] at ce he2
        clear hq
        have he3 : Hid (k + 1 ≤ firstEmpty xs) := Lib.hid (by simpa using he2)
        clear he2
        go_wp2_with (go_at_call 59; refine ce.mono ?_; rintro e w2 ⟨rfl, hb2⟩)
        go_roundw
        case rel => exact ⟨k + 1, by omega, by go_num, he3.out, hB.trans (hb2.mono hz)⟩
        case measure => simp [intOf]; omega
      · rw [hq] at ce he2
        clear hq
        have he3 : Hid (emptyAt xs = k) := by
          have h3 : firstEmpty xs = k := by simpa using he2
          show emptyAt xs = k
          unfold emptyAt
          rw [h3, if_pos hlt]
        clear he2
        go_wp2_with (go_at_call 59; refine ce.mono ?_; rintro e w2 ⟨rfl, hb2⟩)
        go_ret
        exact ⟨ret_int he3.out.symm, hB.trans (hb2.mono hz)⟩
    · have he3 : Hid (emptyAt xs = -1) := by
        show emptyAt xs = -1
        unfold emptyAt
        rw [if_neg (by omega)]
      clear he
      go_wp2
      go_ret
      exact ⟨ret_int he3.out.symm, hB⟩

/-! ### slices.DeleteFunc, of the empty spans, in place -/
def full (s : Sp) : Bool := !spEmpty s
theorem bcellA {W w1 : World} {row : Option Nat} (hb : W.grownBy w1 row) : W.heap.size ≤ w1.heap.size := hb.size
theorem filter_snoc {xs : List Sp} {j : Nat} {s : Sp} (h : xs[j]? = some s) : (xs.take (j + 1)).filter full = (xs.take j).filter full ++ (if spEmpty s = true then [] else [s]) := by
  rw [take_snoc' h, List.filter_append]
  congr 1
  cases hs : spEmpty s <;> simp [full, hs]

/-- What is left of a row behind slices.DeleteFunc: first the spans that are not empty. -/
def Deleted (g : Nat) (xs : List Sp) (w : World) : Prop := ∃ ys, RowAt w g ys ∧ ys.length = xs.length ∧ ys.take (xs.filter full).length = xs.filter full
theorem ret_slice {A : Option Addr} {n m c : Nat} (h : n = m) : Ending.returned (.slice A n c) = .returned (.slice A m c) := by rw [h]
theorem filter_full_all {xs : List Sp} (h : ¬ firstEmpty xs < xs.length) : xs.filter full = xs := by
  rw [List.filter_eq_self]
  intro s hs
  obtain ⟨j, hj, rfl⟩ := List.getElem_of_mem hs
  have h1 := List.not_of_lt_findIdx (p := spEmpty) (xs := xs) (i := j) (by unfold firstEmpty at h; omega)
  unfold full
  simpa using h1
theorem filter_first {xs : List Sp} (h : firstEmpty xs < xs.length) : (xs.take (firstEmpty xs + 1)).filter full = xs.take (firstEmpty xs) := by
  rw [List.take_succ_eq_append_getElem h, List.filter_append]
  have h1 : [xs[firstEmpty xs]].filter full = [] := by
    have := List.findIdx_getElem (p := spEmpty) (xs := xs) (w := h)
    have h2 : spEmpty xs[firstEmpty xs] = true := this
    simp [full, h2]
  rw [h1, List.append_nil, List.filter_eq_self]
  intro s hs
  obtain ⟨j, hj, rfl⟩ := List.getElem_of_mem hs
  have hj' : j < firstEmpty xs := by simp at hj; omega
  have h3 := List.not_of_lt_findIdx (p := spEmpty) (xs := xs) (i := j) hj'
  rw [List.getElem_take]
  unfold full
  simpa using h3

set_option maxHeartbeats 2000000 in
theorem deleteFunc_calls (g : Nat) (xs : List Sp) (w : World) (hm : xs.length ≤ 4398046511104) (hr : RowAt w g xs) :
    Calls Tryd.prog 58 #[.slice (some ⟨g, 0, none⟩) xs.length xs.length, .func (.func 59) #[] #[]] w fun e w' =>
      e = .returned (.slice (some ⟨g, 0, none⟩) (xs.filter full).length xs.length) ∧ Deleted g xs w' ∧ w.grownBy w' (some g) := by
  have ci := indexFunc_calls (some ⟨g, 0, none⟩) xs.length xs w (by have := hr.reads (by omega) xs.length (Nat.le_refl _); rwa [List.take_length] at this)
  by_cases h0 : firstEmpty xs < xs.length
  · have he : emptyAt xs = firstEmpty xs := by unfold emptyAt; rw [if_pos h0]
    rw [he] at ci
    have hd : ((firstEmpty xs : Int) == -1) = false := by simp
    have hf0 : Hid ((xs.take (firstEmpty xs + 1)).filter full = xs.take (firstEmpty xs)) := filter_first h0
    obtain ⟨f, hf⟩ : ∃ f, f = firstEmpty xs := ⟨_, rfl⟩
    rw [← hf] at ci hd hf0 h0
    clear he hf
    have HR := Aside0.mk hr
    clear hr
    go_enter Tryd.func58, Tryd.ntmps58
    go_wp2_with (go_at_call 85; refine ci.mono ?_; rintro e w1 ⟨rfl, hb⟩)
    have hR1 : RowAt w1 g xs := HR.out.below hb HR.out.lt
    have hg1 : w.grownBy w1 (some g) := grown_of_below hb _
    have HG := HR.out.lt
    clear hb
    go_loopw [5, 6] (fun v5 v6 wr => ∃ (i j : Nat) (ys : List Sp), v5 = .int .i64 i ∧ v6 = .int .i64 j ∧ i < j ∧ j ≤ xs.length ∧ RowAt wr g ys ∧ Hid (ys.length = xs.length) ∧ Hid (ys.take i = (xs.take j).filter full) ∧ Hid (∀ m, j ≤ m → ys[m]? = xs[m]?) ∧ w.grownBy wr (some g)) (fun _ v6 _ => xs.length - (intOf v6).toNat)
    case atStart => exact ⟨f, f + 1, xs, rfl, by go_num, by omega, by omega, hR1, rfl, hf0.out.symm, fun _ _ => rfl, hg1⟩
    case round =>
      obtain ⟨i, j, ys, rfl, rfl, hij, hj, hR, hl, htk, hsm, hg⟩ := hrel
      rename_i wr
      by_cases hlt : j < xs.length
      · obtain ⟨s, hs⟩ : ∃ s, xs[j]? = some s := ⟨_, List.getElem?_eq_getElem hlt⟩
        have hys : ys[j]? = some s := (hsm.out j (Nat.le_refl _)).trans hs
        have hfs := Lib.hid (filter_snoc hs)
        obtain ⟨c0, c1, c2⟩ := hR.cell hys
        have hs' := Lib.hid hs
        have hys' := Lib.hid hys
        clear hs hys
        obtain ⟨sk, sn, st⟩ := s
        have ce := fun W => empty_calls ⟨sk, sn, st⟩ W
        have hlw := hR.lt
        have hil : i < ys.length := by have := hl.out; omega
        obtain ⟨d0, d1, d2⟩ := hR.cell (List.getElem?_eq_getElem hil)
        have e0 := hR.frozen (i * 3)
        have e1 := hR.frozen (i * 3 + 1)
        have e2 := hR.frozen (i * 3 + 2)
        cases hq : spEmpty ⟨sk, sn, st⟩
        · rw [hq] at ce hfs
          clear hq
          have Hce := Lib.hid ce
          clear ce
          go_wp2_with fail
          refine (Hce.out _).mono ?_
          rintro e w2 ⟨rfl, hb2⟩
          obtain ⟨hc2, hf2, hz2⟩ := bcell hb2
          have hz3 : wr.heap.size < w2.heap.size := by simp at hz2; omega
          have hR2 : RowAt w2 g ys := (hR.alloc _).below hb2 (by simp; omega)
          have hg2 : w.grownBy w2 (some g) := gb_below (gb_alloc hg _) hb2
          clear hb2
          go_wp2_with fail
          go_roundw
          case rel =>
            have hl' := hl.out
            refine ⟨i + 1, j + 1, ys.set i ⟨sk, sn, st⟩, by go_num, by go_num, by omega, by omega, hR2.set_all hil ⟨sk, sn, st⟩, ?_, ?_, ?_, ?_⟩
            · show _ = _; simp [hl']
            · show _ = _
              rw [hfs.out, ← htk.out]
              rw [take_set_snoc _ hil, if_neg (by simp)]
            · show ∀ m, _
              intro m hm2
              rw [List.getElem?_set_ne (by omega)]
              exact hsm.out m (by omega)
            · exact gb_set (gb_set (gb_set hg2 _ _) _ _) _ _
          case measure => simp [intOf]; omega
        · rw [hq] at ce hfs
          clear hq
          have Hce := Lib.hid ce
          clear ce
          go_wp2_with fail
          refine (Hce.out _).mono ?_
          rintro e w2 ⟨rfl, hb2⟩
          have hR2 : RowAt w2 g ys := (hR.alloc _).below hb2 (by simp; omega)
          have hg2 : w.grownBy w2 (some g) := gb_below (gb_alloc hg _) hb2
          clear hb2
          go_wp2_with fail
          go_roundw
          case rel =>
            refine ⟨i, j + 1, ys, rfl, by go_num, by omega, by omega, hR2, hl, ?_, ?_, hg2⟩
            · show _ = _
              rw [hfs.out, ← htk.out]
              simp
            · show ∀ m, _
              intro m hm2
              exact hsm.out m (by omega)
          case measure => simp [intOf]; omega
      · have hjl : Hid (j = xs.length) := (by omega : j = xs.length)
        have hil : i < xs.length := by omega
        have hn : Hid (i + (xs.length - i) = ys.length) := by have hl' := hl.out; show _ = _; omega
        have hfl : Hid ((xs.filter full).length = i) := by
          show _ = _
          have h := htk.out
          rw [hjl.out, List.take_length] at h
          have hl' := hl.out
          rw [← h, List.length_take]
          omega
        have hcap : ¬ xs.length = i := by omega
        go_wp2_with (with_reducible refine wp_clear_sp (o := ⟨none, _, _, _, _, _⟩) rfl (.tmp 38) rfl g i (xs.length - i) (xs.length - i) ys rfl hR hn.out (Nat.sub_pos_of_lt hil) ?_)
        intro w3 hR3 hg3
        go_wp2_with fail
        go_ret
        refine ⟨ret_slice hfl.out.symm, ⟨_, hR3, by have hl' := hl.out; simp; omega, ?_⟩, World.grownBy.trans hg hg3⟩
        rw [hfl.out, List.take_left' (by have hl' := hl.out; simp; omega), htk.out, hjl.out, List.take_length]
  · have he : emptyAt xs = -1 := by unfold emptyAt; rw [if_neg h0]
    rw [he] at ci
    have hfl := Lib.hid (filter_full_all h0)
    have HR := Aside0.mk hr
    clear hr he
    go_enter Tryd.func58, Tryd.ntmps58
    go_wp2_with (go_at_call 85; refine ci.mono ?_; rintro e w1 ⟨rfl, hb⟩)
    go_ret
    exact ⟨ret_slice (by rw [hfl.out]), ⟨xs, HR.out.below hb HR.out.lt, rfl, by rw [hfl.out, List.take_length]⟩, grown_of_below hb _⟩

/-! ### normal.Of -/
/-- One span more behind some that are in their shortest form. -/
def nstep (acc : List Sp) (s : Sp) : List Sp :=
  match acc.getLast? with
  | none => [s]
  | some l => if l.k = s.k then acc.dropLast ++ [⟨l.k, wrap64 (l.n + s.n), l.t ++ s.t⟩] else acc ++ [s]
/-- normal.Of. -/
def normS (xs : List Sp) : List Sp := (xs.filter full).foldl nstep []
/-- How many bytes all texts have. -/
def bytesL (xs : List Sp) : Nat := (xs.map fun s => s.t.size).sum
theorem nstep_nil (s : Sp) : nstep [] s = [s] := rfl
theorem nstep_same {acc : List Sp} {l s : Sp} (h : acc.getLast? = some l) (hk : l.k = s.k) : nstep acc s = acc.dropLast ++ [⟨l.k, wrap64 (l.n + s.n), l.t ++ s.t⟩] := by
  simp only [nstep, h]; rw [if_pos hk]
theorem nstep_other {acc : List Sp} {l s : Sp} (h : acc.getLast? = some l) (hk : ¬ l.k = s.k) : nstep acc s = acc ++ [s] := by
  simp only [nstep, h]; rw [if_neg hk]
theorem nstep_length (acc : List Sp) (s : Sp) : 0 < (nstep acc s).length ∧ (nstep acc s).length ≤ acc.length + 1 := by
  unfold nstep
  split
  · simp
  · split
    · simp
    · simp
theorem bytesL_append (xs ys : List Sp) : bytesL (xs ++ ys) = bytesL xs + bytesL ys := by simp [bytesL]
theorem bytesL_nstep (acc : List Sp) (s : Sp) : bytesL (nstep acc s) = bytesL acc + s.t.size := by
  unfold nstep
  split
  · rename_i h
    have : acc = [] := by simpa using h
    subst this; simp [bytesL]
  · rename_i l h
    split
    · have : acc = acc.dropLast ++ [l] := by
        obtain ⟨ys, rfl⟩ := List.getLast?_eq_some_iff.1 h
        simp
      conv => rhs; rw [this]
      simp [bytesL, ByteArray.size_append]; omega
    · simp [bytesL]
theorem foldl_nstep_snoc (xs acc : List Sp) (s : Sp) : (xs ++ [s]).foldl nstep acc = nstep (xs.foldl nstep acc) s := by simp [List.foldl_append]

end Go.Proofs.YtmfpfipjhhfbhaaDoor

/- The contract of normal.Of: an operation's shortest form, in memory of its own. -/
namespace Go.Proofs.YtmfpfipjhhfbhaaDoor
open Go.RowKit Go.Proofs.YtmfpfipjhhfbhaaDoorW.PrintWords

/-- What normal.Of leaves: a new block that begins with the shortest form. -/
def NormPost (xs : List Sp) (w : World) (e : Ending) (w' : World) : Prop :=
  e = .returned (.slice (some ⟨w.heap.size, 0, none⟩) (normS xs).length xs.length) ∧ (∃ ys, RowAt w' w.heap.size ys ∧ ys.length = xs.length ∧ ys.take (normS xs).length = normS xs) ∧ Below w.heap.size w w'

theorem normS_length_le (xs : List Sp) : (normS xs).length ≤ xs.length := by
  have h : ∀ (zs acc : List Sp), (zs.foldl nstep acc).length ≤ acc.length + zs.length := by
    intro zs
    induction zs with
    | nil => intro acc; simp
    | cons z zs ih =>
      intro acc
      have := ih (nstep acc z)
      have := (nstep_length acc z).2
      simp only [List.foldl_cons, List.length_cons]
      omega
  have h1 := h (xs.filter full) []
  have h2 := List.length_filter_le full xs
  unfold normS
  simp at h1
  omega

theorem acc_bytes {acc : List Sp} {l : Sp} (h : acc.getLast? = some l) : l.t.size ≤ bytesL acc := by
  obtain ⟨ys, rfl⟩ := List.getLast?_eq_some_iff.1 h
  simp [bytesL]
theorem bytesL_foldl : ∀ (zs acc : List Sp), bytesL (zs.foldl nstep acc) = bytesL acc + bytesL zs
  | [], acc => by simp [bytesL]
  | z :: zs, acc => by
    rw [List.foldl_cons, bytesL_foldl zs, bytesL_nstep]
    simp [bytesL]; omega
theorem fold_bytes (zs : List Sp) (i : Nat) (s : Sp) (h : zs[i]? = some s) : bytesL ((zs.take i).foldl nstep []) + s.t.size ≤ bytesL zs := by
  rw [bytesL_foldl]
  have h1 : zs = zs.take i ++ zs.drop i := (List.take_append_drop i zs).symm
  obtain ⟨hl, rfl⟩ := List.getElem?_eq_some_iff.1 h
  have h2 : bytesL zs = bytesL (zs.take i) + bytesL (zs.drop i) := by rw [← bytesL_append, ← h1]
  rw [List.drop_eq_getElem_cons hl] at h2
  have h3 : bytesL (zs[i] :: zs.drop (i + 1)) = zs[i].t.size + bytesL (zs.drop (i + 1)) := by
    unfold bytesL
    rw [List.map_cons, List.sum_cons]
  have h4 : bytesL ([] : List Sp) = 0 := rfl
  omega
theorem bytesL_filter : ∀ xs : List Sp, bytesL (xs.filter full) ≤ bytesL xs
  | [] => Nat.le_refl _
  | x :: xs => by
    have := bytesL_filter xs
    simp only [List.filter_cons]
    split <;> simp [bytesL] at * <;> omega

set_option maxHeartbeats 4000000 in
set_option maxRecDepth 100000 in
theorem normOf_calls (A : Option Addr) (c : Nat) (xs : List Sp) (w : World) (hr : Kd.C kSp w A xs.length xs) (hm : xs.length ≤ 4398046511104) (hb : bytesL xs ≤ 4611686018427387904) :
    Calls Tryd.prog 21 #[.slice A xs.length c] w (NormPost xs w) := by
  have HR := Aside0.mk hr
  clear hr
  obtain ⟨g, hg⟩ : ∃ g, g = w.heap.size := ⟨_, rfl⟩
  have Hg := Lib.hid hg
  clear hg
  go_enter Tryd.func21, Tryd.ntmps21
  go_wp2_with (with_reducible refine wp_make_sp (o := ⟨some 9, _, _, _, _, _⟩) rfl (.tmp 8) (.tmp 8) rfl xs.length rfl rfl hm ?_)
  intro w1 hR1 hg1 hz1
  rw [← Hg.out] at hR1 ⊢
  have HB1 : Below w.heap.size w w1 := (Below.refl _ _).grown hg1 (Nat.le_refl _) (by simp)
  have HR1 : Kd.C kSp w1 A xs.length xs := Kd.C_below HR.out HB1
  go_wp2_with (with_reducible refine wp_copy_sp (o := ⟨some 12, _, _, _, _, _⟩) rfl (.tmp 10) (.tmp 11) rfl g _ xs A xs.length c rfl rfl hR1 (by simp) HR1 ?_)
  intro w2 hR2 hg2
  have hd := deleteFunc_calls g xs w2 hm hR2
  go_wp2_with fail
  refine hd.mono ?_
  rintro e w3 ⟨rfl, hD, hg3⟩
  go_wp2_with fail
  have HB3 : Below w.heap.size w w3 := (HB1.grown hg2 HB1.size (by simp [Hg.out])).grown hg3 (Nat.le_trans HB1.size hg2.size) (by simp [Hg.out])
  obtain ⟨ds, hR3, hdl, hdt⟩ := hD
  have hfin : Hid (normS xs = (xs.filter full).foldl nstep []) := rfl
  have hzl : Hid ((xs.filter full).length ≤ xs.length) := List.length_filter_le full xs
  have hzm : (xs.filter full).length ≤ 4398046511104 := Nat.le_trans hzl.out hm
  have hzb : Hid (bytesL (xs.filter full) ≤ bytesL xs) := bytesL_filter xs
  generalize xs.filter full = zs at hfin hzl hzm hzb hdt ⊢
  have Hdl := Lib.hid hdl
  have Hdt := Lib.hid hdt
  clear hdl hdt hg1 hg2 hg3 hR1 hR2 HR1 hd HB1
  go_loopw [4, 17] (fun v4 v17 wr => ∃ (l i : Nat) (acc ys : List Sp), v4 = .int .i64 l ∧ v17 = .int .i64 i ∧ i ≤ zs.length ∧ Hid (acc = (zs.take i).foldl nstep []) ∧ Hid (acc.length ≤ i ∧ (0 < i → acc.length = l + 1) ∧ (i = 0 → l = 0)) ∧ RowAt wr g ys ∧ Hid (ys.length = xs.length) ∧ Hid (ys.take acc.length = acc) ∧ Hid (∀ m, i ≤ m → m < zs.length → ys[m]? = zs[m]?) ∧ Below w.heap.size w wr) (fun _ v17 _ => zs.length - (intOf v17).toNat)
  case atStart =>
    refine ⟨0, 0, [], ds, rfl, rfl, Nat.zero_le _, rfl, ?_, hR3, Hdl.out, rfl, ?_, HB3⟩
    · show _ ∧ _ ∧ _; simp
    · show ∀ m, _
      intro m _ hm2
      rw [← Hdt.out, List.getElem?_take, if_pos hm2]
  case round =>
    obtain ⟨l, i, acc, ys, rfl, rfl, hi, hacc, hlen, hR, hyl, hyt, hsm, hB⟩ := hrel
    rename_i wr
    by_cases hlt : i < zs.length
    · obtain ⟨s, hs⟩ : ∃ s, zs[i]? = some s := ⟨_, List.getElem?_eq_getElem hlt⟩
      have hys : ys[i]? = some s := (hsm.out i (Nat.le_refl _) hlt).trans hs
      obtain ⟨c0, c1, c2⟩ := hR.cell hys
      have hfs : Hid ((zs.take (i + 1)).foldl nstep [] = nstep acc s) := by
        show _ = _
        rw [take_snoc' hs, foldl_nstep_snoc, ← hacc.out]
      have hs' := Lib.hid hs
      have hys' := Lib.hid hys
      clear hs hys
      obtain ⟨sk, sn, st⟩ := s
      have hlw := hR.lt
      have hzw := hB.size
      by_cases h0 : i = 0
      · have h0' : ((i : Int) == 0) = true := by simpa using h0
        have h0h := Lib.hid h0
        clear h0
        have hl0 := Lib.hid (hlen.out.2.2 h0h.out)
        go_wp2_with fail
        go_roundw
        case rel =>
          have ha : acc = [] := by have := hlen.out.1; exact List.eq_nil_of_length_eq_zero (by have := h0h.out; omega)
          refine ⟨l, i + 1, nstep acc ⟨sk, sn, st⟩, ys, rfl, by go_num, by omega, hfs.out.symm, ?_, hR.alloc _, hyl, ?_, ?_, hB.alloc hzw _⟩
          · show _ ∧ _ ∧ _
            rw [ha, nstep_nil]
            simp [hl0.out]
          · show _ = _
            rw [ha, nstep_nil]
            have h1 := hys'.out
            rw [h0h.out] at h1
            cases ys with
            | nil => simp at h1
            | cons y ys => simp at h1; simp [h1]
          · show ∀ m, _
            intro m hm1 hm2
            exact hsm.out m (by omega) hm2
        case measure => simp [intOf]; omega
      · have h0' : ((i : Int) == 0) = false := by simpa using h0
        have hl1 : acc.length = l + 1 := hlen.out.2.1 (by omega)
        have hll : l < ys.length := by have := hlen.out.1; have := hyl.out; have := hzl.out; omega
        have hlz : l < zs.length := by have := hlen.out.1; omega
        have hlz2 : (l : Int) < (zs.length : Int) := by omega
        obtain ⟨p, hp⟩ : ∃ p, ys[l]? = some p := ⟨_, List.getElem?_eq_getElem hll⟩
        obtain ⟨d0, d1, d2⟩ := hR.cell hp
        have e1 := hR.frozen (l * 3 + 1)
        have e2 := hR.frozen (l * 3 + 2)
        have hpl : Hid (acc.getLast? = some p) := by
          show _ = _
          have h := hyt.out
          rw [hl1] at h
          rw [← h, List.getLast?_eq_getElem?, List.getElem?_take]
          simp [Nat.min_eq_left (show l + 1 ≤ ys.length by omega), hp]
        obtain ⟨pk, pn, pt⟩ := p
        have hp' := Lib.hid hp
        have hl1' := Lib.hid hl1
        clear hp hl1
        by_cases hk : sk = pk
        · subst hk
          go_wp2_with fail
          go_quiet (fail)
          go_wp2_with fail
          have hRW : RowAt ((wr.alloc (.cells #[.int .i64 sk, .int .i64 sn, .string st] 26)).drewN nq) g ys := ⟨(hR.alloc _).out⟩
          have hBW : Below w.heap.size w ((wr.alloc (.cells #[.int .i64 sk, .int .i64 sn, .string st] 26)).drewN nq) := pw_below_drewN (hB.alloc hzw _) nq
          have b1 : ((wr.alloc (.cells #[.int .i64 sk, .int .i64 sn, .string st] 26)).drewN nq).cell? ⟨wr.heap.size, 1, none⟩ = some (.int .i64 sn) := by simp
          have b2 : ((wr.alloc (.cells #[.int .i64 sk, .int .i64 sn, .string st] 26)).drewN nq).cell? ⟨wr.heap.size, 2, none⟩ = some (.string st) := by simp
          clear c0 c1 c2 d0 d1 d2 e1 e2 hR hB
          generalize (wr.alloc (.cells #[.int .i64 sk, .int .i64 sn, .string st] 26)).drewN nq = W at hRW hBW b1 b2 ⊢
          obtain ⟨d0, d1, d2⟩ := hRW.cell hp'.out
          have e1 := hRW.frozen (l * 3 + 1)
          go_region
          have hRV : RowAt ((W.setCell ⟨g, l * 3 + 1, none⟩ (.int .i64 (wrap64 (pn + sn)))).drew) g (ys.set l ⟨sk, wrap64 (pn + sn), pt⟩) := ⟨(hRW.set_n hp'.out _).out⟩
          have hBV : Below w.heap.size w ((W.setCell ⟨g, l * 3 + 1, none⟩ (.int .i64 (wrap64 (pn + sn)))).drew) := below_drew (hBW.setCell (by rw [← Hg.out]; exact Nat.le_refl _) _)
          have b3 : ((W.setCell ⟨g, l * 3 + 1, none⟩ (.int .i64 (wrap64 (pn + sn)))).drew).cell? ⟨wr.heap.size, 2, none⟩ = some (.string st) := by
            have hne : wr.heap.size ≠ g := by omega
            rw [← b2]; exact World.cell?_of_block (Below.heap_setCell _ _ _ _ hne)
          generalize (W.setCell ⟨g, l * 3 + 1, none⟩ (.int .i64 (wrap64 (pn + sn)))).drew = V at hRV hBV b3 ⊢
          clear d0 d1 d2 e1 b1 b2
          obtain ⟨d0, d1, d2⟩ := hRV.cell (j := l) (s := ⟨sk, wrap64 (pn + sn), pt⟩) (by simp [hll])
          have e2 := hRV.frozen (l * 3 + 2)
          have hsz : pt.size + st.size ≤ 9223372036854775807 := by
            have h1 := acc_bytes hpl.out
            have h2 := fold_bytes zs i _ hs'.out
            rw [hacc.out] at h1
            have h3 := hzb.out
            simp only at h1 h2
            omega
          go_wp2_with fail
          go_region
          have hRU : RowAt ((V.setCell ⟨g, l * 3 + 2, none⟩ (.string (pt ++ st))).drew) g ((ys.set l ⟨sk, wrap64 (pn + sn), pt⟩).set l ⟨sk, wrap64 (pn + sn), pt ++ st⟩) := ⟨(hRV.set_t (j := l) (s := ⟨sk, wrap64 (pn + sn), pt⟩) (by simp [hll]) _).out⟩
          have hBU : Below w.heap.size w ((V.setCell ⟨g, l * 3 + 2, none⟩ (.string (pt ++ st))).drew) := below_drew (hBV.setCell (by rw [← Hg.out]; exact Nat.le_refl _) _)
          generalize (V.setCell ⟨g, l * 3 + 2, none⟩ (.string (pt ++ st))).drew = U at hRU hBU ⊢
          clear d0 d1 d2 e2
          go_wp2_with fail
          go_roundw
          case rel =>
            refine ⟨l, i + 1, nstep acc ⟨sk, sn, st⟩, _, rfl, by go_num, by omega, hfs.out.symm, ?_, hRU, ?_, ?_, ?_, hBU⟩
            · show _ ∧ _ ∧ _
              have h1 := hlen.out
              have h2 := hl1'.out
              rw [nstep_same (s := ⟨sk, sn, st⟩) hpl.out rfl]
              simp [h2]
              omega
            · show _ = _
              simp [hyl.out]
            · show _ = _
              have h2 := hl1'.out
              have h3 := hyt.out
              rw [nstep_same (s := ⟨sk, sn, st⟩) hpl.out rfl, List.set_set]
              have h4 : acc.dropLast = ys.take l := by
                conv => lhs; rw [← h3]
                rw [List.dropLast_eq_take, List.length_take, List.take_take]
                congr 1
                omega
              rw [h4]
              simp [Nat.min_eq_left (Nat.le_of_lt hll)]
              exact take_set_snoc _ hll
            · show ∀ m, _
              intro m hm1 hm2
              have h1 := hlen.out
              rw [List.set_set, List.getElem?_set_ne (by omega)]
              exact hsm.out m (by omega) hm2
          case measure => simp [intOf]; omega
        · have hk1 : (sk == pk) = false := by simpa using hk
          have hl2 : l + 1 < ys.length := by have := hlen.out.1; have := hyl.out; have := hzl.out; have := hl1'.out; omega
          have hlz3 : l + 1 < zs.length := by have := hlen.out.1; have := hl1'.out; omega
          have hlz4 : (l : Int) + 1 < (zs.length : Int) := by omega
          clear d0 d1 d2 e1 e2
          obtain ⟨d0, d1, d2⟩ := hR.cell hp'.out
          obtain ⟨q, hq⟩ : ∃ q, ys[l + 1]? = some q := ⟨_, List.getElem?_eq_getElem hl2⟩
          obtain ⟨f0, f1, f2⟩ := hR.cell hq
          have e0 := hR.frozen ((l + 1) * 3)
          have e1 := hR.frozen ((l + 1) * 3 + 1)
          have e2 := hR.frozen ((l + 1) * 3 + 2)
          clear hq
          go_wp2_with fail
          go_quiet (fail)
          go_wp2_with fail
          go_roundw
          case rel =>
            have hz2 : w.heap.size ≤ g := by rw [← Hg.out]; exact Nat.le_refl _
            have hRW : RowAt ((wr.alloc (.cells #[.int .i64 sk, .int .i64 sn, .string st] 26)).drewN nq) g ys := ⟨(hR.alloc _).out⟩
            refine ⟨l + 1, i + 1, nstep acc ⟨sk, sn, st⟩, _, by go_num, by go_num, by omega, hfs.out.symm, ?_, hRW.set_all hl2 ⟨sk, sn, st⟩, ?_, ?_, ?_, (((pw_below_drewN (hB.alloc hzw _) nq).setCell hz2 _).setCell hz2 _).setCell hz2 _⟩
            · show _ ∧ _ ∧ _
              have h1 := hlen.out
              have h2 := hl1'.out
              rw [nstep_other (s := ⟨sk, sn, st⟩) hpl.out (fun h => hk h.symm)]
              simp [h2]
              omega
            · show _ = _
              simp [hyl.out]
            · show _ = _
              have h2 := hl1'.out
              have h3 := hyt.out
              rw [nstep_other (s := ⟨sk, sn, st⟩) hpl.out (fun h => hk h.symm)]
              rw [List.length_append, h2, List.length_singleton, take_set_snoc _ hl2]
              rw [h2] at h3
              rw [h3]
            · show ∀ m, _
              intro m hm1 hm2
              have h1 := hlen.out
              have h2 := hl1'.out
              rw [List.getElem?_set_ne (by omega)]
              exact hsm.out m (by omega) hm2
          case measure => simp [intOf]; omega
    · have hie : Hid (i = zs.length) := (by omega : i = zs.length)
      have hnl : Hid (acc.length = (normS xs).length) := by
        show _ = _
        rw [hfin.out, hacc.out, hie.out, List.take_length]
      have hmin : min ((l : Int) + 1) (zs.length : Int) = (acc.length : Int) := by
        have h1 := hlen.out
        have h2 := hie.out
        rcases Nat.eq_zero_or_pos i with h | h
        · have h3 := h1.2.2 h
          omega
        · have h3 := h1.2.1 h
          omega
      have hal : acc.length ≤ xs.length := by have := hlen.out; have := hie.out; have := hzl.out; omega
      have hal2 : l + 1 ≤ 9223372036854775807 := by
        have h1 := hlen.out
        rcases Nat.eq_zero_or_pos i with h | h
        · have h3 := h1.2.2 h
          omega
        · have h3 := h1.2.1 h
          omega
      go_wp2_with fail
      go_ret
      refine ⟨by rw [← Hg.out, ← hnl.out]; rfl, ⟨ys, by rw [← Hg.out]; exact hR, hyl.out, ?_⟩, hB⟩
      have h1 := hyt.out
      rw [← hnl.out, h1, hfin.out, hacc.out, hie.out, List.take_length]

end Go.Proofs.YtmfpfipjhhfbhaaDoor
