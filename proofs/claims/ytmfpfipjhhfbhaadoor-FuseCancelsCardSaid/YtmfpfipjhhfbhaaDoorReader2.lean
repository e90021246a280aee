/- compose's reader: take, of what is kept or dropped. -/
import Derived.Test.YtmfpfipjhhfbhaaDoorReader
namespace Go.Proofs.YtmfpfipjhhfbhaaDoor
open Go.RowKit Go.Proofs.YtmfpfipjhhfbhaaDoorW.PrintWords

set_option maxRecDepth 100000 in
set_option maxHeartbeats 2000000 in
theorem take_num_part (p g : Nat) (s : Sp) (X : List Sp) (n : Nat) (w : World) (h : Rdr w p g (s :: X) []) (hk : s.k ≠ 2) (h1 : (n : Int) < s.n) (hb : s.n ≤ 1048576) :
    Calls Tryd.prog 70 #[.pointer (some ⟨p, 0, none⟩), .int .i64 n] w (TakePost p g ⟨s.k, n, ⟨#[]⟩⟩ (⟨s.k, s.n - n, s.t⟩ :: X) [] w) := by
  obtain ⟨v, tv, hp, hX, hR⟩ := h.out
  have k0 := blk_frozen hp 0
  have k2 := blk_cell hp 0
  have hpl := blk_lt hp
  have hX' := hX
  have hgl := hX.lt
  have hpg := h.ne
  obtain ⟨o, c, rfl, hc1, hc2, d0, d1, d2, f1, htail, hset, hst⟩ := hX.head
  have hs2 := hset (s.n - n)
  clear htail hset hst hX d2
  obtain ⟨sk, sn, st⟩ := s
  simp only at hk h1 hb d0 d1 hs2
  have HP := Lib.hid hp
  have HX := Lib.hid hs2
  have HR := Lib.hid hR
  have hkb : (sk == 2) = false := by simpa using hk
  clear hp hX' h hR hs2 hk
  go_enter Tryd.func70, Tryd.ntmps70
  go_wp2_with fail
  obtain ⟨w1, hw1⟩ : ∃ w1, w1 = w.setCell ⟨g, o * 3 + 1, none⟩ (.int .i64 (sn - n)) := ⟨_, rfl⟩
  have hg1 : w.grownBy w1 (some g) := by rw [hw1]; exact gb_set (World.grownBy.refl _ _) _ _
  have hz1 : w1.heap.size = w.heap.size := by rw [hw1]; simp
  rw [← hw1]
  obtain ⟨W, hW⟩ : ∃ W, W = ((w1.alloc (.cells #[.int .i64 0, .int .i64 0, .string ⟨#[]⟩] 26)).alloc (.cells #[.int .i64 sk, .int .i64 n, .string ⟨#[]⟩] 26)) := ⟨_, rfl⟩
  rw [← hW]
  have hp1 : w1.heap[p]? = some (.cells #[.slice (some ⟨g, o * 3, none⟩) (X.length + 1) c, tv] 114 (0, 0)) := by rw [hw1]; exact blk_far HP.out (p := ⟨g, o * 3 + 1, none⟩) hpg _
  have hX1 : Rd w1 (.slice (some ⟨g, o * 3, none⟩) (X.length + 1) c) g (⟨sk, sn - n, st⟩ :: X) := by rw [hw1]; exact HX.out
  have hR1 : Rn w1 tv [] := ⟨HR.out.out.choose, HR.out.out.choose_spec.choose, HR.out.out.choose_spec.choose_spec.1, HR.out.out.choose_spec.choose_spec.2.1, HR.out.out.choose_spec.choose_spec.2.2.1, fun h => absurd h (by simp)⟩
  have hBW : Below w1.heap.size w1 W := by rw [hW]; exact ((Below.refl _ _).alloc (Nat.le_refl _) _).alloc (by simp) _
  have hpW := blk_below hp1 hBW
  have hXW := hX1.below hBW hX1.lt
  have hW1 : Rdr W p g (⟨sk, sn - n, st⟩ :: X) [] := ⟨_, _, hpW, hXW, hR1.below hBW⟩
  have hgr : w1.grownBy W (some p) := grown_of_below hBW _
  have hr0 : W.heap[w.heap.size]? = some (.cells #[Value.int .i64 0, .int .i64 0, .string ⟨#[]⟩] 26) := by
    rw [hW, ← hz1]
    exact blk_alloc (blk_new w1 _) _
  have hr1 : W.heap[w.heap.size + 1]? = some (.cells #[.int .i64 sk, .int .i64 n, .string ⟨#[]⟩] 26) := by
    rw [hW, ← hz1]
    have := blk_new (w1.alloc (.cells #[.int .i64 0, .int .i64 0, .string ⟨#[]⟩] 26)) (.cells #[.int .i64 sk, .int .i64 n, .string ⟨#[]⟩] 26)
    simpa using this
  have sc := rsize_calls p g ⟨sk, sn - n, st⟩ X [] W hW1 (by show (0:Int) ≤ sn - n; omega) (by show sn - n ≤ _; omega) (by simp)
  have HZ1 := Lib.hid hz1
  have hz2 : w1.heap.size ≤ w.heap.size := by omega
  clear hW hw1 hz1 k0 k2 f1 d0 d1 HP HX HR hp1 hX1 hR1 hBW hkb
  rw [show (⟨sk, sn - n, st⟩ : Sp).n + (([] : List Nat).length : Int) = sn - n by simp] at sc
  have n4 : ((sn - n) == 0) = false := by simp; omega
  clear hXW hpW
  refine sc.mono ?_
  rintro e w2 ⟨rfl, hb2⟩
  have q0 := blk_below hr0 hb2
  have q1 := blk_below hr1 hb2
  have z0 := blk_cell q1 0
  have z1 := blk_cell q1 1
  have z2 := blk_cell q1 2
  have y0 := blk_cell q0 0
  have y1 := blk_cell q0 1
  have y2 := blk_cell q0 2
  have x0 := blk_frozen q0 0
  have x1 := blk_frozen q0 1
  have x2 := blk_frozen q0 2
  go_wp2_with fail
  have hG2 := gb_set (gb_set (gb_set (gb_below (World.grownBy.refl W (some w.heap.size)) hb2) 0 (.int .i64 sk)) 1 (.int .i64 n)) 2 (.string ⟨#[]⟩)
  have hRf := hW1.grown hG2 (fun k e => by injection e with e; subst e; exact ⟨_, _, hr0, by decide⟩) (by intro e; injection e with e; omega) (by intro e; injection e with e; omega)
  have hGf := gb_new hgr hG2 hz2
  refine bodyPost_ret (v := .agg #[.int .i64 sk, .int .i64 n, .string ⟨#[]⟩]) (by simp [results, Tryd.results70, go_sem, y0, y1, y2]) rfl ?_
  exact ⟨rfl, hRf, w1, hg1, hGf⟩

set_option maxRecDepth 100000 in
set_option maxHeartbeats 2000000 in
theorem take_num_all (p g : Nat) (s : Sp) (X : List Sp) (n : Nat) (w : World) (h : Rdr w p g (s :: X) []) (hk : s.k ≠ 2) (h1' : (n : Int) = s.n) (hb : s.n ≤ 1048576) (hT : ∀ s ∈ X, s.t.size ≤ 1048576 ∧ txtOk s.t = true) :
    Calls Tryd.prog 70 #[.pointer (some ⟨p, 0, none⟩), .int .i64 n] w (TakePost p g ⟨s.k, n, ⟨#[]⟩⟩ X (firstT X) w) := by
  have H1 := Lib.hid h1'
  have h1 : (n : Int) ≤ s.n := by omega
  clear h1'
  obtain ⟨v, tv, hp, hX, hR⟩ := h.out
  have k0 := blk_frozen hp 0
  have k2 := blk_cell hp 0
  have hpl := blk_lt hp
  have hX' := hX
  have hgl := hX.lt
  have hpg := h.ne
  obtain ⟨o, c, rfl, hc1, hc2, d0, d1, d2, f1, htail, hset, hst⟩ := hX.head
  have hs2 := hset (s.n - n)
  clear htail hset hst hX d2
  obtain ⟨sk, sn, st⟩ := s
  simp only at hk h1 hb d0 d1 hs2
  have HP := Lib.hid hp
  have HX := Lib.hid hs2
  have HR := Lib.hid hR
  have hkb : (sk == 2) = false := by simpa using hk
  clear hp hX' h hR hs2 hk
  go_enter Tryd.func70, Tryd.ntmps70
  go_wp2_with fail
  obtain ⟨w1, hw1⟩ : ∃ w1, w1 = w.setCell ⟨g, o * 3 + 1, none⟩ (.int .i64 (sn - n)) := ⟨_, rfl⟩
  have hg1 : w.grownBy w1 (some g) := by rw [hw1]; exact gb_set (World.grownBy.refl _ _) _ _
  have hz1 : w1.heap.size = w.heap.size := by rw [hw1]; simp
  rw [← hw1]
  obtain ⟨W, hW⟩ : ∃ W, W = ((w1.alloc (.cells #[.int .i64 0, .int .i64 0, .string ⟨#[]⟩] 26)).alloc (.cells #[.int .i64 sk, .int .i64 n, .string ⟨#[]⟩] 26)) := ⟨_, rfl⟩
  rw [← hW]
  have hp1 : w1.heap[p]? = some (.cells #[.slice (some ⟨g, o * 3, none⟩) (X.length + 1) c, tv] 114 (0, 0)) := by rw [hw1]; exact blk_far HP.out (p := ⟨g, o * 3 + 1, none⟩) hpg _
  have hX1 : Rd w1 (.slice (some ⟨g, o * 3, none⟩) (X.length + 1) c) g (⟨sk, sn - n, st⟩ :: X) := by rw [hw1]; exact HX.out
  have hR1 : Rn w1 tv [] := ⟨HR.out.out.choose, HR.out.out.choose_spec.choose, HR.out.out.choose_spec.choose_spec.1, HR.out.out.choose_spec.choose_spec.2.1, HR.out.out.choose_spec.choose_spec.2.2.1, fun h => absurd h (by simp)⟩
  have hBW : Below w1.heap.size w1 W := by rw [hW]; exact ((Below.refl _ _).alloc (Nat.le_refl _) _).alloc (by simp) _
  have hpW := blk_below hp1 hBW
  have hXW := hX1.below hBW hX1.lt
  have hW1 : Rdr W p g (⟨sk, sn - n, st⟩ :: X) [] := ⟨_, _, hpW, hXW, hR1.below hBW⟩
  have hgr : w1.grownBy W (some p) := grown_of_below hBW _
  have hr0 : W.heap[w.heap.size]? = some (.cells #[Value.int .i64 0, .int .i64 0, .string ⟨#[]⟩] 26) := by
    rw [hW, ← hz1]
    exact blk_alloc (blk_new w1 _) _
  have hr1 : W.heap[w.heap.size + 1]? = some (.cells #[.int .i64 sk, .int .i64 n, .string ⟨#[]⟩] 26) := by
    rw [hW, ← hz1]
    have := blk_new (w1.alloc (.cells #[.int .i64 0, .int .i64 0, .string ⟨#[]⟩] 26)) (.cells #[.int .i64 sk, .int .i64 n, .string ⟨#[]⟩] 26)
    simpa using this
  have sc := rsize_calls p g ⟨sk, sn - n, st⟩ X [] W hW1 (by show (0:Int) ≤ sn - n; omega) (by show sn - n ≤ _; omega) (by simp)
  have HZ1 := Lib.hid hz1
  have hz2 : w1.heap.size ≤ w.heap.size := by omega
  clear hW hw1 hz1 k0 k2 f1 d0 d1 HP HX HR hp1 hX1 hR1 hBW hkb
  rw [show (⟨sk, sn - n, st⟩ : Sp).n + (([] : List Nat).length : Int) = 0 by have : (n : Int) = sn := H1.out; simp; omega] at sc
  refine sc.mono ?_
  rintro e w2 ⟨rfl, hb2⟩
  have q0 := blk_below hr0 hb2
  have q1 := blk_below hr1 hb2
  have hp2 := blk_below hpW hb2
  by_cases hcc : c = 1
  · subst hcc
    obtain rfl : X = [] := List.eq_nil_of_length_eq_zero (by omega)
    have hX3 := (hXW.below hb2 hXW.lt).tailAt (A := some ⟨g, o * 3, none⟩) (fun hlt => absurd hlt (by simp))
    have hX4 : Rd (w2.setCell ⟨p, 0, none⟩ (.slice (some ⟨g, o * 3, none⟩) (0) 0)) (.slice (some ⟨g, o * 3, none⟩) (0) 0) g ([]) := hX3.far (p := ⟨p, 0, none⟩) (fun e => hpg e.symm) (.slice (some ⟨g, o * 3, none⟩) (0) 0)
    have hp4 := blk_set hp2 0 (.slice (some ⟨g, o * 3, none⟩) (0) 0)
    have lc := load_calls p g ([]) _ _ _ hp4 hX4 hT
    have u0 := blk_cell hp2 0
    have u1 := blk_frozen hp2 0
    have q2 := blk_far q0 (p := ⟨p, 0, none⟩) (by show w.heap.size ≠ p; omega) (.slice (some ⟨g, o * 3, none⟩) (0) 0)
    have q3 := blk_far q1 (p := ⟨p, 0, none⟩) (by show w.heap.size + 1 ≠ p; omega) (.slice (some ⟨g, o * 3, none⟩) (0) 0)
    have hg2 := gb_set (gb_below hgr hb2) 0 (.slice (some ⟨g, o * 3, none⟩) (0) 0)
    have HX4 := Lib.hid hX4
    clear hX3 hX4 hXW hpW hp2 sc hp4 q0 q1 hW1
    go_wp2_with fail
    refine lc.mono ?_
    rintro e w3 ⟨rfl, tv3, hp5, hR5, hg5⟩
    have q0 := blk_grown q2 hg5 (by intro e; injection e with e; omega)
    have q1 := blk_grown q3 hg5 (by intro e; injection e with e; omega)
    have hW1 : Rdr w3 p g ([]) (firstT ([])) := ⟨_, tv3, hp5, HX4.out.grown hg5 (by intro e; injection e with e; exact hpg e.symm), hR5⟩
    have hg6 := World.grownBy.trans hg2 hg5
    have HW1 := Lib.hid hW1
    clear u0 u1 q2 q3 hg5 hg2 hR5 hp5 lc hW1
    have hr3 := q0
    have z0 := blk_cell q1 0
    have z1 := blk_cell q1 1
    have z2 := blk_cell q1 2
    have y0 := blk_cell q0 0
    have y1 := blk_cell q0 1
    have y2 := blk_cell q0 2
    have x0 := blk_frozen q0 0
    have x1 := blk_frozen q0 1
    have x2 := blk_frozen q0 2
    go_wp2_with fail
    have hG2 := gb_set (gb_set (gb_set (World.grownBy.refl w3 (some w.heap.size)) 0 (.int .i64 sk)) 1 (.int .i64 n)) 2 (.string ⟨#[]⟩)
    have hRf := HW1.out.grown hG2 (fun k e => by injection e with e; subst e; exact ⟨_, _, hr3, by decide⟩) (by intro e; injection e with e; omega) (by intro e; injection e with e; omega)
    have hGf := gb_new hg6 hG2 hz2
    refine bodyPost_ret (v := .agg #[.int .i64 sk, .int .i64 n, .string ⟨#[]⟩]) (by simp [results, Tryd.results70, go_sem, y0, y1, y2]) rfl ?_
    exact ⟨rfl, hRf, w1, hg1, hGf⟩
  · skip
    have hX3 := (hXW.below hb2 hXW.lt).tailAt (A := some ⟨g, o * 3 + 3, none⟩) (fun _ => by rw [Nat.add_mul])
    have hX4 : Rd (w2.setCell ⟨p, 0, none⟩ (.slice (some ⟨g, o * 3 + 3, none⟩) (X.length) (c - 1))) (.slice (some ⟨g, o * 3 + 3, none⟩) (X.length) (c - 1)) g (X) := hX3.far (p := ⟨p, 0, none⟩) (fun e => hpg e.symm) (.slice (some ⟨g, o * 3 + 3, none⟩) (X.length) (c - 1))
    have hp4 := blk_set hp2 0 (.slice (some ⟨g, o * 3 + 3, none⟩) (X.length) (c - 1))
    have lc := load_calls p g (X) _ _ _ hp4 hX4 hT
    have u0 := blk_cell hp2 0
    have u1 := blk_frozen hp2 0
    have q2 := blk_far q0 (p := ⟨p, 0, none⟩) (by show w.heap.size ≠ p; omega) (.slice (some ⟨g, o * 3 + 3, none⟩) (X.length) (c - 1))
    have q3 := blk_far q1 (p := ⟨p, 0, none⟩) (by show w.heap.size + 1 ≠ p; omega) (.slice (some ⟨g, o * 3 + 3, none⟩) (X.length) (c - 1))
    have hg2 := gb_set (gb_below hgr hb2) 0 (.slice (some ⟨g, o * 3 + 3, none⟩) (X.length) (c - 1))
    have HX4 := Lib.hid hX4
    clear hX3 hX4 hXW hpW hp2 sc hp4 q0 q1 hW1
    go_wp2_with fail
    refine lc.mono ?_
    rintro e w3 ⟨rfl, tv3, hp5, hR5, hg5⟩
    have q0 := blk_grown q2 hg5 (by intro e; injection e with e; omega)
    have q1 := blk_grown q3 hg5 (by intro e; injection e with e; omega)
    have hW1 : Rdr w3 p g (X) (firstT (X)) := ⟨_, tv3, hp5, HX4.out.grown hg5 (by intro e; injection e with e; exact hpg e.symm), hR5⟩
    have hg6 := World.grownBy.trans hg2 hg5
    have HW1 := Lib.hid hW1
    clear u0 u1 q2 q3 hg5 hg2 hR5 hp5 lc hW1
    have hr3 := q0
    have z0 := blk_cell q1 0
    have z1 := blk_cell q1 1
    have z2 := blk_cell q1 2
    have y0 := blk_cell q0 0
    have y1 := blk_cell q0 1
    have y2 := blk_cell q0 2
    have x0 := blk_frozen q0 0
    have x1 := blk_frozen q0 1
    have x2 := blk_frozen q0 2
    go_wp2_with fail
    have hG2 := gb_set (gb_set (gb_set (World.grownBy.refl w3 (some w.heap.size)) 0 (.int .i64 sk)) 1 (.int .i64 n)) 2 (.string ⟨#[]⟩)
    have hRf := HW1.out.grown hG2 (fun k e => by injection e with e; subst e; exact ⟨_, _, hr3, by decide⟩) (by intro e; injection e with e; omega) (by intro e; injection e with e; omega)
    have hGf := gb_new hg6 hG2 hz2
    refine bodyPost_ret (v := .agg #[.int .i64 sk, .int .i64 n, .string ⟨#[]⟩]) (by simp [results, Tryd.results70, go_sem, y0, y1, y2]) rfl ?_
    exact ⟨rfl, hRf, w1, hg1, hGf⟩

end Go.Proofs.YtmfpfipjhhfbhaaDoor
