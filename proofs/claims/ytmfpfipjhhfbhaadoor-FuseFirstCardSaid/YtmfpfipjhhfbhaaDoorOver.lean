/- The contract of over.Of. -/
import Derived.Test.YtmfpfipjhhfbhaaDoorRd
import Derived.Test.YtmfpfipjhhfbhaaDoorStep
import Derived.Defers
import Derived.Recover
import Derived.Deep.AppendLies
import Derived.Deep.RegionLaw
namespace Go.Proofs.YtmfpfipjhhfbhaaDoor
open Go.RowKit Go.Proofs.YtmfpfipjhhfbhaaDoorW.PrintWords

/-- Which error is told of two operations that ought to take the same. -/
def bothE (xs ys : List Sp) : Int := if opMay xs ≠ 0 then opMay xs else if opMay ys ≠ 0 then opMay ys else if sumW spIn xs ≠ sumW spIn ys then 5 else 0
theorem bothE_1 {xs ys : List Sp} (h : opMay xs ≠ 0) : bothE xs ys = opMay xs := by unfold bothE; rw [if_pos h]
theorem bothE_2 {xs ys : List Sp} (h : opMay xs = 0) (h2 : opMay ys ≠ 0) : bothE xs ys = opMay ys := by unfold bothE; rw [if_neg (by simpa using h), if_pos h2]
theorem bothE_3 {xs ys : List Sp} (h : opMay xs = 0) (h2 : opMay ys = 0) (h3 : sumW spIn xs ≠ sumW spIn ys) : bothE xs ys = 5 := by
  unfold bothE; rw [if_neg (by simpa using h), if_neg (by simpa using h2), if_pos h3]
/-- The two blocks that a function has laid at its begin, in a later world. -/
theorem two_boxes {w W : World} {u v0 v1 : Value} {t0 t1 : TypeId} (h : Below (w.heap.size + 2) ((w.alloc (.cells #[u] t0)).alloc (.cells #[v0, v1] t1)) W) :
    W.cell? ⟨w.heap.size, 0, none⟩ = some u ∧ W.cell? ⟨w.heap.size + 1, 0, none⟩ = some v0 ∧ W.cell? ⟨w.heap.size + 1, 1, none⟩ = some v1 ∧ W.frozen? ⟨w.heap.size, 0, none⟩ = false ∧ Below w.heap.size w W ∧ w.heap.size + 2 ≤ W.heap.size := by
  refine ⟨?_, ?_, ?_, ?_, ?_, ?_⟩
  · rw [h.cell (show w.heap.size < w.heap.size + 2 by omega)]; simp
  · rw [h.cell (show w.heap.size + 1 < w.heap.size + 2 by omega)]; simp
  · rw [h.cell (show w.heap.size + 1 < w.heap.size + 2 by omega)]; simp
  · rw [h.frozen (show w.heap.size < w.heap.size + 2 by omega)]; simp
  · exact (((Below.refl _ _).alloc (Nat.le_refl _) _).alloc (by simp) _).trans (h.mono (by omega))
  · have := h.size; simpa using this

set_option maxRecDepth 100000 in
set_option maxHeartbeats 1000000 in
theorem over_err1 (A B : Option Addr) (ca cb : Nat) (xs ys : List Sp) (w : World) (hL : Laid w) (hTx : TextsOk xs) (hx : Kd.C kSp w A xs.length xs) (hy : Kd.C kSp w B ys.length ys) (he : opMay xs ≠ 0) :
    Calls Tryd.prog 17 #[.slice A xs.length ca, .slice B ys.length cb] w fun e w' => e = .returned (.tuple #[.slice none 0 0, .int .i64 (opMay xs)]) ∧ Below w.heap.size w w' := by
  have HX := Aside0.mk hx
  have HY := Aside0.mk hy
  have hm := hx.2.1
  clear hx hy
  have hmf : ∀ (fn : Fn) (first cap : Array Value) (w : World), (Instr.makeFunc fn first cap).run Tryd.prog w = .ok (.func fn first cap) w := fun _ _ _ _ => rfl
  obtain ⟨W0, hW0⟩ : ∃ W0, W0 = (w.alloc (.cells #[.slice none 0 0] 27)).alloc (.cells #[.slice A xs.length ca, .slice B ys.length cb] 27) := ⟨_, rfl⟩
  have T0 : Below (w.heap.size + 2) ((w.alloc (.cells #[.slice none 0 0] 27)).alloc (.cells #[.slice A xs.length ca, .slice B ys.length cb] 27)) W0 := by rw [hW0]; exact Below.refl _ _
  have HW0 := Lib.hid hW0
  clear hW0
  obtain ⟨k0, k1, k2, k3, B0, hz⟩ := two_boxes T0
  have c1 := opMay_calls A ca xs W0 (hL.below B0) hTx (Kd.C_below HX.out B0)
  generalize opMay xs = E at c1 he
  have he' : (E != 0) = true := by simpa using he
  have he2 := Lib.hid he
  clear he
  go_enter_defers Tryd.func17, Tryd.ntmps17
  go_wp2_with fail
  refine wp_loop_rounds 2 ?_
  rw [rounds_succ]
  go_wp2_with fail
  rw [← HW0.out]
  refine c1.mono ?_
  rintro e w1 ⟨rfl, hb⟩
  have T1 := T0.trans (hb.mono (by omega))
  clear hb hz k0 k1 k2 k3
  obtain ⟨k0, k1, k2, k3, B1, hz⟩ := two_boxes T1
  go_wp2_with fail
  exact ⟨_, by simp [results, Tryd.results17, go_sem, k0], rfl, B1.setCell (Nat.le_refl _) _⟩

set_option maxRecDepth 100000 in
set_option maxHeartbeats 1000000 in
theorem over_err2 (A B : Option Addr) (ca cb : Nat) (xs ys : List Sp) (w : World) (hL : Laid w) (hTx : TextsOk xs) (hTy : TextsOk ys) (hx : Kd.C kSp w A xs.length xs) (hy : Kd.C kSp w B ys.length ys) (h1 : opMay xs = 0) (he : opMay ys ≠ 0) :
    Calls Tryd.prog 17 #[.slice A xs.length ca, .slice B ys.length cb] w fun e w' => e = .returned (.tuple #[.slice none 0 0, .int .i64 (opMay ys)]) ∧ Below w.heap.size w w' := by
  have HX := Aside0.mk hx
  have HY := Aside0.mk hy
  have hm := hx.2.1
  clear hx hy
  have hmf : ∀ (fn : Fn) (first cap : Array Value) (w : World), (Instr.makeFunc fn first cap).run Tryd.prog w = .ok (.func fn first cap) w := fun _ _ _ _ => rfl
  obtain ⟨W0, hW0⟩ : ∃ W0, W0 = (w.alloc (.cells #[.slice none 0 0] 27)).alloc (.cells #[.slice A xs.length ca, .slice B ys.length cb] 27) := ⟨_, rfl⟩
  have T0 : Below (w.heap.size + 2) ((w.alloc (.cells #[.slice none 0 0] 27)).alloc (.cells #[.slice A xs.length ca, .slice B ys.length cb] 27)) W0 := by rw [hW0]; exact Below.refl _ _
  have HW0 := Lib.hid hW0
  clear hW0
  obtain ⟨k0, k1, k2, k3, B0, hz⟩ := two_boxes T0
  have c1 := opMay_calls A ca xs W0 (hL.below B0) hTx (Kd.C_below HX.out B0)
  rw [h1] at c1
  clear h1
  have c2' := fun W (hL' : Laid W) hC => opMay_calls B cb ys W hL' hTy hC
  generalize opMay ys = E at c2' he ⊢
  have C2 := Lib.hid c2'
  clear c2'
  have he' : (E != 0) = true := by simpa using he
  have he2 := Lib.hid he
  clear he
  go_enter_defers Tryd.func17, Tryd.ntmps17
  go_wp2_with fail
  refine wp_loop_rounds 3 ?_
  rw [rounds_succ]
  go_wp2_with fail
  rw [← HW0.out]
  refine c1.mono ?_
  rintro e w1 ⟨rfl, hb⟩
  have T1 := T0.trans (hb.mono (by omega))
  clear hb hz k0 k1 k2 k3
  obtain ⟨k0, k1, k2, k3, B1, hz⟩ := two_boxes T1
  have c2 := C2.out w1 (hL.below B1) (Kd.C_below HY.out B1)
  go_wp2_with fail
  rw [rounds_succ]
  go_wp2_with fail
  refine c2.mono ?_
  rintro e w2 ⟨rfl, hb⟩
  have T2 := T1.trans (hb.mono (by omega))
  clear hb hz k0 k1 k2 k3
  obtain ⟨k0, k1, k2, k3, B2, hz⟩ := two_boxes T2
  go_wp2_with fail
  exact ⟨_, by simp [results, Tryd.results17, go_sem, k0], rfl, B2.setCell (Nat.le_refl _) _⟩

set_option maxRecDepth 100000 in
set_option maxHeartbeats 1000000 in
theorem over_err3 (A B : Option Addr) (ca cb : Nat) (xs ys : List Sp) (w : World) (hL : Laid w) (hTx : TextsOk xs) (hTy : TextsOk ys) (hx : Kd.C kSp w A xs.length xs) (hy : Kd.C kSp w B ys.length ys) (h1 : opMay xs = 0) (h2 : opMay ys = 0) (he : sumW spIn xs ≠ sumW spIn ys) :
    Calls Tryd.prog 17 #[.slice A xs.length ca, .slice B ys.length cb] w fun e w' => e = .returned (.tuple #[.slice none 0 0, .int .i64 5]) ∧ Below w.heap.size w w' := by
  have HX := Aside0.mk hx
  have HY := Aside0.mk hy
  have hm := hx.2.1
  clear hx hy
  have hmf : ∀ (fn : Fn) (first cap : Array Value) (w : World), (Instr.makeFunc fn first cap).run Tryd.prog w = .ok (.func fn first cap) w := fun _ _ _ _ => rfl
  obtain ⟨W0, hW0⟩ : ∃ W0, W0 = (w.alloc (.cells #[.slice none 0 0] 27)).alloc (.cells #[.slice A xs.length ca, .slice B ys.length cb] 27) := ⟨_, rfl⟩
  have T0 : Below (w.heap.size + 2) ((w.alloc (.cells #[.slice none 0 0] 27)).alloc (.cells #[.slice A xs.length ca, .slice B ys.length cb] 27)) W0 := by rw [hW0]; exact Below.refl _ _
  have HW0 := Lib.hid hW0
  clear hW0
  obtain ⟨k0, k1, k2, k3, B0, hz⟩ := two_boxes T0
  have c1 := opMay_calls A ca xs W0 (hL.below B0) hTx (Kd.C_below HX.out B0)
  rw [h1] at c1
  clear h1
  go_enter_defers Tryd.func17, Tryd.ntmps17
  go_wp2_with fail
  refine wp_loop_rounds 4 ?_
  rw [rounds_succ]
  go_wp2_with fail
  rw [← HW0.out]
  refine c1.mono ?_
  rintro e w1 ⟨rfl, hb⟩
  have T1 := T0.trans (hb.mono (by omega))
  clear hb hz k0 k1 k2 k3
  obtain ⟨k0, k1, k2, k3, B1, hz⟩ := two_boxes T1
  have c2 := opMay_calls B cb ys w1 (hL.below B1) hTy (Kd.C_below HY.out B1)
  rw [h2] at c2
  clear h2
  go_wp2_with fail
  rw [rounds_succ]
  go_wp2_with fail
  refine c2.mono ?_
  rintro e w2 ⟨rfl, hb⟩
  have T2 := T1.trans (hb.mono (by omega))
  clear hb hz k0 k1 k2 k3
  obtain ⟨k0, k1, k2, k3, B2, hz⟩ := two_boxes T2
  have c3 := opIn_calls A ca xs w2 (hL.below B2) hTx (Kd.C_below HX.out B2)
  generalize sumW spIn xs = u at c3 he
  go_wp2_with fail
  rw [rounds_succ]
  go_wp2_with fail
  refine c3.mono ?_
  rintro e w3 ⟨rfl, hb⟩
  have T3 := T2.trans (hb.mono (by omega))
  clear hb hz k0 k1 k2 k3
  obtain ⟨k0, k1, k2, k3, B3, hz⟩ := two_boxes T3
  have c4 := opIn_calls B cb ys w3 (hL.below B3) hTy (Kd.C_below HY.out B3)
  generalize sumW spIn ys = v at c4 he
  have he' : (u != v) = true := by simpa using he
  have he2 := Lib.hid he
  clear he
  go_wp2_with fail
  refine c4.mono ?_
  rintro e w4 ⟨rfl, hb⟩
  have T4 := T3.trans (hb.mono (by omega))
  clear hb hz k0 k1 k2 k3
  obtain ⟨k0, k1, k2, k3, B4, hz⟩ := two_boxes T4
  go_wp2_with fail
  exact ⟨_, by simp [results, Tryd.results17, go_sem, k0], rfl, B4.setCell (Nat.le_refl _) _⟩

/-- What the deferred closure leaves: the box holds the shortest form of what it held. -/
def DeferPost (b : Nat) (out : List Sp) (w : World) (e : Ending) (w' : World) : Prop :=
  e = .returned (.tuple #[]) ∧ ∃ v, w'.cell? ⟨b, 0, none⟩ = some v ∧ Kd.R kSp 26 w' w.heap.size (fun _ => True) v (normS out) ∧ w.grownBy w' (some b)
theorem norm_owned {xs : List Sp} {w w' : World} {e : Ending} (h : NormPost xs w e w') (hm : xs.length ≤ 4398046511104) : ∃ v, e = .returned v ∧ Kd.R kSp 26 w' w.heap.size (fun _ => True) v (normS xs) ∧ Below w.heap.size w w' := by
  obtain ⟨h1, ⟨ys, h2, h3, h4⟩, h5⟩ := h
  have hle := normS_length_le xs
  have := h2.owned (by simp only [maxLen]; omega) (Nat.le_refl _) (normS xs).length (by omega)
  rw [h4, h3] at this
  exact ⟨_, h1, this, h5⟩
set_option maxHeartbeats 1000000 in
theorem over_defer (b : Nat) (A : Option Addr) (c : Nat) (out : List Sp) (u : FrameMode) (w : World) (hc : w.cell? ⟨b, 0, none⟩ = some (.slice A out.length c)) (hf : w.frozen? ⟨b, 0, none⟩ = false) (hr : Kd.C kSp w A out.length out) (hl : out.length ≤ 4398046511104) (hb : bytesL out ≤ 4611686018427387904) :
    CallsD Tryd.prog 50 #[.pointer (some ⟨b, 0, none⟩)] u w fun e u' w' => u' = u ∧ DeferPost b out w e w' := by
  have n1 := normOf_calls A c out w hr hl hb
  have hlt := World.block_lt_of_cell? w _ hc
  simp only at hlt
  go_enter_d Tryd.func50, Tryd.ntmps50
  go_wp2_with fail
  refine n1.mono ?_
  intro e w1 hN
  obtain ⟨v, rfl, hR, hB⟩ := norm_owned hN hl
  obtain ⟨Av, cv, rfl⟩ := Kd.R_slice hR
  obtain ⟨hc1, hf1, hz1⟩ := bcell hB
  go_wp2_with fail
  go_end0
  refine ⟨rfl, _, ?_, Kd.R_mono (Kd.R_far (p := ⟨b, 0, none⟩) (Kd.R_bound hR) (fun k hk => by have := hk.2.1; show k ≠ b; omega) _) (fun _ hk => hk.1), gb_set (grown_of_below hB _) _ _⟩
  · have h1 : w1.cell? ⟨b, 0, none⟩ = some (.slice A out.length c) := by rw [hc1 b 0 hlt]; exact hc
    exact World.cell?_setCell_same _ _ _ h1

end Go.Proofs.YtmfpfipjhhfbhaaDoor

/- 'l = append(l, s)' as a step of a region that draws its order; l lies in a box, or not; beside it two rows that are read. -/
namespace Go.Proofs.YtmfpfipjhhfbhaaDoor
open Go.RowKit Go.Proofs.YtmfpfipjhhfbhaaDoorW.PrintWords

theorem infoSp' : (Tryd.prog.info? 26).map (fun i => (i.zero, i.size, i.bytes)) = some (some (.agg #[.int .i64 0, .int .i64 0, .string ⟨#[]⟩]), kSp.sz, 32) := infoSp
/-- Where the row may not lie: the box, the two rows that are read. -/
def Off (b ga gs : Nat) (k : Nat) : Prop := k ≠ b ∧ k ≠ ga ∧ k ≠ gs
/-- A box, what is in it, and the two rows beside it. -/
structure Trio (b base ga gs : Nat) (v : Value) (out : List Sp) (va vs : Value) (X Y : List Sp) (w : World) : Prop where
  row : Kd.R kSp 26 w base (Off b ga gs) v out
  ra : Rd w va ga X
  rs : Rd w vs gs Y
  cell : w.cell? ⟨b, 0, none⟩ = some v
  frz : w.frozen? ⟨b, 0, none⟩ = false
  ne : ga ≠ gs ∧ b ≠ ga ∧ b ≠ gs
section
variable {b base ga gs : Nat} {v : Value} {out : List Sp} {va vs : Value} {X Y : List Sp} {w : World}
theorem Trio.lt (h : Trio b base ga gs v out va vs X Y w) : b < w.heap.size := World.block_lt_of_cell? w _ h.cell
theorem Trio.below {w1 : World} (h : Trio b base ga gs v out va vs X Y w) (hb : Below w.heap.size w w1) : Trio b base ga gs v out va vs X Y w1 :=
  ⟨Kd.R_below h.row hb, h.ra.below hb h.ra.lt, h.rs.below hb h.rs.lt, by rw [hb.cell (p := ⟨b, 0, none⟩) h.lt]; exact h.cell, by rw [hb.frozen (p := ⟨b, 0, none⟩) h.lt]; exact h.frz, h.ne⟩
theorem Trio.drew (h : Trio b base ga gs v out va vs X Y w) : Trio b base ga gs v out va vs X Y w.drew := h.below (below_drew (Below.refl _ _))
theorem Trio.drewN (h : Trio b base ga gs v out va vs X Y w) (n : Nat) : Trio b base ga gs v out va vs X Y (w.drewN n) := h.below (pw_below_drewN (Below.refl _ _) n)
theorem Trio.alloc (h : Trio b base ga gs v out va vs X Y w) (o : Obj) : Trio b base ga gs v out va vs X Y (w.alloc o) := h.below (below_alloc (Below.refl _ _) o)
theorem Trio.later (h : Trio b base ga gs v out va vs X Y w) : ∀ o, (w.alloc o).cell? ⟨b, 0, none⟩ = some v := fun o => (h.alloc o).cell
theorem Trio.form (h : Trio b base ga gs v out va vs X Y w) : ∃ A c, v = .slice A out.length c := Kd.R_slice h.row
theorem Trio.left {va' : Value} {X' : List Sp} (h : Trio b base ga gs v out va vs X Y w) (hr : Rd w va' ga X') : Trio b base ga gs v out va' vs X' Y w := ⟨h.row, hr, h.rs, h.cell, h.frz, h.ne⟩
theorem Trio.right {vs' : Value} {Y' : List Sp} (h : Trio b base ga gs v out va vs X Y w) (hr : Rd w vs' gs Y') : Trio b base ga gs v out va vs' X Y' w := ⟨h.row, h.ra, hr, h.cell, h.frz, h.ne⟩
theorem Trio.grownL {w1 : World} {va' : Value} {X' : List Sp} (h : Trio b base ga gs v out va vs X Y w) (hg : w.grownBy w1 (some ga)) (hr : Rd w1 va' ga X') : Trio b base ga gs v out va' vs X' Y w1 := by
  have hm := hg.block b h.lt (by intro e; injection e with e; exact h.ne.2.1 e)
  refine ⟨Kd.R_grown h.row hg (fun k hk e => by injection e with e; exact hk.2.1 e), hr, h.rs.grown hg (fun e => by injection e with e; exact h.ne.1 e.symm), by rw [World.cell?_of_block hm]; exact h.cell, ?_, h.ne⟩
  have e : w1.frozen? ⟨b, 0, none⟩ = w.frozen? ⟨b, 0, none⟩ := by unfold World.frozen?; rw [hm]
  rw [e]; exact h.frz
theorem Trio.grownR {w1 : World} {vs' : Value} {Y' : List Sp} (h : Trio b base ga gs v out va vs X Y w) (hg : w.grownBy w1 (some gs)) (hr : Rd w1 vs' gs Y') : Trio b base ga gs v out va vs' X Y' w1 := by
  have hm := hg.block b h.lt (by intro e; injection e with e; exact h.ne.2.2 e)
  refine ⟨Kd.R_grown h.row hg (fun k hk e => by injection e with e; exact hk.2.2 e), h.ra.grown hg (fun e => by injection e with e; exact h.ne.1 e), hr, by rw [World.cell?_of_block hm]; exact h.cell, ?_, h.ne⟩
  have e : w1.frozen? ⟨b, 0, none⟩ = w.frozen? ⟨b, 0, none⟩ := by unfold World.frozen?; rw [hm]
  rw [e]; exact h.frz
/-- What lies behind the append; and behind the store into the box. -/
theorem Trio.app {w1 : World} {v1 : Value} {s : Sp} (h : Trio b base ga gs v out va vs X Y w) (hg : w.grownBy w1 v.ownBlock) (hr : Kd.R kSp 26 w1 base (Off b ga gs) v1 (out ++ [s])) : w1.cell? ⟨b, 0, none⟩ = some v ∧ w1.frozen? ⟨b, 0, none⟩ = false ∧ Trio b base ga gs v1 (out ++ [s]) va vs X Y (w1.setCell ⟨b, 0, none⟩ v1) := by
  have hne : ∀ k, k = b ∨ k = ga ∨ k = gs → some k ≠ v.ownBlock := by
    intro k hk he
    have := h.row.1 k he.symm
    obtain ⟨h1, h2, h3⟩ := this
    rcases hk with rfl | rfl | rfl
    · exact h1 rfl
    · exact h2 rfl
    · exact h3 rfl
  have hm := hg.block b h.lt (hne b (.inl rfl))
  have c1 : w1.cell? ⟨b, 0, none⟩ = some v := by rw [World.cell?_of_block hm]; exact h.cell
  have c2 : w1.frozen? ⟨b, 0, none⟩ = false := by
    have e : w1.frozen? ⟨b, 0, none⟩ = w.frozen? ⟨b, 0, none⟩ := by unfold World.frozen?; rw [hm]
    rw [e]; exact h.frz
  refine ⟨c1, c2, Kd.R_far hr (p := ⟨b, 0, none⟩) (fun k hk => hk.1) _, (h.ra.grown hg (hne ga (.inr (.inl rfl)))).far (p := ⟨b, 0, none⟩) (fun e => h.ne.2.1 e.symm) _, (h.rs.grown hg (hne gs (.inr (.inr rfl)))).far (p := ⟨b, 0, none⟩) (fun e => h.ne.2.2 e.symm) _, World.cell?_setCell_same _ _ _ c1, by rw [World.frozen?_setCell]; exact c2, h.ne⟩
end

/-- A region of which all orders come to one frame: what follows is shown once. -/
def AtNormal (A : Act) (R : World → Prop) : Exit → Act → World → Prop
  | .normal, a, w => a = A ∧ R w
  | _, _, _ => False
theorem region_once {c : Code} {a : Act} {w : World} {Q : Exit → Act → World → Prop} {A : Act} {R : World → Prop} (h1 : c.wp Tryd.prog (AtNormal A R) a w) (h2 : ∀ w', R w' → Q .normal A w') : c.wp Tryd.prog Q a w :=
  Code.wp_mono (fun e a w h => by
    cases e <;> first | (obtain ⟨rfl, h⟩ := (h : _ ∧ _); exact h2 _ h) | exact (h : False).elim) h1

section
variable {ops : Array Oper} {o : Oper} {a : Act} {Q : Exit → Act → World → Prop} {K : Act → World → Prop} {E : Prop}
theorem step_app {b base ga gs : Nat} {A : Option Addr} {cv : Nat} {out : List Sp} {va vs : Value} {X Y : List Sp} {w0 W : World} (hgd : o.guard = none) (s x : Operand) (ho : o.op = .call { callee := .builtin .append, args := #[s, x], argTypes := #[27, 27] })
    (p : Sp) (H : Trio b base ga gs (.slice A out.length cv) out va vs X Y W) (HB : Below base w0 W)
    (hs : a.eval s = .slice A out.length cv) (hx : a.eval x = .slice (some ⟨W.heap.size, 0, none⟩) 1 1) (hl : out.length + 1 ≤ 4194304) (hbase : base ≤ w0.heap.size)
    (h : ∀ A1 c1 w1, w1.cell? ⟨b, 0, none⟩ = some (.slice A out.length cv) → w1.frozen? ⟨b, 0, none⟩ = false → Trio b base ga gs (.slice A1 (out.length + 1) c1) (out ++ [p]) va vs X Y (w1.setCell ⟨b, 0, none⟩ (.slice A1 (out.length + 1) c1)) → Below base w0 w1 → K (a.put o.dst (.slice A1 (out.length + 1) c1)) w1) :
    if Region.wanted o (yielded ops a.tmps) = true then Oper.wp Tryd.prog o a (W.alloc (.cells #[.int .i64 p.k, .int .i64 p.n, .string p.t] 26)) K Q else E := by
  have hw : Region.wanted o (yielded ops a.tmps) = true := by simp [Region.wanted, hgd]
  have hz := HB.size
  have hoff : Kd.R kSp 26 W base (Off b ga gs) (.slice A out.length cv) out := H.row
  have hEK : (if Region.wanted o (yielded ops a.tmps) = true then Oper.wp Tryd.prog o a (W.alloc (.cells #[.int .i64 p.k, .int .i64 p.n, .string p.t] 26)) K Q else K (a.put o.dst undef) (W.alloc (.cells #[.int .i64 p.k, .int .i64 p.n, .string p.t] 26))) := by
    refine Kd.R_append_step kSp (w0 := w0) (W := W) base hw s x 27 26 _ 32 ho Tryd.underlying27 infoSp' rfl (by show 0 < 3; omega) (by omega) (.slice A out.length cv) out p [.int .i64 p.k, .int .i64 p.n, .string p.t] (Off b ga gs) (fun _ => False) hs hx (kSp_mkM _ _ _ _) (fun k hk => hk.elim) (fun k hk => ?_) hoff HB (by omega) (by omega) ?_
    · have h1 := H.lt
      refine ⟨?_, ?_, ?_⟩
      · omega
      · have := H.ra.lt; omega
      · have := H.rs.lt; omega
    · intro v1 w1 hr hb hg _
      obtain ⟨c1, c2, c3⟩ := H.app hg hr
      obtain ⟨A1, d1, rfl⟩ := Kd.R_slice hr
      simp only [List.length_append, List.length_singleton] at c3 ⊢
      exact h A1 d1 w1 c1 c2 c3 hb
  rw [if_pos hw] at hEK ⊢
  exact hEK
/-- The same, the draw told last. -/
theorem step_appD {b base ga gs : Nat} {A : Option Addr} {cv : Nat} {out : List Sp} {va vs : Value} {X Y : List Sp} {w0 W : World} (hgd : o.guard = none) (s x : Operand) (ho : o.op = .call { callee := .builtin .append, args := #[s, x], argTypes := #[27, 27] })
    (p : Sp) (H : Trio b base ga gs (.slice A out.length cv) out va vs X Y W) (HB : Below base w0 W)
    (hs : a.eval s = .slice A out.length cv) (hx : a.eval x = .slice (some ⟨W.heap.size, 0, none⟩) 1 1) (hl : out.length + 1 ≤ 4194304) (hbase : base ≤ w0.heap.size)
    (h : ∀ A1 c1 w1, w1.cell? ⟨b, 0, none⟩ = some (.slice A out.length cv) → w1.frozen? ⟨b, 0, none⟩ = false → Trio b base ga gs (.slice A1 (out.length + 1) c1) (out ++ [p]) va vs X Y (w1.setCell ⟨b, 0, none⟩ (.slice A1 (out.length + 1) c1)) → Below base w0 w1 → K (a.put o.dst (.slice A1 (out.length + 1) c1)) w1) :
    if Region.wanted o (yielded ops a.tmps) = true then Oper.wp Tryd.prog o a (W.alloc (.cells #[.int .i64 p.k, .int .i64 p.n, .string p.t] 26)).drew K Q else E :=
  step_app hgd s x ho p H.drew (below_drew HB) hs hx hl hbase h
end
end Go.Proofs.YtmfpfipjhhfbhaaDoor
