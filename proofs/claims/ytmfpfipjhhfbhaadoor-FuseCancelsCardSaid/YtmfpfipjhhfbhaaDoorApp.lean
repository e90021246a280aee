/- 'l = append(l, s)' as a step of a region that draws its order; l lies in a box, or not; beside it two rows that are read. -/
import Derived.Test.YtmfpfipjhhfbhaaDoorOver
import Derived.Test.YtmfpfipjhhfbhaaDoorStep2
import Derived.Deep.RegionLaw
namespace Go.Proofs.YtmfpfipjhhfbhaaDoor
open Go.RowKit Go.Proofs.YtmfpfipjhhfbhaaDoorW.PrintWords

theorem infoSp' : (Tryd.prog.info? 26).map (fun i => (i.zero, i.size, i.bytes)) = some (some (.agg #[.int .i64 0, .int .i64 0, .string ⟨#[]⟩]), kSp.sz, 32) := infoSp
/-- Where the row may not lie: the box, the two rows that are read. -/
def Off (b ga gs : Nat) (k : Nat) : Prop := k ≠ b ∧ k ≠ ga ∧ k ≠ gs
/-- A box, what is in it, and the two rows beside it. -/
structure Trio (b base ga gs : Nat) (v : Value) (out : List Sp) (va vs : Value) (X Y : List Sp) (w : World) : Prop where
  row : Kd.R kSp 26 w base (Off b ga gs) v out
  ra : Rd w va ga X
  rs : Rd w vs gs Y
  cell : w.cell? ⟨b, 0, none⟩ = some v
  frz : w.frozen? ⟨b, 0, none⟩ = false
  ne : ga ≠ gs ∧ b ≠ ga ∧ b ≠ gs
section
variable {b base ga gs : Nat} {v : Value} {out : List Sp} {va vs : Value} {X Y : List Sp} {w : World}
theorem Trio.lt (h : Trio b base ga gs v out va vs X Y w) : b < w.heap.size := World.block_lt_of_cell? w _ h.cell
theorem Trio.below {w1 : World} (h : Trio b base ga gs v out va vs X Y w) (hb : Below w.heap.size w w1) : Trio b base ga gs v out va vs X Y w1 :=
  ⟨Kd.R_below h.row hb, h.ra.below hb h.ra.lt, h.rs.below hb h.rs.lt, by rw [hb.cell (p := ⟨b, 0, none⟩) h.lt]; exact h.cell, by rw [hb.frozen (p := ⟨b, 0, none⟩) h.lt]; exact h.frz, h.ne⟩
theorem Trio.drew (h : Trio b base ga gs v out va vs X Y w) : Trio b base ga gs v out va vs X Y w.drew := h.below (below_drew (Below.refl _ _))
theorem Trio.drewN (h : Trio b base ga gs v out va vs X Y w) (n : Nat) : Trio b base ga gs v out va vs X Y (w.drewN n) := h.below (pw_below_drewN (Below.refl _ _) n)
theorem Trio.alloc (h : Trio b base ga gs v out va vs X Y w) (o : Obj) : Trio b base ga gs v out va vs X Y (w.alloc o) := h.below (below_alloc (Below.refl _ _) o)
theorem Trio.later (h : Trio b base ga gs v out va vs X Y w) : ∀ o, (w.alloc o).cell? ⟨b, 0, none⟩ = some v := fun o => (h.alloc o).cell
theorem Trio.form (h : Trio b base ga gs v out va vs X Y w) : ∃ A c, v = .slice A out.length c := Kd.R_slice h.row
theorem Trio.left {va' : Value} {X' : List Sp} (h : Trio b base ga gs v out va vs X Y w) (hr : Rd w va' ga X') : Trio b base ga gs v out va' vs X' Y w := ⟨h.row, hr, h.rs, h.cell, h.frz, h.ne⟩
theorem Trio.right {vs' : Value} {Y' : List Sp} (h : Trio b base ga gs v out va vs X Y w) (hr : Rd w vs' gs Y') : Trio b base ga gs v out va vs' X Y' w := ⟨h.row, h.ra, hr, h.cell, h.frz, h.ne⟩
theorem Trio.grownL {w1 : World} {va' : Value} {X' : List Sp} (h : Trio b base ga gs v out va vs X Y w) (hg : w.grownBy w1 (some ga)) (hr : Rd w1 va' ga X') : Trio b base ga gs v out va' vs X' Y w1 := by
  have hm := hg.block b h.lt (by intro e; injection e with e; exact h.ne.2.1 e)
  refine ⟨Kd.R_grown h.row hg (fun k hk e => by injection e with e; exact hk.2.1 e), hr, h.rs.grown hg (fun e => by injection e with e; exact h.ne.1 e.symm), by rw [World.cell?_of_block hm]; exact h.cell, ?_, h.ne⟩
  have e : w1.frozen? ⟨b, 0, none⟩ = w.frozen? ⟨b, 0, none⟩ := by unfold World.frozen?; rw [hm]
  rw [e]; exact h.frz
theorem Trio.grownR {w1 : World} {vs' : Value} {Y' : List Sp} (h : Trio b base ga gs v out va vs X Y w) (hg : w.grownBy w1 (some gs)) (hr : Rd w1 vs' gs Y') : Trio b base ga gs v out va vs' X Y' w1 := by
  have hm := hg.block b h.lt (by intro e; injection e with e; exact h.ne.2.2 e)
  refine ⟨Kd.R_grown h.row hg (fun k hk e => by injection e with e; exact hk.2.2 e), h.ra.grown hg (fun e => by injection e with e; exact h.ne.1 e), hr, by rw [World.cell?_of_block hm]; exact h.cell, ?_, h.ne⟩
  have e : w1.frozen? ⟨b, 0, none⟩ = w.frozen? ⟨b, 0, none⟩ := by unfold World.frozen?; rw [hm]
  rw [e]; exact h.frz
/-- What lies behind the append; and behind the store into the box. -/
theorem Trio.app {w1 : World} {v1 : Value} {s : Sp} (h : Trio b base ga gs v out va vs X Y w) (hg : w.grownBy w1 v.ownBlock) (hr : Kd.R kSp 26 w1 base (Off b ga gs) v1 (out ++ [s])) : w1.cell? ⟨b, 0, none⟩ = some v ∧ w1.frozen? ⟨b, 0, none⟩ = false ∧ Trio b base ga gs v1 (out ++ [s]) va vs X Y (w1.setCell ⟨b, 0, none⟩ v1) := by
  have hne : ∀ k, k = b ∨ k = ga ∨ k = gs → some k ≠ v.ownBlock := by
    intro k hk he
    have := h.row.1 k he.symm
    obtain ⟨h1, h2, h3⟩ := this
    rcases hk with rfl | rfl | rfl
    · exact h1 rfl
    · exact h2 rfl
    · exact h3 rfl
  have hm := hg.block b h.lt (hne b (.inl rfl))
  have c1 : w1.cell? ⟨b, 0, none⟩ = some v := by rw [World.cell?_of_block hm]; exact h.cell
  have c2 : w1.frozen? ⟨b, 0, none⟩ = false := by
    have e : w1.frozen? ⟨b, 0, none⟩ = w.frozen? ⟨b, 0, none⟩ := by unfold World.frozen?; rw [hm]
    rw [e]; exact h.frz
  refine ⟨c1, c2, Kd.R_far hr (p := ⟨b, 0, none⟩) (fun k hk => hk.1) _, (h.ra.grown hg (hne ga (.inr (.inl rfl)))).far (p := ⟨b, 0, none⟩) (fun e => h.ne.2.1 e.symm) _, (h.rs.grown hg (hne gs (.inr (.inr rfl)))).far (p := ⟨b, 0, none⟩) (fun e => h.ne.2.2 e.symm) _, World.cell?_setCell_same _ _ _ c1, by rw [World.frozen?_setCell]; exact c2, h.ne⟩
end

/-- A region of which all orders come to one frame: what follows is shown once. -/
def AtNormal (A : Act) (R : World → Prop) : Exit → Act → World → Prop
  | .normal, a, w => a = A ∧ R w
  | _, _, _ => False
theorem region_once {c : Code} {a : Act} {w : World} {Q : Exit → Act → World → Prop} {A : Act} {R : World → Prop} (h1 : c.wp Tryd.prog (AtNormal A R) a w) (h2 : ∀ w', R w' → Q .normal A w') : c.wp Tryd.prog Q a w :=
  Code.wp_mono (fun e a w h => by
    cases e <;> first | (obtain ⟨rfl, h⟩ := (h : _ ∧ _); exact h2 _ h) | exact (h : False).elim) h1

section
variable {ops : Array Oper} {o : Oper} {a : Act} {Q : Exit → Act → World → Prop} {K : Act → World → Prop} {E : Prop}
theorem step_app {b base ga gs : Nat} {A : Option Addr} {cv : Nat} {out : List Sp} {va vs : Value} {X Y : List Sp} {w0 W : World} (hgd : o.guard = none) (s x : Operand) (ho : o.op = .call { callee := .builtin .append, args := #[s, x], argTypes := #[27, 27] })
    (p : Sp) (H : Trio b base ga gs (.slice A out.length cv) out va vs X Y W) (HB : Below base w0 W)
    (hs : a.eval s = .slice A out.length cv) (hx : a.eval x = .slice (some ⟨W.heap.size, 0, none⟩) 1 1) (hl : out.length + 1 ≤ 4194304) (hbase : base ≤ w0.heap.size)
    (h : ∀ A1 c1 w1, w1.cell? ⟨b, 0, none⟩ = some (.slice A out.length cv) → w1.frozen? ⟨b, 0, none⟩ = false → Trio b base ga gs (.slice A1 (out.length + 1) c1) (out ++ [p]) va vs X Y (w1.setCell ⟨b, 0, none⟩ (.slice A1 (out.length + 1) c1)) → Below base w0 w1 → K (a.put o.dst (.slice A1 (out.length + 1) c1)) w1) :
    if Region.wanted o (yielded ops a.tmps) = true then Oper.wp Tryd.prog o a (W.alloc (.cells #[.int .i64 p.k, .int .i64 p.n, .string p.t] 26)) K Q else E := by
  have hw : Region.wanted o (yielded ops a.tmps) = true := by simp [Region.wanted, hgd]
  have hz := HB.size
  have hoff : Kd.R kSp 26 W base (Off b ga gs) (.slice A out.length cv) out := H.row
  have hEK : (if Region.wanted o (yielded ops a.tmps) = true then Oper.wp Tryd.prog o a (W.alloc (.cells #[.int .i64 p.k, .int .i64 p.n, .string p.t] 26)) K Q else K (a.put o.dst undef) (W.alloc (.cells #[.int .i64 p.k, .int .i64 p.n, .string p.t] 26))) := by
    refine Kd.R_append_step kSp (w0 := w0) (W := W) base hw s x 27 26 _ 32 ho Tryd.underlying27 infoSp' rfl (by show 0 < 3; omega) (by omega) (.slice A out.length cv) out p [.int .i64 p.k, .int .i64 p.n, .string p.t] (Off b ga gs) (fun _ => False) hs hx (kSp_mkM _ _ _ _) (fun k hk => hk.elim) (fun k hk => ?_) hoff HB (by omega) (by omega) ?_
    · have h1 := H.lt
      refine ⟨?_, ?_, ?_⟩
      · omega
      · have := H.ra.lt; omega
      · have := H.rs.lt; omega
    · intro v1 w1 hr hb hg _
      obtain ⟨c1, c2, c3⟩ := H.app hg hr
      obtain ⟨A1, d1, rfl⟩ := Kd.R_slice hr
      simp only [List.length_append, List.length_singleton] at c3 ⊢
      exact h A1 d1 w1 c1 c2 c3 hb
  rw [if_pos hw] at hEK ⊢
  exact hEK
/-- The same, the draw told last. -/
theorem step_appD {b base ga gs : Nat} {A : Option Addr} {cv : Nat} {out : List Sp} {va vs : Value} {X Y : List Sp} {w0 W : World} (hgd : o.guard = none) (s x : Operand) (ho : o.op = .call { callee := .builtin .append, args := #[s, x], argTypes := #[27, 27] })
    (p : Sp) (H : Trio b base ga gs (.slice A out.length cv) out va vs X Y W) (HB : Below base w0 W)
    (hs : a.eval s = .slice A out.length cv) (hx : a.eval x = .slice (some ⟨W.heap.size, 0, none⟩) 1 1) (hl : out.length + 1 ≤ 4194304) (hbase : base ≤ w0.heap.size)
    (h : ∀ A1 c1 w1, w1.cell? ⟨b, 0, none⟩ = some (.slice A out.length cv) → w1.frozen? ⟨b, 0, none⟩ = false → Trio b base ga gs (.slice A1 (out.length + 1) c1) (out ++ [p]) va vs X Y (w1.setCell ⟨b, 0, none⟩ (.slice A1 (out.length + 1) c1)) → Below base w0 w1 → K (a.put o.dst (.slice A1 (out.length + 1) c1)) w1) :
    if Region.wanted o (yielded ops a.tmps) = true then Oper.wp Tryd.prog o a (W.alloc (.cells #[.int .i64 p.k, .int .i64 p.n, .string p.t] 26)).drew K Q else E :=
  step_app hgd s x ho p H.drew (below_drew HB) hs hx hl hbase h
end
end Go.Proofs.YtmfpfipjhhfbhaaDoor
