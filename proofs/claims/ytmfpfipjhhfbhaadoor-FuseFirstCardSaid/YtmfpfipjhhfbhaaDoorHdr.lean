/- Rows of rows that a law makes by append: the headers are its own, the rows are read. -/
import Derived.Test.YtmfpfipjhhfbhaaDoorParts
namespace Go.Proofs.YtmfpfipjhhfbhaaDoor
open Go.RowKit Go.Proofs.YtmfpfipjhhfbhaaDoorW.PrintWords

/-- A row's header: where it lies, what it holds, how many it may hold. -/
abbrev Hdr := Option Addr × List Sp × Nat
def hdV (p : Hdr) : Value := .slice p.1 p.2.1.length p.2.2
theorem hdV_one (p : Hdr) : (hdV p).oneCell' = true := rfl
abbrev kHd : Kd Hdr := Kd.scalar hdV hdV_one
abbrev rowsOf (vs : List Hdr) : List (List Sp) := vs.map fun p => p.2.1
theorem rows_hdrs {w : World} {A : Option Addr} {L : List (List Sp)} (h : Kd.C kRow w A L.length L) : ∃ vs : List Hdr, rowsOf vs = L ∧ Kd.C kHd w A L.length vs ∧ ∀ p ∈ vs, Kd.C kSp w p.1 p.2.1.length p.2.1 := by
  have hf : ∀ j : Fin L.length, ∃ p : Hdr, p.2.1 = L[j.1] ∧ (∃ ad, A = some ad ∧ w.cell? (ad.add j.1) = some (hdV p)) ∧ Kd.C kSp w p.1 p.2.1.length p.2.1 := fun j => by
    obtain ⟨ad, B, c, e, h1, h2⟩ := at_row h (List.getElem?_eq_getElem j.2)
    exact ⟨(B, L[j.1], c), rfl, ⟨ad, e, h1⟩, h2⟩
  refine ⟨List.ofFn fun j => Classical.choose (hf j), ?_, ⟨by simp, h.2.1, fun hn => ?_⟩, fun p hp => ?_⟩
  · apply List.ext_getElem (by simp)
    intro i h1 h2
    simp only [List.getElem_map, List.getElem_ofFn]
    exact (Classical.choose_spec (hf ⟨i, h2⟩)).1
  · obtain ⟨ad, e, _⟩ := h.2.2 hn
    refine ⟨ad, e, fun j p hj => ?_⟩
    obtain ⟨hl, rfl⟩ := List.getElem?_eq_some_iff.1 hj
    have hl2 : j < L.length := by simpa using hl
    simp only [List.getElem_ofFn]
    obtain ⟨ad', e', hc⟩ := (Classical.choose_spec (hf ⟨j, hl2⟩)).2.1
    rw [e] at e'
    injection e' with e'
    subst e'
    refine ⟨_, rfl, rfl, fun i u hu => ?_⟩
    match i, hu with
    | 0, hu =>
      simp at hu
      subst hu
      rw [Nat.add_zero, show j * kHd.sz = j from Nat.mul_one j]
      exact hc
  · rw [List.mem_ofFn] at hp
    obtain ⟨j, rfl⟩ := hp
    exact (Classical.choose_spec (hf j)).2.2
theorem rows_mk {w : World} {A : Option Addr} {vs : List Hdr} (h : Kd.C kHd w A vs.length vs) (hv : ∀ p ∈ vs, Kd.C kSp w p.1 p.2.1.length p.2.1) : Kd.C kRow w A (rowsOf vs).length (rowsOf vs) := by
  rw [List.length_map]
  refine ⟨by simp, h.2.1, fun hn => ?_⟩
  obtain ⟨ad, e, hc⟩ := h.2.2 hn
  refine ⟨ad, e, fun j X hj => ?_⟩
  rw [List.getElem?_map, Option.map_eq_some_iff] at hj
  obtain ⟨p, hp, rfl⟩ := hj
  obtain ⟨cs, hl, hK, hcell⟩ := hc j p hp
  have hK : cs = [hdV p] := hK
  subst hK
  exact ⟨_, rfl, ⟨p.1, p.2.2, rfl, hv p (List.mem_of_getElem? hp)⟩, hcell⟩
theorem hd_take {w : World} {A : Option Addr} {vs : List Hdr} {n k : Nat} (h : Kd.C kHd w A n vs) (hn : n = vs.length) (hk : k ≤ n) : Kd.C kHd w A k (vs.take k) := by
  subst hn
  have h2 := Kd.C_take h hk
  rwa [List.length_take, Nat.min_eq_left hk] at h2
theorem hd_drop {w : World} {A : Option Addr} {vs : List Hdr} {n k c : Nat} (h : Kd.C kHd w A n vs) (hn : n = vs.length) (hk : k ≤ n) (hc : n ≤ c) : Kd.C kHd w (if c = k then A else A.map (·.add k)) (n - k) (vs.drop k) := by
  subst hn
  have h2 := Kd.C_drop h hk hc
  rw [List.length_drop, show k * kHd.sz = k from Nat.mul_one k] at h2
  exact h2
theorem hd_new (w : World) : Kd.R kHd 27 (w.alloc (.cells #[] 27)) w.heap.size (fun _ => True) (.slice (some ⟨w.heap.size, 0, none⟩) 0 0) [] := by
  have h := World.ownsRow_made (base := w.heap.size) (e := 27) (size := 1) w #[] 0 (Nat.le_refl _) (Nat.zero_le _) rfl
  exact ⟨fun _ _ => trivial, [], h, rfl, fun j p hj => by simp at hj⟩
theorem info_hd : (Tryd.prog.info? 27).map (fun i => (i.zero, i.size, i.bytes)) = some (some (.slice none 0 0), kHd.sz, 24) := by kernel_rfl

/-- What a made row of headers keeps beside it: the blocks of another type, and the old world. -/
structure Mk (w0 W : World) (v : Value) (vs : List Hdr) (bs : List (Nat × Array Value)) : Prop where
  row : Kd.R kHd 27 W w0.heap.size (fun _ => True) v vs
  bel : Below w0.heap.size w0 W
  blk : ∀ p ∈ bs, W.heap[p.1]? = some (.cells p.2 26 (0, 0))
theorem Mk.start (w : World) : Mk w (w.alloc (.cells #[] 27)) (.slice (some ⟨w.heap.size, 0, none⟩) 0 0) [] [] := ⟨hd_new w, (Below.refl _ _).alloc (Nat.le_refl _) _, fun _ h => by cases h⟩
theorem Mk.alloc {w0 W : World} {v : Value} {vs : List Hdr} {bs : List (Nat × Array Value)} (h : Mk w0 W v vs bs) (c : Array Value) : Mk w0 (W.alloc (.cells c 26)) v vs ((W.heap.size, c) :: bs) :=
  ⟨Kd.R_alloc h.row _, h.bel.alloc h.bel.size _, fun p hp => by
    rcases List.mem_cons.1 hp with rfl | hp
    · exact blk_new _ _
    · exact blk_below (h.blk p hp) ((Below.refl _ _).alloc (Nat.le_refl _) _)⟩
theorem Mk.drew {w0 W : World} {v : Value} {vs : List Hdr} {bs : List (Nat × Array Value)} (h : Mk w0 W v vs bs) : Mk w0 W.drew v vs bs :=
  ⟨Kd.R_drew h.row, below_drew h.bel, fun p hp => blk_below (h.blk p hp) (below_drew (Below.refl _ _))⟩
theorem Mk.grown {w0 W w1 : World} {v v1 : Value} {vs us : List Hdr} {bs : List (Nat × Array Value)} (h : Mk w0 W v vs bs) (hr : Kd.R kHd 27 w1 w0.heap.size (fun _ => True) v1 us) (hb : Below w0.heap.size w0 w1) (hg : W.grownBy w1 v.ownBlock) : Mk w0 w1 v1 us bs :=
  ⟨hr, hb, fun p hp => by
    have hp2 := h.blk p hp
    have hne := Kd.R_ne h.row hp2 (by decide)
    rw [hg.block p.1 (blk_lt hp2) hne]
    exact hp2⟩
section
variable {ops : Array Oper} {rest : List Oper} {o : Oper} {a : Act} {Q : Exit → Act → World → Prop} {Kc : Act → World → Prop} {E : Prop}
/-- 'l = append(l, s)'. -/
theorem wp_push1 {A : Option Addr} {cv : Nat} {n : Nat} {vs : List Hdr} {bs : List (Nat × Array Value)} {w0 W : World} (hgd : o.guard = none) (s x : Operand) (ho : o.op = .call { callee := .builtin .append, args := #[s, x], argTypes := #[53, 53] })
    (p : Hdr) (H : Mk w0 W (.slice A n cv) vs bs) (hn : Hid (vs.length = n))
    (hs : a.eval s = .slice A n cv) {z : Nat} (hx : a.eval x = .slice (some ⟨z, 0, none⟩) 1 1) (hzz : W.heap.size = z) (hl : n + 1 ≤ 4194304)
    (h : ∀ A1 c1 w1 n1, Hid ((vs ++ [p]).length = n1) → Mk w0 w1 (.slice A1 n1 c1) (vs ++ [p]) bs → n1 ≤ c1 → wpList Tryd.prog ops Q rest (a.put o.dst (.slice A1 n1 c1)) w1) :
    wpList Tryd.prog ops Q (o :: rest) a (W.alloc (.cells #[hdV p] 27)) := by
  have hz := H.bel.size
  have hn2 := hn.out
  subst hzz
  refine Kd.R_append kHd (w0 := w0) (W := W) w0.heap.size hgd s x 53 27 _ 24 ho Tryd.underlying53 info_hd rfl (by show 0 < 1; omega) (by omega) (.slice A n cv) vs p [hdV p] (fun _ => True) (fun _ => False) hs hx rfl (fun k hk => hk.elim) (fun k hk => trivial) H.row H.bel (by omega) (by omega) ?_
  intro v1 w1 hr hb hg _
  obtain ⟨A1, d1, rfl, hc, _⟩ := Kd.R_reads hr
  exact h A1 d1 w1 _ (Lib.hid rfl) (H.grown hr hb hg) hc
/-- 'l = append(l, ys...)'. -/
theorem wp_pushN {A B : Option Addr} {cv m c : Nat} {n : Nat} {vs us : List Hdr} {bs : List (Nat × Array Value)} {w0 W : World} (hgd : o.guard = none) (s x : Operand) (ho : o.op = .call { callee := .builtin .append, args := #[s, x], argTypes := #[53, 53] })
    (H : Mk w0 W (.slice A n cv) vs bs) (hn : Hid (vs.length = n)) (HR : Kd.C kHd w0 B m us) (hm : m ≤ 1000)
    (hs : a.eval s = .slice A n cv) (hx : a.eval x = .slice B m c) (hl : n + 1 ≤ 4194304)
    (h : ∀ A1 c1 w1 n1, Hid ((vs ++ us).length = n1) → Mk w0 w1 (.slice A1 n1 c1) (vs ++ us) bs → n1 ≤ c1 → wpList Tryd.prog ops Q rest (a.put o.dst (.slice A1 n1 c1)) w1) :
    wpList Tryd.prog ops Q (o :: rest) a W := by
  have hz := H.bel.size
  have hn2 := hn.out
  refine Kd.R_append_rows kHd (w0 := w0) (W := W) w0.heap.size hgd s x 53 27 _ 24 ho Tryd.underlying53 info_hd rfl (by show 0 < 1; omega) (by omega) (.slice A n cv) vs us B m c (fun _ => True) (fun _ => False) hs hx H.row (Kd.C_below HR H.bel) (fun _ _ h => h) (fun k hk => hk.elim) (fun k hk => trivial) H.bel (by omega) (by omega) ?_
  intro v1 w1 hr hb hg _
  obtain ⟨A1, d1, rfl, hc, _⟩ := Kd.R_reads hr
  exact h A1 d1 w1 _ (Lib.hid rfl) (H.grown hr hb hg) hc
theorem step_push1 {A : Option Addr} {cv : Nat} {n : Nat} {vs : List Hdr} {bs : List (Nat × Array Value)} {w0 W : World} (hgd : o.guard = none) (s x : Operand) (ho : o.op = .call { callee := .builtin .append, args := #[s, x], argTypes := #[53, 53] })
    (p : Hdr) (H : Mk w0 W (.slice A n cv) vs bs) (hn : Hid (vs.length = n))
    (hs : a.eval s = .slice A n cv) {z : Nat} (hx : a.eval x = .slice (some ⟨z, 0, none⟩) 1 1) (hzz : W.heap.size = z) (hl : n + 1 ≤ 4194304)
    (h : ∀ A1 c1 w1 n1, Hid ((vs ++ [p]).length = n1) → Mk w0 w1 (.slice A1 n1 c1) (vs ++ [p]) bs → n1 ≤ c1 → Kc (a.put o.dst (.slice A1 n1 c1)) w1) :
    if Region.wanted o (yielded ops a.tmps) = true then Oper.wp Tryd.prog o a (W.alloc (.cells #[hdV p] 27)) Kc Q else E := by
  have hw : Region.wanted o (yielded ops a.tmps) = true := by simp [Region.wanted, hgd]
  have hz := H.bel.size
  have hn2 := hn.out
  subst hzz
  have hEK : (if Region.wanted o (yielded ops a.tmps) = true then Oper.wp Tryd.prog o a (W.alloc (.cells #[hdV p] 27)) Kc Q else Kc (a.put o.dst undef) (W.alloc (.cells #[hdV p] 27))) := by
    refine Kd.R_append_step kHd (w0 := w0) (W := W) w0.heap.size hw s x 53 27 _ 24 ho Tryd.underlying53 info_hd rfl (by show 0 < 1; omega) (by omega) (.slice A n cv) vs p [hdV p] (fun _ => True) (fun _ => False) hs hx rfl (fun k hk => hk.elim) (fun k hk => trivial) H.row H.bel (by omega) (by omega) ?_
    intro v1 w1 hr hb hg _
    obtain ⟨A1, d1, rfl, hc, _⟩ := Kd.R_reads hr
    exact h A1 d1 w1 _ (Lib.hid rfl) (H.grown hr hb hg) hc
  rw [if_pos hw] at hEK ⊢
  exact hEK
theorem step_push1D {A : Option Addr} {cv : Nat} {n : Nat} {vs : List Hdr} {bs : List (Nat × Array Value)} {w0 W : World} (hgd : o.guard = none) (s x : Operand) (ho : o.op = .call { callee := .builtin .append, args := #[s, x], argTypes := #[53, 53] })
    (p : Hdr) (H : Mk w0 W (.slice A n cv) vs bs) (hn : Hid (vs.length = n))
    (hs : a.eval s = .slice A n cv) {z : Nat} (hx : a.eval x = .slice (some ⟨z, 0, none⟩) 1 1) (hzz : W.heap.size = z) (hl : n + 1 ≤ 4194304)
    (h : ∀ A1 c1 w1 n1, Hid ((vs ++ [p]).length = n1) → Mk w0 w1 (.slice A1 n1 c1) (vs ++ [p]) bs → n1 ≤ c1 → Kc (a.put o.dst (.slice A1 n1 c1)) w1) :
    if Region.wanted o (yielded ops a.tmps) = true then Oper.wp Tryd.prog o a (W.alloc (.cells #[hdV p] 27)).drew Kc Q else E :=
  step_push1 (W := W.drew) hgd s x ho p H.drew hn hs hx hzz hl h
theorem step_pushN {A B : Option Addr} {cv m c : Nat} {n : Nat} {vs us : List Hdr} {bs : List (Nat × Array Value)} {w0 W : World} (hgd : o.guard = none) (s x : Operand) (ho : o.op = .call { callee := .builtin .append, args := #[s, x], argTypes := #[53, 53] })
    (H : Mk w0 W (.slice A n cv) vs bs) (hn : Hid (vs.length = n)) (HR : Kd.C kHd w0 B m us) (hm : m ≤ 1000)
    (hs : a.eval s = .slice A n cv) (hx : a.eval x = .slice B m c) (hl : n + 1 ≤ 4194304)
    (h : ∀ A1 c1 w1 n1, Hid ((vs ++ us).length = n1) → Mk w0 w1 (.slice A1 n1 c1) (vs ++ us) bs → n1 ≤ c1 → Kc (a.put o.dst (.slice A1 n1 c1)) w1) :
    if Region.wanted o (yielded ops a.tmps) = true then Oper.wp Tryd.prog o a W Kc Q else E := by
  have hw : Region.wanted o (yielded ops a.tmps) = true := by simp [Region.wanted, hgd]
  have hz := H.bel.size
  have hn2 := hn.out
  have hEK : (if Region.wanted o (yielded ops a.tmps) = true then Oper.wp Tryd.prog o a W Kc Q else Kc (a.put o.dst undef) W) := by
    refine Kd.R_append_rows_step kHd (w0 := w0) (W := W) w0.heap.size hw s x 53 27 _ 24 ho Tryd.underlying53 info_hd rfl (by show 0 < 1; omega) (by omega) (.slice A n cv) vs us B m c (fun _ => True) (fun _ => False) hs hx H.row (Kd.C_below HR H.bel) (fun _ _ h => h) (fun k hk => hk.elim) (fun k hk => trivial) H.bel (by omega) (by omega) ?_
    intro v1 w1 hr hb hg _
    obtain ⟨A1, d1, rfl, hc, _⟩ := Kd.R_reads hr
    exact h A1 d1 w1 _ (Lib.hid rfl) (H.grown hr hb hg) hc
  rw [if_pos hw] at hEK ⊢
  exact hEK
end
/-- The made row, read: its rows lie in the old world, or in the blocks beside it. -/
theorem Mk.reads {w0 W : World} {A : Option Addr} {c n : Nat} {vs : List Hdr} {bs : List (Nat × Array Value)} (h : Mk w0 W (.slice A n c) vs bs) (hn : Hid (vs.length = n)) (hv : ∀ p ∈ vs, Kd.C kSp w0 p.1 p.2.1.length p.2.1 ∨ (∃ b, p.1 = some ⟨b, 0, none⟩ ∧ (b, (spCells p.2.1).toArray) ∈ bs ∧ p.2.1.length ≤ 100)) : Kd.C kRow W A (rowsOf vs).length (rowsOf vs) := by
  have hn2 := hn.out
  subst hn2
  refine rows_mk (Kd.R_reads' h.row).2.2 (fun p hp => ?_)
  rcases hv p hp with h1 | ⟨b, e, hm, hl⟩
  · exact Kd.C_below h1 h.bel
  · have hb := h.blk _ hm
    rw [e]
    have h2 := RowAt.reads (⟨hb⟩ : RowAt W b p.2.1) (by omega) p.2.1.length (Nat.le_refl _)
    rwa [List.take_length] at h2

end Go.Proofs.YtmfpfipjhhfbhaaDoor
