/- The closures of under.Of: each appends to the row in the box. -/
import Derived.Test.YtmfpfipjhhfbhaaDoorOver
namespace Go.Proofs.YtmfpfipjhhfbhaaDoor
open Go.RowKit Go.Proofs.YtmfpfipjhhfbhaaDoorW.PrintWords

section
variable {ops : Array Oper} {rest : List Oper} {o : Oper} {a : Act} {Q : Exit → Act → World → Prop}
/-- 'l = append(l, s)' in a region that does not draw. -/
theorem wp_app {b base ga gs : Nat} {A : Option Addr} {cv : Nat} {out : List Sp} {va vs : Value} {X Y : List Sp} {w0 W : World} (hgd : o.guard = none) (s x : Operand) (ho : o.op = .call { callee := .builtin .append, args := #[s, x], argTypes := #[27, 27] })
    (p : Sp) (H : Trio b base ga gs (.slice A out.length cv) out va vs X Y W) (HB : Below base w0 W)
    (hs : a.eval s = .slice A out.length cv) (hx : a.eval x = .slice (some ⟨W.heap.size, 0, none⟩) 1 1) (hl : out.length + 1 ≤ 4194304) (hbase : base ≤ w0.heap.size)
    (h : ∀ A1 c1 w1, w1.cell? ⟨b, 0, none⟩ = some (.slice A out.length cv) → w1.frozen? ⟨b, 0, none⟩ = false → Trio b base ga gs (.slice A1 (out.length + 1) c1) (out ++ [p]) va vs X Y (w1.setCell ⟨b, 0, none⟩ (.slice A1 (out.length + 1) c1)) → Below base w0 w1 → wpList Tryd.prog ops Q rest (a.put o.dst (.slice A1 (out.length + 1) c1)) w1) :
    wpList Tryd.prog ops Q (o :: rest) a (W.alloc (.cells #[.int .i64 p.k, .int .i64 p.n, .string p.t] 26)) := by
  have hz := HB.size
  have hoff : Kd.R kSp 26 W base (Off b ga gs) (.slice A out.length cv) out := H.row
  refine Kd.R_append kSp (w0 := w0) (W := W) base hgd s x 27 26 _ 32 ho Tryd.underlying27 infoSp' rfl (by show 0 < 3; omega) (by omega) (.slice A out.length cv) out p [.int .i64 p.k, .int .i64 p.n, .string p.t] (Off b ga gs) (fun _ => False) hs hx (kSp_mkM _ _ _ _) (fun k hk => hk.elim) (fun k hk => ?_) hoff HB (by omega) (by omega) ?_
  · have h1 := H.lt
    refine ⟨?_, ?_, ?_⟩
    · omega
    · have := H.ra.lt; omega
    · have := H.rs.lt; omega
  · intro v1 w1 hr hb hg _
    obtain ⟨c1, c2, c3⟩ := H.app hg hr
    obtain ⟨A1, d1, rfl⟩ := Kd.R_slice hr
    simp only [List.length_append, List.length_singleton] at c3 ⊢
    exact h A1 d1 w1 c1 c2 c3 hb
end

/-- All blocks below B but b are as they were. -/
structure Kept (b B : Nat) (w w' : World) : Prop where
  blk : ∀ k, k < B → k ≠ b → w'.heap[k]? = w.heap[k]?
  base : Below 0 w w'
theorem Kept.size {b B : Nat} {w w' : World} (h : Kept b B w w') : w.heap.size ≤ w'.heap.size := h.base.size
theorem Kept.refl (b B : Nat) (w : World) : Kept b B w w := ⟨fun _ _ _ => rfl, Below.refl _ _⟩
theorem Kept.trans {b B : Nat} {w w1 w2 : World} (h : Kept b B w w1) (h2 : Kept b B w1 w2) : Kept b B w w2 := ⟨fun k hk hb => (h2.blk k hk hb).trans (h.blk k hk hb), h.base.trans h2.base⟩
theorem Kept.of_below {b B : Nat} {w w1 : World} (h : Below B w w1) : Kept b B w w1 := ⟨fun k hk _ => h.block k hk, h.mono (Nat.zero_le _)⟩
theorem Kept.set {b B : Nat} {w w1 : World} (h : Kept b B w w1) (v : Value) : Kept b B w (w1.setCell ⟨b, 0, none⟩ v) := ⟨fun k hk hb => (Below.heap_setCell _ ⟨b, 0, none⟩ _ _ hb).trans (h.blk k hk hb), h.base.setCell (Nat.zero_le _) _⟩
theorem Kept.lower {b B B' : Nat} {w w1 : World} (h : Kept b B w w1) (hB : B' ≤ B) : Kept b B' w w1 := ⟨fun k hk => h.blk k (by omega), h.base⟩
theorem Kept.below {b B : Nat} {w w1 : World} (h : Kept b B w w1) (hB : B ≤ b) : Below B w w1 := { h.base with block := fun k hk => h.blk k hk (by omega) }

theorem Kept.drew {b B : Nat} {w w1 : World} (h : Kept b B w w1) : Kept b B w w1.drew := h.trans (Kept.of_below (below_drew (Below.refl _ _)))
theorem Kept.drewN {b B : Nat} {w w1 : World} (h : Kept b B w w1) (n : Nat) : Kept b B w (w1.drewN n) := h.trans (Kept.of_below (pw_below_drewN (Below.refl _ _) n))
/-- What a closure that appends leaves. -/
def AppPost (b base ga gs : Nat) (out' : List Sp) (va vs : Value) (X Y : List Sp) (w : World) (e : Ending) (w' : World) : Prop :=
  e = .returned (.tuple #[]) ∧ ∃ A c, Trio b base ga gs (.slice A out'.length c) out' va vs X Y w' ∧ Kept b base w w'

set_option maxHeartbeats 1000000 in
theorem put_calls {b base ga gs : Nat} {A : Option Addr} {cv : Nat} {out : List Sp} {va vs : Value} {X Y : List Sp} (s : Sp) (w : World) (H : Trio b base ga gs (.slice A out.length cv) out va vs X Y w) (hl : out.length + 1 ≤ 4194304) (hbase : base ≤ w.heap.size) :
    Calls Tryd.prog 53 #[.agg #[.int .i64 s.k, .int .i64 s.n, .string s.t], .pointer (some ⟨b, 0, none⟩)] w (AppPost b base ga gs (out ++ [s]) va vs X Y w) := by
  obtain ⟨sk, sn, st⟩ := s
  have k0 := H.cell
  have hlt := H.lt
  have k1 := H.later (.cells #[.int .i64 sk, .int .i64 sn, .string st] 26)
  have HA := H.alloc (.cells #[.int .i64 sk, .int .i64 sn, .string st] 26)
  have BA : Below base w (w.alloc (.cells #[.int .i64 sk, .int .i64 sn, .string st] 26)) := (Below.refl _ _).alloc hbase _
  go_enter Tryd.func53, Tryd.ntmps53
  go_wp2_with (at_builtin; go_loud (refine wp_app (base := base) (w0 := w) (b := b) rfl (.tmp 3) (.tmp 5) rfl ⟨sk, sn, st⟩ HA BA rfl (by simp [Act.eval]) hl hbase ?_))
  intro A1 c1 w1 m1 m2 m3 m4
  go_wp2_with fail
  go_end0
  exact ⟨rfl, A1, c1, by rw [List.length_append]; exact m3, (Kept.of_below m4).set _⟩
set_option maxHeartbeats 2000000 in
set_option maxRecDepth 100000 in
theorem keep_calls {b base ga gs : Nat} {A : Option Addr} {cv : Nat} {out : List Sp} {va vs : Value} {X Y : List Sp} (s : Sp) (w : World) (H : Trio b base ga gs (.slice A out.length cv) out va vs X Y w) (hl : out.length + 1 ≤ 4194304) (hbase : base ≤ w.heap.size) (hL : Laid w) (hs : s.t.size ≤ 1048576) :
    Calls Tryd.prog 54 #[.agg #[.int .i64 s.k, .int .i64 s.n, .string s.t], .pointer (some ⟨b, 0, none⟩)] w (AppPost b base ga gs (out ++ [kept s]) va vs X Y w) := by
  have hso := fun W hLW => spanOut_calls s W hLW (by omega)
  obtain ⟨sk, sn, st⟩ := s
  have hlt := H.lt
  have HA := H.alloc (.cells #[.int .i64 sk, .int .i64 sn, .string st] 26)
  have BA : Below base w (w.alloc (.cells #[.int .i64 sk, .int .i64 sn, .string st] 26)) := (Below.refl _ _).alloc hbase _
  have BL : Below w.heap.size w (w.alloc (.cells #[.int .i64 sk, .int .i64 sn, .string st] 26)) := (Below.refl _ _).alloc (Nat.le_refl _) _
  obtain ⟨U, hU⟩ : ∃ U, U = (w.alloc (.cells #[.int .i64 sk, .int .i64 sn, .string st] 26)) := ⟨_, rfl⟩
  have HU := Lib.hid hU
  have u0 : U.cell? ⟨w.heap.size, 0, none⟩ = some (.int .i64 sk) := by rw [hU]; simp
  have u1 : U.cell? ⟨w.heap.size, 1, none⟩ = some (.int .i64 sn) := by rw [hU]; simp
  have u2 : U.cell? ⟨w.heap.size, 2, none⟩ = some (.string st) := by rw [hU]; simp
  rw [← hU] at HA BA BL
  have k0 := HA.cell
  have HLU := hL.below BL
  have hTD := HA.drew
  have hBD : Below base w U.drew := below_drew BA
  have hsd := hso U.drew (HLU.below (below_drew (Below.refl _ _)))
  clear hU hso
  go_enter Tryd.func54, Tryd.ntmps54
  go_wp2_with fail
  rw [← HU.out]
  go_region_law (first
    | (refine step_app (base := base) (w0 := w) (b := b) rfl (.tmp 3) (.tmp 7) rfl ⟨_, _, _⟩ (by assumption) (by assumption) rfl rfl hl hbase ?_
       intro A1 c1 w1 m1 m2 m3 m4)
    | (go_simp; refine hsd.mono ?_; rintro e w2 ⟨rfl, hb2⟩; have hTE := hTD.below hb2; have hBE := hBD.trans (hb2.mono (by have := hBD.size; omega)); have m0 := hTE.cell; have m6 := hTE.later))
  all_goals (
    go_end0
    exact ⟨rfl, A1, c1, by rw [List.length_append]; exact m3, (Kept.of_below m4).set _⟩)
set_option maxHeartbeats 2000000 in
theorem take_calls {b base ga gs : Nat} {A : Option Addr} {cv : Nat} {out : List Sp} {va vs : Value} {X Y : List Sp} (s t : Sp) (n : Int) (w : World) (H : Trio b base ga gs (.slice A out.length cv) out va vs X Y w) (hl : out.length + 1 ≤ 4194304) (hbase : base ≤ w.heap.size) :
    Calls Tryd.prog 55 #[.agg #[.int .i64 s.k, .int .i64 s.n, .string s.t], .agg #[.int .i64 t.k, .int .i64 t.n, .string t.t], .int .i64 n, .pointer (some ⟨b, 0, none⟩)] w (AppPost b base ga gs (out ++ bothSp s t n) va vs X Y w) := by
  obtain ⟨sk, sn, st⟩ := s
  obtain ⟨tk, tn, tt⟩ := t
  have hlt := H.lt
  have HA0 := H.alloc (.cells #[.int .i64 sk, .int .i64 sn, .string st] 26)
  have HA := HA0.alloc (.cells #[.int .i64 tk, .int .i64 tn, .string tt] 26)
  have BA : Below base w ((w.alloc (.cells #[.int .i64 sk, .int .i64 sn, .string st] 26)).alloc (.cells #[.int .i64 tk, .int .i64 tn, .string tt] 26)) := ((Below.refl _ _).alloc hbase _).alloc (by simp; omega) _
  have k0 := HA.cell
  by_cases ht : tk = 1
  · subst ht
    go_enter Tryd.func55, Tryd.ntmps55
    go_wp2_with (at_builtin; go_loud (refine wp_app (base := base) (w0 := w) (b := b) rfl (.tmp 10) (.tmp 15) rfl ⟨sk, n, ⟨#[]⟩⟩ HA BA rfl (by simp [Act.eval]) hl hbase ?_))
    intro A1 c1 w1 m1 m2 m3 m4
    go_wp2_with fail
    go_end0
    exact ⟨rfl, A1, c1, by rw [both_keep _ _ _ rfl, List.length_append]; exact m3, (Kept.of_below m4).set _⟩
  · have ht2 : (tk == 1) = false := by simpa using ht
    have Ht := Lib.hid ht
    clear ht
    go_enter Tryd.func55, Tryd.ntmps55
    go_wp2_with fail
    go_end0
    refine ⟨rfl, A, cv, ?_, Kept.of_below BA⟩
    rw [show bothSp ⟨sk, sn, st⟩ ⟨tk, tn, tt⟩ n = [] from if_neg Ht.out, List.append_nil]
    exact HA

end Go.Proofs.YtmfpfipjhhfbhaaDoor
