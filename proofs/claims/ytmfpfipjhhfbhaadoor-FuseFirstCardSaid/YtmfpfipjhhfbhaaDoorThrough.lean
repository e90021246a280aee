/- The contract of under's walk. -/
import Derived.Test.YtmfpfipjhhfbhaaDoorClos
import Derived.Test.YtmfpfipjhhfbhaaDoorStep
namespace Go.Proofs.YtmfpfipjhhfbhaaDoor
open Go.RowKit Go.Proofs.YtmfpfipjhhfbhaaDoorW.PrintWords

/-- The walk's three functions, the box being b. -/
def walkFs (b : Nat) : Array Value := #[.func (.func 53) #[] #[.pointer (some ⟨b, 0, none⟩)], .func (.func 54) #[] #[.pointer (some ⟨b, 0, none⟩)], .func (.func 55) #[] #[.pointer (some ⟨b, 0, none⟩)]]
/-- The loop's state: w0 is the world behind the box of the walk (block H). -/
structure ThrInv (w0 wr : World) (b H : Nat) (v1 v2 v6 v7 : Value) (R : List At) (K Bt gk : Nat) : Prop where
  out : ∃ X Y out A nn c ga gs d g, v6 = .int .i64 d ∧ v7 = .int .i64 g ∧ Trio b (H + 1) ga gs (.slice A nn c) out v1 v2 X Y wr ∧ nn = out.length ∧ Kept b (H + 1) w0 wr ∧ PartOk X d ∧ PartOk Y g ∧ Els X ∧ Els Y ∧ inA (atoms (part X d)) = inA (atoms (part Y g)) ∧
    Valid out ∧ atoms out ++ underA (atoms (part X d)) (atoms (part Y g)) = R ∧ out.length + X.length + Y.length ≤ K ∧ bytesL out + bytesL X ≤ Bt ∧ bytesL Y ≤ 1048576 ∧ X.length + Y.length < gk
/-- What the walk leaves. -/
def ThrPost (b : Nat) (R : List At) (K Bt : Nat) (w : World) (e : Ending) (w' : World) : Prop :=
  e = .returned (.tuple #[]) ∧ ∃ out A c, w'.cell? ⟨b, 0, none⟩ = some (.slice A out.length c) ∧ Kd.C kSp w' A out.length out ∧ Valid out ∧ atoms out = R ∧ out.length ≤ K ∧ bytesL out ≤ Bt ∧ Kept b w.heap.size w w'

set_option maxRecDepth 100000 in
set_option maxHeartbeats 4000000 in
theorem through_calls (b ga gs : Nat) (X Y : List Sp) (vx vy : Value) (w : World) (hL : Laid w) (hX : Rd w vx ga X) (hY : Rd w vy gs Y) (hc : w.cell? ⟨b, 0, none⟩ = some (.slice none 0 0)) (hf : w.frozen? ⟨b, 0, none⟩ = false) (hlow : ∀ k, k ≤ 2 → k ≠ b)
    (hne : ga ≠ gs ∧ b ≠ ga ∧ b ≠ gs) (eX : Els X) (eY : Els Y) (hio : inA (atoms X) = inA (atoms Y)) (hk : X.length + Y.length ≤ 4194303) (hbx : bytesL X ≤ 1048576) (hby : bytesL Y ≤ 1048576) :
    Calls Tryd.prog 56 #[.agg (walkFs b), vx, vy] w (ThrPost b (underA (atoms X) (atoms Y)) (X.length + Y.length) (bytesL X) w) := by
  obtain ⟨w0, hw0⟩ : ∃ w0, w0 = w.alloc (.cells (walkFs b) 77) := ⟨_, rfl⟩
  have I0 : ThrInv w0 w0 b w.heap.size vx vy (.int .i64 0) (.int .i64 0) (underA (atoms X) (atoms Y)) (X.length + Y.length) (bytesL X) (X.length + Y.length + 1) := by
    have hlt : b < w.heap.size := World.block_lt_of_cell? w _ hc
    refine ⟨X, Y, [], none, 0, 0, ga, gs, 0, 0, rfl, rfl, ?_, rfl, Kept.refl _ _ _, .inl rfl, .inl rfl, eX, eY, by rw [part_zero, part_zero]; exact hio, fun _ h => (by cases h), by rw [part_zero, part_zero]; rfl, by show 0 + _ + _ ≤ _; omega, by show 0 + _ ≤ _; omega, hby, by omega⟩
    rw [hw0]
    refine ⟨Kd.R_nil _ _ _ _ _, hX.alloc _, hY.alloc _, ?_, ?_, hne⟩
    · have hB : Below w.heap.size w (w.alloc (.cells (walkFs b) 77)) := (Below.refl _ _).alloc (Nat.le_refl _) _
      rw [hB.cell (p := ⟨b, 0, none⟩) hlt]; exact hc
    · have hB : Below w.heap.size w (w.alloc (.cells (walkFs b) 77)) := (Below.refl _ _).alloc (Nat.le_refl _) _
      rw [hB.frozen (p := ⟨b, 0, none⟩) hlt]; exact hf
  have hblt : b < w.heap.size := World.block_lt_of_cell? w _ hc
  have z0 : ∀ wr, Kept b (w.heap.size + 1) w0 wr → wr.cell? ⟨w.heap.size, 0, none⟩ = some (.func (.func 53) #[] #[.pointer (some ⟨b, 0, none⟩)]) ∧ wr.cell? ⟨w.heap.size, 1, none⟩ = some (.func (.func 54) #[] #[.pointer (some ⟨b, 0, none⟩)]) ∧ wr.cell? ⟨w.heap.size, 2, none⟩ = some (.func (.func 55) #[] #[.pointer (some ⟨b, 0, none⟩)]) := by
    intro wr h
    have hm := h.blk w.heap.size (by omega) (by omega)
    refine ⟨?_, ?_, ?_⟩ <;> rw [World.cell?_of_block hm, hw0] <;> simp [walkFs]
  have z1 : ∀ wr, Kept b (w.heap.size + 1) w0 wr → Laid wr := by
    intro wr h
    have hB : Below w.heap.size w w0 := by rw [hw0]; exact (Below.refl _ _).alloc (Nat.le_refl _) _
    have hs := hL.size
    have hB2 : ∀ k, k ≤ 2 → ∀ o, wr.cell? ⟨k, o, none⟩ = w.cell? ⟨k, o, none⟩ := fun k hk o => World.cell?_of_block ((h.blk k (by omega) (hlow k hk)).trans (hB.block k (by omega)))
    refine ⟨by have := h.size; have := hB.size; omega, fun j v hv => ?_, fun c hc => ?_, fun i hi => ⟨?_, ?_⟩⟩
    · rw [hB2 _ (by show 0 ≤ 2; omega)]; exact hL.kinds j v hv
    · rw [hB2 _ (by show 1 ≤ 2; omega)]; exact hL.utf8.1 c hc
    · rw [hB2 _ (by show 2 ≤ 2; omega)]; exact (hL.utf8.2 i hi).1
    · rw [hB2 _ (by show 2 ≤ 2; omega)]; exact (hL.utf8.2 i hi).2
  have Z0 := Lib.hid z0
  have Z1 := Lib.hid z1
  have HW0 : Hid (w0 = w.alloc (.cells #[.func (.func 53) #[] #[.pointer (some ⟨b, 0, none⟩)], .func (.func 54) #[] #[.pointer (some ⟨b, 0, none⟩)], .func (.func 55) #[] #[.pointer (some ⟨b, 0, none⟩)]] 77)) := Lib.hid hw0
  have hs0 : w0.heap.size = w.heap.size + 1 := by rw [hw0]; simp
  have HS0 := Lib.hid hs0
  obtain ⟨R, hR⟩ : ∃ R, R = underA (atoms X) (atoms Y) := ⟨_, rfl⟩
  obtain ⟨KX, hKX⟩ : ∃ K, K = X.length + Y.length := ⟨_, rfl⟩
  obtain ⟨BX, hBX⟩ : ∃ K, K = bytesL X := ⟨_, rfl⟩
  rw [← hR, ← hKX, ← hBX] at I0 ⊢
  rw [← hKX] at hk
  rw [← hBX] at hbx
  clear hs0 hR hKX hBX z0 z1 hw0 hX hY hc hf eX eY hio hne hby X Y
  unfold walkFs
  go_enter Tryd.func56, Tryd.ntmps56
  go_wp2_with fail
  rw [← HW0.out]
  go_loopg [1, 2, 6, 7] (KX + 1) (fun gk v1 v2 v6 v7 wr => ThrInv w0 wr b w.heap.size v1 v2 v6 v7 R KX BX gk)
  case atStart => exact I0
  case round =>
    clear I0
    have hKX := hk
    obtain ⟨X, Y, out, Av, nn, cv, ga, gs, d, g, rfl, rfl, hT, rfl, hKp, pX, pY, eX, eY, hio, hvo, hat, hlen, hbt, hbyY, hgk⟩ := hrel.out
    clear hrel
    cases gk with
    | zero => omega
    | succ gk =>
      obtain ⟨z0, z1, z2⟩ := Z0.out wr hKp
      have hLr := Z1.out wr hKp
      have hbase : w.heap.size + 1 ≤ wr.heap.size := by have := hKp.size; have := HS0.out; omega
      have hol : out.length + 1 ≤ 4194304 := by omega
      cases X with
      | nil =>
        have hd0 := part_nil pX
        obtain ⟨A2, d2, rfl⟩ := hT.ra.nil_form
        cases Y with
        | nil =>
          subst hd0
          obtain rfl := part_nil pY
          obtain ⟨A3, d3, rfl⟩ := hT.rs.nil_form
          have H2 := Lib.hid hat
          have H3 := Lib.hid hlen
          have H4 := Lib.hid hbt
          have HT := Lib.hid hT
          clear hT hat hio hlen hbt
          go_wp2_with fail
          go_end0
          refine ⟨rfl, out, Av, cv, HT.out.cell, (Kd.R_reads' HT.out.row).2.2, hvo, ?_, by have := H3.out; omega, by have := H4.out; omega, ?_⟩
          · have h2 := H2.out
            rw [part_zero, show underA (atoms []) (atoms []) = [] from under_nn, List.append_nil] at h2
            exact h2
          · refine Kept.trans ?_ (hKp.lower (Nat.le_succ _))
            rw [HW0.out]
            exact Kept.of_below ((Below.refl _ _).alloc (Nat.le_refl _) _)
        | cons t Y =>
          subst hd0
          by_cases ht : t.k = 2
          · skip
            obtain rfl := part_put pY ht
            rw [part_zero (t :: Y)] at hio hat
            have hbs : t.t.size ≤ 1048576 := by rw [bytesL_cons] at hbyY; omega
            have hr := under_r2 eY ht hbs (show NP (atoms (part [] 0)) from trivial) hvo hio hat
            have Hr := Lib.hid hr
            have H3 := Lib.hid hlen
            have H4 := Lib.hid hbt
            obtain ⟨o, c, rfl, hc1, hc2, d0, d1, d2, f1, htail, hset, hst⟩ := hT.rs.head
            clear htail hset hst hr hio hat hlen hbt
            have pc := keep_calls t wr.drew hT.drew hol hbase (Z1.out _ hKp.drew) hbs
            have HT := Lib.hid hT
            clear hT
            obtain ⟨sk, sn, st⟩ := t
            simp only at ht d0 d1 d2 pc
            subst ht
            go_wp2_with fail
            go_region_law (go_simp; refine pc.mono ?_; rintro e w2 ⟨rfl, A1, c1, hT2, hK2⟩)
            all_goals (
              have HK2 := hKp.drew.trans hK2
              have Hrd : ∀ A : Option Addr, (0 < Y.length → A = some ⟨gs, (o + 1) * 3, none⟩) → Rd w2 (.slice A Y.length (c - 1)) gs Y := fun A hA => hT2.rs.tailAt hA
              have HRD := Lib.hid Hrd
              clear Hrd d0 d1 d2 f1 hK2 z0 z1 z2 pc
              by_cases hc : c = 1
              · subst hc
                obtain rfl : Y = [] := List.eq_nil_of_length_eq_zero (by omega)
                go_wp2_with fail
                go_roundg gk
                case measure => omega
                refine ⟨_, _, _, A1, _, c1, ga, gs, _, 0, rfl, rfl, hT2.right (HRD.out _ (fun h => by simp at h)), rfl, HK2, pX, .inl rfl, eX, eY.tail, ?_, Hr.out.1, ?_, ?_, ?_, ?_, ?_⟩
                · first | exact Hr.out.2.1 | (rw [part_zero []]; done) | (rw [part_zero []]; exact Hr.out.2.1)
                · first | exact Hr.out.2.2 | (rw [part_zero []]; done) | (rw [part_zero []]; exact Hr.out.2.2)
                · have := H3.out; simp at this ⊢ <;> omega
                · have := H4.out; rw [bytesL_snoc]; show _ + 0 + _ ≤ _; omega
                · rw [bytesL_cons] at hbyY; omega
                · simp at hgk ⊢ <;> omega
              · go_wp2_with fail
                go_roundg gk
                case measure => omega
                refine ⟨_, _, _, A1, _, c1, ga, gs, _, 0, rfl, rfl, hT2.right (HRD.out _ (fun _ => by rw [Nat.add_mul])), rfl, HK2, pX, .inl rfl, eX, eY.tail, ?_, Hr.out.1, ?_, ?_, ?_, ?_, ?_⟩
                · rw [part_zero Y]; exact Hr.out.2.1
                · rw [part_zero Y]; exact Hr.out.2.2
                · have := H3.out; simp at this ⊢ <;> omega
                · have := H4.out; rw [bytesL_snoc]; show _ + 0 + _ ≤ _; omega
                · rw [bytesL_cons] at hbyY; omega
                · simp at hgk ⊢ <;> omega)
          · exfalso
            have := (part_pos eY pY ht).2.2
            rw [part_zero, show inA (atoms []) = 0 from rfl] at hio
            omega
      | cons s X =>
        by_cases hk : s.k = 2
        · obtain rfl := part_put pX hk
          rw [part_zero] at hio hat
          have hbs : s.t.size ≤ 1048576 := by rw [bytesL_cons] at hbt; omega
          have hr := under_r1 eX hk hbs hvo hio hat
          have Hr := Lib.hid hr
          have H3 := Lib.hid hlen
          have H4 := Lib.hid hbt
          obtain ⟨o, c, rfl, hc1, hc2, d0, d1, d2, f1, htail, hset, hst⟩ := hT.ra.head
          clear htail hset hst hr hio hat hlen hbt
          have pc := put_calls s wr.drew hT.drew hol hbase
          have HT := Lib.hid hT
          clear hT
          obtain ⟨sk, sn, st⟩ := s
          simp only at hk d0 d1 d2 pc
          subst hk
          go_wp2_with fail
          go_region_law (go_simp; refine pc.mono ?_; rintro e w2 ⟨rfl, A1, c1, hT2, hK2⟩)
          all_goals (
            have HK2 := hKp.drew.trans hK2
            have Hrd : ∀ A : Option Addr, (0 < X.length → A = some ⟨ga, (o + 1) * 3, none⟩) → Rd w2 (.slice A X.length (c - 1)) ga X := fun A hA => hT2.ra.tailAt hA
            have HRD := Lib.hid Hrd
            clear Hrd d0 d1 d2 f1 hK2 z0 z1 z2 pc
            by_cases hc : c = 1
            · subst hc
              obtain rfl : X = [] := List.eq_nil_of_length_eq_zero (by omega)
              go_wp2_with fail
              go_roundg gk
              case measure => omega
              refine ⟨_, Y, _, A1, _, c1, ga, gs, 0, g, rfl, rfl, hT2.left (HRD.out _ (fun h => by simp at h)), rfl, HK2, .inl rfl, pY, eX.tail, eY, ?_, Hr.out.1, ?_, ?_, ?_, hbyY, ?_⟩
              · rw [part_zero]; exact Hr.out.2.1
              · rw [part_zero]; exact Hr.out.2.2
              · have := H3.out; simp at this ⊢ <;> omega
              · have := H4.out; rw [bytesL_snoc]; rw [bytesL_cons] at this; simp only at this ⊢; omega
              · simp at hgk ⊢ <;> omega
            · go_wp2_with fail
              go_roundg gk
              case measure => omega
              refine ⟨_, Y, _, A1, _, c1, ga, gs, 0, g, rfl, rfl, hT2.left (HRD.out _ (fun _ => by rw [Nat.add_mul])), rfl, HK2, .inl rfl, pY, eX.tail, eY, ?_, Hr.out.1, ?_, ?_, ?_, hbyY, ?_⟩
              · rw [part_zero]; exact Hr.out.2.1
              · rw [part_zero]; exact Hr.out.2.2
              · have := H3.out; simp at this ⊢ <;> omega
              · have := H4.out; rw [bytesL_snoc]; rw [bytesL_cons] at this; simp only at this ⊢; omega
              · simp at hgk ⊢ <;> omega)
        · cases Y with
          | nil =>
            exfalso
            obtain rfl := part_nil pY
            have := (part_pos eX pX hk).2.2
            rw [part_zero [], show inA (atoms []) = 0 from rfl] at hio
            omega
          | cons t Y =>
            have hnX : NP (atoms (part (s :: X) d)) := by rw [part_cons]; exact np_atoms ((part_els eX pX).el _ (by rw [part_cons]; exact List.mem_cons_self ..)) hk
            obtain ⟨o1, cX, hv1, hcX1, hcX2, dX0, dX1, dX2, fX1, htail1, hset1, hst1⟩ := hT.ra.head
            subst hv1
            clear htail1 hset1 hst1
            have hkX2 : (s.k == 2) = false := by simpa using hk
            have HkX := Lib.hid hk
            clear hk
            by_cases ht : t.k = 2
            · skip
              obtain rfl := part_put pY ht
              rw [part_zero (t :: Y)] at hio hat
              have hbs : t.t.size ≤ 1048576 := by rw [bytesL_cons] at hbyY; omega
              have hr := under_r2 eY ht hbs (hnX) hvo hio hat
              have Hr := Lib.hid hr
              have H3 := Lib.hid hlen
              have H4 := Lib.hid hbt
              obtain ⟨o, c, rfl, hc1, hc2, d0, d1, d2, f1, htail, hset, hst⟩ := hT.rs.head
              clear htail hset hst hr hio hat hlen hbt
              have pc := keep_calls t wr.drew hT.drew hol hbase (Z1.out _ hKp.drew) hbs
              have HT := Lib.hid hT
              clear hT
              obtain ⟨sk, sn, st⟩ := t
              simp only at ht d0 d1 d2 pc
              subst ht
              go_wp2_with fail
              go_region_law (go_simp; refine pc.mono ?_; rintro e w2 ⟨rfl, A1, c1, hT2, hK2⟩)
              all_goals (
                have HK2 := hKp.drew.trans hK2
                have Hrd : ∀ A : Option Addr, (0 < Y.length → A = some ⟨gs, (o + 1) * 3, none⟩) → Rd w2 (.slice A Y.length (c - 1)) gs Y := fun A hA => hT2.rs.tailAt hA
                have HRD := Lib.hid Hrd
                clear Hrd d0 d1 d2 f1 hK2 z0 z1 z2 pc
                by_cases hc : c = 1
                · subst hc
                  obtain rfl : Y = [] := List.eq_nil_of_length_eq_zero (by omega)
                  go_wp2_with fail
                  go_roundg gk
                  case measure => omega
                  refine ⟨_, _, _, A1, _, c1, ga, gs, _, 0, rfl, rfl, hT2.right (HRD.out _ (fun h => by simp at h)), rfl, HK2, pX, .inl rfl, eX, eY.tail, ?_, Hr.out.1, ?_, ?_, ?_, ?_, ?_⟩
                  · first | exact Hr.out.2.1 | (rw [part_zero []]; done) | (rw [part_zero []]; exact Hr.out.2.1)
                  · first | exact Hr.out.2.2 | (rw [part_zero []]; done) | (rw [part_zero []]; exact Hr.out.2.2)
                  · have := H3.out; simp at this ⊢ <;> omega
                  · have := H4.out; rw [bytesL_snoc]; show _ + 0 + _ ≤ _; omega
                  · rw [bytesL_cons] at hbyY; omega
                  · simp at hgk ⊢ <;> omega
                · go_wp2_with fail
                  go_roundg gk
                  case measure => omega
                  refine ⟨_, _, _, A1, _, c1, ga, gs, _, 0, rfl, rfl, hT2.right (HRD.out _ (fun _ => by rw [Nat.add_mul])), rfl, HK2, pX, .inl rfl, eX, eY.tail, ?_, Hr.out.1, ?_, ?_, ?_, ?_, ?_⟩
                  · rw [part_zero Y]; exact Hr.out.2.1
                  · rw [part_zero Y]; exact Hr.out.2.2
                  · have := H3.out; simp at this ⊢ <;> omega
                  · have := H4.out; rw [bytesL_snoc]; show _ + 0 + _ ≤ _; omega
                  · rw [bytesL_cons] at hbyY; omega
                  · simp at hgk ⊢ <;> omega)
            · obtain ⟨o2, cY, hv2, hcY1, hcY2, dY0, dY1, dY2, fY1, htail2, hset2, hst2⟩ := hT.rs.head
              subst hv2
              clear htail2 hset2 hst2
              have ht2 : (t.k == 2) = false := by simpa using ht
              have p1 := part_pos eX pX HkX.out
              have p2 := part_pos eY pY ht
              obtain ⟨n, hn⟩ : ∃ n : Nat, (n : Int) = min (s.n - d) (t.n - g) := ⟨(min (s.n - d) (t.n - g)).toNat, by omega⟩
              have hxl := part_els eX pX
              have hyl := part_els eY pY
              rw [part_cons] at hxl hyl
              rw [part_cons, part_cons] at hio hat
              have hr := under_r3 (s := ⟨s.k, s.n - d, s.t⟩) (t := ⟨t.k, t.n - g, t.t⟩) hxl hyl HkX.out ht hvo hio hat n hn
              have q1 := part_take (s := s) (X := X) (d := d) HkX.out p1.1 n (by omega) (by omega)
              have q2 := part_take (s := t) (X := Y) (d := g) ht p2.1 n (by omega) (by omega)
              rw [q1.1, q2.1] at hr
              have Hr := Lib.hid hr
              have Q1 := Lib.hid q1.2
              have Q2 := Lib.hid q2.2
              have m1 := both_small eX HkX.out
              have m2 := both_small eY ht
              have hbl := bothSp_length s t (n : Int)
              have hbb := bothSp_bytes s t (n : Int)
              have hpc : Calls Tryd.prog 55 _ _ _ := take_calls s t (n : Int) (wr.drewN 1) (hT.drewN 1) hol hbase
              have pc := fun nq => take_calls s t (n : Int) (wr.drewN nq) (hT.drewN nq) hol hbase
              have PC := Lib.hid pc
              have H3 := Lib.hid hlen
              have H4 := Lib.hid hbt
              have Hbl := Lib.hid hbl
              have Hbb := Lib.hid hbb
              have HT := Lib.hid hT
              have Hht := Lib.hid ht
              have hs1 : s.n - d ≤ 1048576 := by omega
              have hs2 : t.n - g ≤ 1048576 := by omega
              have hn1 : (n : Int) ≤ s.n - d := by omega
              have hn2 : (n : Int) ≤ t.n - g := by omega
              have hn0 : 0 < n := by omega
              have hd0 : 0 ≤ d := p1.1
              have hg0 : 0 ≤ g := p2.1
              have hnn : min (s.n - d) (t.n - g) = n := hn.symm
              have hor : d + n = s.n ∨ g + n = t.n := by omega
              have Hor := Lib.hid hor
              clear hr q1 q2 hpc pc hlen hbt hbl hbb hT ht hio hat hn p1 p2 hor
              go_wp2_with fail
              go_quiet (fail)
              go_wp2_with fail
              apply region_once (R := fun w2 => AppPost b (w.heap.size + 1) ga gs (out ++ bothSp s t n) (.slice (some ⟨ga, o1 * 3, none⟩) (X.length + 1) cX) (.slice (some ⟨gs, o2 * 3, none⟩) (Y.length + 1) cY) (s :: X) (t :: Y) (wr.drewN (nq + 1)) (.returned (.tuple #[])) w2)
              · go_region_law (go_simp; refine (PC.out (nq + 1)).mono ?_; rintro e w2 ⟨rfl, h2⟩)
                all_goals exact ⟨rfl, rfl, h2⟩
              · rintro w2 ⟨_, A1, c1, hT2, hK2⟩
                have HK2 := (hKp.drewN (nq + 1)).trans hK2
                obtain ⟨a0, a1, a2⟩ := hT2.ra.cellsAt
                obtain ⟨e0, e1, e2⟩ := hT2.rs.cellsAt
                have Hrx : ∀ A : Option Addr, (0 < X.length → A = some ⟨ga, (o1 + 1) * 3, none⟩) → Rd w2 (.slice A X.length (cX - 1)) ga X := fun A hA => hT2.ra.tailAt hA
                have HRX := Lib.hid Hrx
                have Hry : ∀ A : Option Addr, (0 < Y.length → A = some ⟨gs, (o2 + 1) * 3, none⟩) → Rd w2 (.slice A Y.length (cY - 1)) gs Y := fun A hA => hT2.rs.tailAt hA
                have HRY := Lib.hid Hry
                have HT2 := Lib.hid hT2
                clear Hrx Hry hK2 hT2 z0 z1 z2 dX0 dX1 dX2 fX1 dY0 dY1 dY2 fY1
                by_cases h1 : d + (n : Int) = s.n
                · have b1 : (d + (n : Int) == s.n) = true := by simpa using h1
                  have h1' := Lib.hid h1
                  clear h1
                  have h1 := h1'
                  clear h1'
                  by_cases h2 : g + (n : Int) = t.n
                  · have b2 : (g + (n : Int) == t.n) = true := by simpa using h2
                    have h2' := Lib.hid h2
                    clear h2
                    have h2 := h2'
                    clear h2'
                    by_cases hcX : cX = 1
                    · subst hcX
                      obtain rfl : X = [] := List.eq_nil_of_length_eq_zero (by omega)
                      by_cases hcY : cY = 1
                      · subst hcY
                        obtain rfl : Y = [] := List.eq_nil_of_length_eq_zero (by omega)
                        go_wp2_with fail
                        go_roundg gk
                        case measure => omega
                        refine ⟨_, _, _, A1, _, c1, ga, gs, 0, 0, rfl, rfl, ((HT2.out.left (HRX.out _ (fun h => by simp at h))).right (HRY.out _ (fun h => by simp at h))), rfl, HK2, .inl rfl, .inl rfl, eX.tail, eY.tail, ?_, Hr.out.2.2.1, ?_, ?_, ?_, ?_, ?_⟩
                        · have h := Hr.out.2.2.2.1
                          rw [if_pos h1.out, if_pos h2.out] at h
                          all_goals (first | exact h | (simp only [part_zero]; done) | (simp only [part_zero]; exact h))
                        · have h := Hr.out.2.2.2.2
                          rw [if_pos h1.out, if_pos h2.out] at h
                          all_goals (first | exact h | (simp only [part_zero]; done) | (simp only [part_zero]; exact h))
                        · have h3 := H3.out; have := Hbl.out; rw [List.length_append]; simp only [List.length_cons] at h3 ⊢; omega
                        · have h4 := H4.out; rw [bytesL_append, Hbb.out]; rw [bytesL_cons] at h4; omega
                        · rw [bytesL_cons] at hbyY; omega
                        · simp only [List.length_cons] at hgk ⊢; omega
                      · skip
                        go_wp2_with fail
                        go_roundg gk
                        case measure => omega
                        refine ⟨_, _, _, A1, _, c1, ga, gs, 0, 0, rfl, rfl, ((HT2.out.left (HRX.out _ (fun h => by simp at h))).right (HRY.out _ (fun _ => by rw [Nat.add_mul]))), rfl, HK2, .inl rfl, .inl rfl, eX.tail, eY.tail, ?_, Hr.out.2.2.1, ?_, ?_, ?_, ?_, ?_⟩
                        · have h := Hr.out.2.2.2.1
                          rw [if_pos h1.out, if_pos h2.out] at h
                          all_goals (first | exact h | (simp only [part_zero]; done) | (simp only [part_zero]; exact h))
                        · have h := Hr.out.2.2.2.2
                          rw [if_pos h1.out, if_pos h2.out] at h
                          all_goals (first | exact h | (simp only [part_zero]; done) | (simp only [part_zero]; exact h))
                        · have h3 := H3.out; have := Hbl.out; rw [List.length_append]; simp only [List.length_cons] at h3 ⊢; omega
                        · have h4 := H4.out; rw [bytesL_append, Hbb.out]; rw [bytesL_cons] at h4; omega
                        · rw [bytesL_cons] at hbyY; omega
                        · simp only [List.length_cons] at hgk ⊢; omega
                    · skip
                      by_cases hcY : cY = 1
                      · subst hcY
                        obtain rfl : Y = [] := List.eq_nil_of_length_eq_zero (by omega)
                        go_wp2_with fail
                        go_roundg gk
                        case measure => omega
                        refine ⟨_, _, _, A1, _, c1, ga, gs, 0, 0, rfl, rfl, ((HT2.out.left (HRX.out _ (fun _ => by rw [Nat.add_mul]))).right (HRY.out _ (fun h => by simp at h))), rfl, HK2, .inl rfl, .inl rfl, eX.tail, eY.tail, ?_, Hr.out.2.2.1, ?_, ?_, ?_, ?_, ?_⟩
                        · have h := Hr.out.2.2.2.1
                          rw [if_pos h1.out, if_pos h2.out] at h
                          all_goals (first | exact h | (simp only [part_zero]; done) | (simp only [part_zero]; exact h))
                        · have h := Hr.out.2.2.2.2
                          rw [if_pos h1.out, if_pos h2.out] at h
                          all_goals (first | exact h | (simp only [part_zero]; done) | (simp only [part_zero]; exact h))
                        · have h3 := H3.out; have := Hbl.out; rw [List.length_append]; simp only [List.length_cons] at h3 ⊢; omega
                        · have h4 := H4.out; rw [bytesL_append, Hbb.out]; rw [bytesL_cons] at h4; omega
                        · rw [bytesL_cons] at hbyY; omega
                        · simp only [List.length_cons] at hgk ⊢; omega
                      · skip
                        go_wp2_with fail
                        go_roundg gk
                        case measure => omega
                        refine ⟨_, _, _, A1, _, c1, ga, gs, 0, 0, rfl, rfl, ((HT2.out.left (HRX.out _ (fun _ => by rw [Nat.add_mul]))).right (HRY.out _ (fun _ => by rw [Nat.add_mul]))), rfl, HK2, .inl rfl, .inl rfl, eX.tail, eY.tail, ?_, Hr.out.2.2.1, ?_, ?_, ?_, ?_, ?_⟩
                        · have h := Hr.out.2.2.2.1
                          rw [if_pos h1.out, if_pos h2.out] at h
                          all_goals (first | exact h | (simp only [part_zero]; done) | (simp only [part_zero]; exact h))
                        · have h := Hr.out.2.2.2.2
                          rw [if_pos h1.out, if_pos h2.out] at h
                          all_goals (first | exact h | (simp only [part_zero]; done) | (simp only [part_zero]; exact h))
                        · have h3 := H3.out; have := Hbl.out; rw [List.length_append]; simp only [List.length_cons] at h3 ⊢; omega
                        · have h4 := H4.out; rw [bytesL_append, Hbb.out]; rw [bytesL_cons] at h4; omega
                        · rw [bytesL_cons] at hbyY; omega
                        · simp only [List.length_cons] at hgk ⊢; omega
                  · have b2 : (g + (n : Int) == t.n) = false := by simpa using h2
                    have h2' := Lib.hid h2
                    clear h2
                    have h2 := h2'
                    clear h2'
                    by_cases hcX : cX = 1
                    · subst hcX
                      obtain rfl : X = [] := List.eq_nil_of_length_eq_zero (by omega)
                      go_wp2_with fail
                      go_roundg gk
                      case measure => omega
                      refine ⟨_, _, _, A1, _, c1, ga, gs, 0, g + n, rfl, by go_num, (HT2.out.left (HRX.out _ (fun h => by simp at h))), rfl, HK2, .inl rfl, Q2.out h2.out, eX.tail, eY, ?_, Hr.out.2.2.1, ?_, ?_, ?_, ?_, ?_⟩
                      · have h := Hr.out.2.2.2.1
                        rw [if_pos h1.out, if_neg h2.out] at h
                        all_goals (first | exact h | (simp only [part_zero]; done) | (simp only [part_zero]; exact h))
                      · have h := Hr.out.2.2.2.2
                        rw [if_pos h1.out, if_neg h2.out] at h
                        all_goals (first | exact h | (simp only [part_zero]; done) | (simp only [part_zero]; exact h))
                      · have h3 := H3.out; have := Hbl.out; rw [List.length_append]; simp only [List.length_cons] at h3 ⊢; omega
                      · have h4 := H4.out; rw [bytesL_append, Hbb.out]; rw [bytesL_cons] at h4; omega
                      · exact hbyY
                      · simp only [List.length_cons] at hgk ⊢; omega
                    · skip
                      go_wp2_with fail
                      go_roundg gk
                      case measure => omega
                      refine ⟨_, _, _, A1, _, c1, ga, gs, 0, g + n, rfl, by go_num, (HT2.out.left (HRX.out _ (fun _ => by rw [Nat.add_mul]))), rfl, HK2, .inl rfl, Q2.out h2.out, eX.tail, eY, ?_, Hr.out.2.2.1, ?_, ?_, ?_, ?_, ?_⟩
                      · have h := Hr.out.2.2.2.1
                        rw [if_pos h1.out, if_neg h2.out] at h
                        all_goals (first | exact h | (simp only [part_zero]; done) | (simp only [part_zero]; exact h))
                      · have h := Hr.out.2.2.2.2
                        rw [if_pos h1.out, if_neg h2.out] at h
                        all_goals (first | exact h | (simp only [part_zero]; done) | (simp only [part_zero]; exact h))
                      · have h3 := H3.out; have := Hbl.out; rw [List.length_append]; simp only [List.length_cons] at h3 ⊢; omega
                      · have h4 := H4.out; rw [bytesL_append, Hbb.out]; rw [bytesL_cons] at h4; omega
                      · exact hbyY
                      · simp only [List.length_cons] at hgk ⊢; omega
                · have b1 : (d + (n : Int) == s.n) = false := by simpa using h1
                  have h2 : g + (n : Int) = t.n := by have := Hor.out; omega
                  have h1' := Lib.hid h1
                  clear h1
                  have h1 := h1'
                  clear h1'
                  have b2 : (g + (n : Int) == t.n) = true := by simpa using h2
                  have h2' := Lib.hid h2
                  clear h2
                  have h2 := h2'
                  clear h2'
                  by_cases hcY : cY = 1
                  · subst hcY
                    obtain rfl : Y = [] := List.eq_nil_of_length_eq_zero (by omega)
                    go_wp2_with fail
                    go_roundg gk
                    case measure => omega
                    refine ⟨_, _, _, A1, _, c1, ga, gs, d + n, 0, by go_num, rfl, (HT2.out.right (HRY.out _ (fun h => by simp at h))), rfl, HK2, Q1.out h1.out, .inl rfl, eX, eY.tail, ?_, Hr.out.2.2.1, ?_, ?_, ?_, ?_, ?_⟩
                    · have h := Hr.out.2.2.2.1
                      rw [if_neg h1.out, if_pos h2.out] at h
                      all_goals (first | exact h | (simp only [part_zero]; done) | (simp only [part_zero]; exact h))
                    · have h := Hr.out.2.2.2.2
                      rw [if_neg h1.out, if_pos h2.out] at h
                      all_goals (first | exact h | (simp only [part_zero]; done) | (simp only [part_zero]; exact h))
                    · have h3 := H3.out; have := Hbl.out; rw [List.length_append]; simp only [List.length_cons] at h3 ⊢; omega
                    · have h4 := H4.out; rw [bytesL_append, Hbb.out]; rw [bytesL_cons] at h4; rw [bytesL_cons]; omega
                    · rw [bytesL_cons] at hbyY; omega
                    · simp only [List.length_cons] at hgk ⊢; omega
                  · skip
                    go_wp2_with fail
                    go_roundg gk
                    case measure => omega
                    refine ⟨_, _, _, A1, _, c1, ga, gs, d + n, 0, by go_num, rfl, (HT2.out.right (HRY.out _ (fun _ => by rw [Nat.add_mul]))), rfl, HK2, Q1.out h1.out, .inl rfl, eX, eY.tail, ?_, Hr.out.2.2.1, ?_, ?_, ?_, ?_, ?_⟩
                    · have h := Hr.out.2.2.2.1
                      rw [if_neg h1.out, if_pos h2.out] at h
                      all_goals (first | exact h | (simp only [part_zero]; done) | (simp only [part_zero]; exact h))
                    · have h := Hr.out.2.2.2.2
                      rw [if_neg h1.out, if_pos h2.out] at h
                      all_goals (first | exact h | (simp only [part_zero]; done) | (simp only [part_zero]; exact h))
                    · have h3 := H3.out; have := Hbl.out; rw [List.length_append]; simp only [List.length_cons] at h3 ⊢; omega
                    · have h4 := H4.out; rw [bytesL_append, Hbb.out]; rw [bytesL_cons] at h4; rw [bytesL_cons]; omega
                    · rw [bytesL_cons] at hbyY; omega
                    · simp only [List.length_cons] at hgk ⊢; omega

end Go.Proofs.YtmfpfipjhhfbhaaDoor
