/- over.Of of two operations that may be, and take the same. -/
import Derived.Test.YtmfpfipjhhfbhaaDoorOver
namespace Go.Proofs.YtmfpfipjhhfbhaaDoor
open Go.RowKit Go.Proofs.YtmfpfipjhhfbhaaDoorW.PrintWords

/-- The loop's state. -/
structure OverInv (w wr : World) (va vs : Value) (R : List At) (K Bt gk : Nat) : Prop where
  out : ∃ X Y out A nn c ga gs, Trio w.heap.size w.heap.size ga gs (.slice A nn c) out va vs X Y wr ∧ nn = out.length ∧ w.heap.size < ga ∧ w.heap.size < gs ∧ Els X ∧ Els Y ∧ inA (atoms X) = inA (atoms Y) ∧
    Valid out ∧ atoms out ++ overA (atoms X) (atoms Y) = R ∧ out.length + X.length + Y.length ≤ K ∧ bytesL out + bytesL X ≤ Bt ∧ bytesL Y ≤ 1048576 ∧ Below w.heap.size w wr ∧ X.length + Y.length < gk

/-- What is handed in: two that may be, and take the same; not too great. -/
structure Fit2 (xs ys : List Sp) : Prop where
  vx : Valid xs
  vy : Valid ys
  io : inA (atoms xs) = inA (atoms ys)
  few : inA (atoms xs) ≤ 1048576
  lx : xs.length ≤ 1048576
  ly : ys.length ≤ 1048576
  bx : bytesL xs ≤ 1048576
  bound_y : bytesL ys ≤ 1048576
theorem bytes_le {xs : List Sp} {s : Sp} (h : s ∈ xs) : s.t.size ≤ bytesL xs := by
  induction xs with
  | nil => cases h
  | cons x xs ih =>
    have e : bytesL (x :: xs) = x.t.size + bytesL xs := by simp [bytesL]
    rw [e]
    rcases List.mem_cons.1 h with rfl | h
    · omega
    · have := ih h; omega
theorem texts_ok {xs : List Sp} (h : bytesL xs ≤ 140737488351232) : TextsOk xs := fun _ hs => Nat.le_trans (bytes_le hs) (Nat.le_trans h (by decide))
theorem atoms_length_le : ∀ {xs : List Sp}, Valid xs → (atoms xs).length ≤ inA (atoms xs) + bytesL xs
  | [], _ => Nat.zero_le _
  | s :: xs, h => by
    have ih := atoms_length_le (xs := xs) (fun x hx => h x (by simp [hx]))
    have e : bytesL (s :: xs) = s.t.size + bytesL xs := by simp [bytesL]
    rw [atoms_cons, List.length_append, inA_append, e]
    have : (spAtoms s).length ≤ inA (spAtoms s) + s.t.size := by
      rcases may_cases (h s (by simp)) with ⟨hk, ⟨m, hm, _⟩, _⟩ | ⟨hk, _, ht⟩
      · rcases hk with hk | hk
        · simp [spAtoms, hk, hm, inA_keeps]
        · simp [spAtoms, hk, hm, inA_drops]
      · have := (cps_length_le s.t ht).1
        simp [spAtoms, hk, inA_puts]; exact this
    omega
theorem norm_els {xs : List Sp} (h : Valid xs) (hf : inA (atoms xs) ≤ 1048576) (hb : bytesL xs ≤ 1048576) : Els (normS xs) ∧ atoms (normS xs) = atoms xs := by
  have hl := atoms_length_le h
  have hg := good_atoms h
  rw [normS_atoms h]
  have h1 := atoms_ofA hg (by omega)
  exact ⟨⟨(ofA_canon hg (by omega)).el, by rw [h1]; exact hf⟩, h1⟩
theorem bytesL_normS (xs : List Sp) : bytesL (normS xs) ≤ bytesL xs := by
  unfold normS
  rw [bytesL_foldl]
  have := bytesL_filter xs
  have h4 : bytesL ([] : List Sp) = 0 := rfl
  omega

set_option maxRecDepth 100000 in
set_option maxHeartbeats 4000000 in
theorem over_ok (A B : Option Addr) (ca cb : Nat) (xs ys : List Sp) (w : World) (hL : Laid w) (hx : Kd.C kSp w A xs.length xs) (hy : Kd.C kSp w B ys.length ys) (hF : Fit2 xs ys) :
    Calls Tryd.prog 17 #[.slice A xs.length ca, .slice B ys.length cb] w fun e w' => ∃ v, e = .returned (.tuple #[v, .int .i64 0]) ∧ Kd.R kSp 26 w' w.heap.size (fun _ => True) v (ofA (overA (atoms xs) (atoms ys))) ∧ Below w.heap.size w w' := by
  have hTx : TextsOk xs := texts_ok (by have := hF.bx; omega)
  have hTy : TextsOk ys := texts_ok (by have := hF.bound_y; omega)
  have h1 : opMay xs = 0 := (opMay_zero (by have := hF.lx; omega)).2 ⟨hF.vx, hF.few⟩
  have h2 : opMay ys = 0 := (opMay_zero (by have := hF.ly; omega)).2 ⟨hF.vy, by rw [← hF.io]; exact hF.few⟩
  have h3 : sumW spIn xs = inA (atoms xs) := opIn_atoms hF.vx (by have := hF.few; omega)
  have h4 : sumW spIn ys = inA (atoms xs) := by rw [opIn_atoms hF.vy (by have := hF.few; have := hF.io; omega), hF.io]
  have HX := Aside0.mk hx
  have HY := Aside0.mk hy
  have hm := hx.2.1
  clear hx hy
  have hmf : ∀ (fn : Fn) (first cap : Array Value) (w : World), (Instr.makeFunc fn first cap).run Tryd.prog w = .ok (.func fn first cap) w := fun _ _ _ _ => rfl
  obtain ⟨W0, hW0⟩ : ∃ W0, W0 = (w.alloc (.cells #[.slice none 0 0] 27)).alloc (.cells #[.slice A xs.length ca, .slice B ys.length cb] 27) := ⟨_, rfl⟩
  have T0 : Below (w.heap.size + 2) ((w.alloc (.cells #[.slice none 0 0] 27)).alloc (.cells #[.slice A xs.length ca, .slice B ys.length cb] 27)) W0 := by rw [hW0]; exact Below.refl _ _
  have HW0 := Lib.hid hW0
  clear hW0
  obtain ⟨k0, k1, k2, k3, B0, hz⟩ := two_boxes T0
  have c1 := opMay_calls A ca xs W0 (hL.below B0) hTx (Kd.C_below HX.out B0)
  rw [h1] at c1
  obtain ⟨R, hR⟩ : ∃ R, R = overA (atoms xs) (atoms ys) := ⟨_, rfl⟩
  rw [← hR]
  have HRR := Lib.hid hR
  clear h1 hR
  go_enter_defers Tryd.func17, Tryd.ntmps17
  go_wp2_with fail
  refine wp_loop_rounds 3 ?_
  rw [rounds_succ]
  go_wp2_with fail
  rw [← HW0.out]
  refine c1.mono ?_
  rintro e w1 ⟨rfl, hb⟩
  have T1 := T0.trans (hb.mono (by omega))
  clear hb hz k0 k1 k2 k3
  obtain ⟨k0, k1, k2, k3, B1, hz⟩ := two_boxes T1
  have c2 := opMay_calls B cb ys w1 (hL.below B1) hTy (Kd.C_below HY.out B1)
  rw [h2] at c2
  clear h2
  go_wp2_with fail
  rw [rounds_succ]
  go_wp2_with fail
  refine c2.mono ?_
  rintro e w2 ⟨rfl, hb⟩
  have T2 := T1.trans (hb.mono (by omega))
  clear hb hz k0 k1 k2 k3
  obtain ⟨k0, k1, k2, k3, B2, hz⟩ := two_boxes T2
  have c3 := opIn_calls A ca xs w2 (hL.below B2) hTx (Kd.C_below HX.out B2)
  rw [h3] at c3
  clear h3
  go_wp2_with fail
  rw [rounds_succ]
  go_wp2_with fail
  refine c3.mono ?_
  rintro e w3 ⟨rfl, hb⟩
  have T3 := T2.trans (hb.mono (by omega))
  clear hb hz k0 k1 k2 k3
  obtain ⟨k0, k1, k2, k3, B3, hz⟩ := two_boxes T3
  have c4 := opIn_calls B cb ys w3 (hL.below B3) hTy (Kd.C_below HY.out B3)
  rw [h4] at c4
  clear h4
  go_wp2_with fail
  refine c4.mono ?_
  rintro e w4 ⟨rfl, hb⟩
  have T4 := T3.trans (hb.mono (by omega))
  clear hb hz k0 k1 k2 k3
  obtain ⟨k0, k1, k2, k3, B4, hz⟩ := two_boxes T4
  go_wp2_with fail
  have n1 := normOf_calls A ca xs w4 (Kd.C_below HX.out B4) (by have := hF.lx; omega) (by have := hF.bx; omega)
  refine n1.mono ?_
  intro e w5 hN
  obtain ⟨va, rfl, hRa, hb⟩ := Rd.of_norm hN (by have := hF.lx; omega)
  clear hN n1
  have hz4 := hz
  have T5 := T4.trans (hb.mono (by omega))
  clear hb hz k0 k1 k2 k3
  obtain ⟨k0, k1, k2, k3, B5, hz⟩ := two_boxes T5
  go_wp2_with fail
  have n2 := normOf_calls B cb ys w5 (Kd.C_below HY.out B5) (by have := hF.ly; omega) (by have := hF.bound_y; omega)
  refine n2.mono ?_
  intro e w6 hN
  obtain ⟨vs, rfl, hRs, hb⟩ := Rd.of_norm hN (by have := hF.ly; omega)
  clear hN n2
  have hRa' := hRa.below hb hRa.lt
  have hga : w4.heap.size ≠ w5.heap.size := by have := hRa.lt; omega
  have T6 := T5.trans (hb.mono (by omega))
  clear hRa hb k0 k1 k2 k3
  have hz5 := hz
  clear hz
  obtain ⟨k0, k1, k2, k3, B6, hz⟩ := two_boxes T6
  go_wp2_with fail
  obtain ⟨nx1, nx2⟩ := norm_els hF.vx hF.few hF.bx
  obtain ⟨ny1, ny2⟩ := norm_els hF.vy (by rw [← hF.io]; exact hF.few) hF.bound_y
  have I0 : OverInv w w6 va vs R (xs.length + ys.length) (bytesL xs) (xs.length + ys.length + 1) := by
    have l1 := normS_length_le xs
    have l2 := normS_length_le ys
    have l3 := bytesL_normS xs
    have l4 := bytesL_normS ys
    refine ⟨normS xs, normS ys, [], none, 0, 0, w4.heap.size, w5.heap.size, ⟨Kd.R_nil _ _ _ _ _, hRa', hRs, k0, k3, hga, by omega, by omega⟩, rfl, by omega, by omega, nx1, ny1, by rw [nx2, ny2]; exact hF.io, fun _ h => (by cases h), ?_, ?_, ?_, by have := hF.bound_y; omega, B6, by omega⟩
    · rw [nx2, ny2, HRR.out]; rfl
    · show 0 + _ + _ ≤ _; omega
    · show bytesL [] + _ ≤ _; rw [show bytesL [] = 0 from rfl]; omega
  clear hRa' hRs T0 T1 T2 T3 T4 T5 T6 k0 k1 k2 k3 c1 c2 c3 c4 nx1 nx2 ny1 ny2 HX HY
  go_loopg [0, 1] (xs.length + ys.length + 1) (fun gk v0 v1 wr => OverInv w wr v0 v1 R (xs.length + ys.length) (bytesL xs) gk)
  case atStart => exact I0
  case round =>
    clear I0
    rename_i wr J hJ KK hK
    obtain ⟨X, Y, out, Av, nn, cv, ga, gs, hT, rfl, hga, hgs, eX, eY, hio, hvo, hat, hlen, hby, hbyY, hB, hgk⟩ := hrel.out
    cases gk with
    | zero => omega
    | succ gk =>
      have hzw := hB.size
      have H1 := Lib.hid hio
      have H2 := Lib.hid hat
      have H3 := Lib.hid hlen
      have H4 := Lib.hid hby
      have k0 := hT.cell
      have k3 := hT.frz
      have hRa := hT.ra
      have hRs := hT.rs
      clear hio hat hlen hby hrel hm hTx hTy B0 B1 B2 B3 B4 B5 B6 hz4 hz5 hz
      cases Y with
      | nil =>
        obtain ⟨A1, d1, rfl⟩ := hRs.nil_form
        cases X with
        | nil =>
          obtain ⟨A2, d2, rfl⟩ := hRa.nil_form
          go_wp2_with fail
          refine leaves_cons (f := 50) (args := #[.pointer (some ⟨w.heap.size, 0, none⟩)]) (by simp) (by simp [go_sem]) ?_
          refine (over_defer w.heap.size Av cv out .returning _ (World.cell?_setCell_same _ _ _ k0) (by rw [World.frozen?_setCell]; exact k3) (Kd.R_reads' (Kd.R_far (p := ⟨w.heap.size, 0, none⟩) hT.row (fun k hk => hk.1) _)).2.2 (by have := H3.out; have := hF.lx; have := hF.ly; omega) (by have := H4.out; have := hF.bx; omega)).mono ?_
          rintro e u' w' ⟨rfl, rfl, v, hv, hvr, hg⟩
          refine ⟨_, by simp [results, Tryd.results17, go_sem, hv], v, rfl, ?_, ?_⟩
          · rw [normS_atoms hvo] at hvr
            have h2 := H2.out
            rw [show overA (atoms []) (atoms []) = [] by simp [atoms, overA], List.append_nil] at h2
            rw [h2] at hvr
            exact Kd.R_lower hvr (by simpa using hzw)
          · exact (hB.setCell (Nat.le_refl _) _).grown hg (by simpa using hzw) (by simp)
        | cons s X =>
          have hk : s.k = 2 := by
            rcases el_kinds (eX.el s (by simp)) with ⟨h, _⟩ | ⟨_, _, m, h0, _, ha⟩
            · exact h
            · have h1 := H1.out
              rw [atoms_cons, ha, inA_append, inA_one] at h1
              rw [show inA (atoms []) = 0 from rfl] at h1
              omega
          obtain ⟨p, c, rfl, hc1, hc2, d0, d1, d2, f1, htail, hset, hst⟩ := hRa.head
          clear htail hset hst
          have hbx : bytesL (s :: X) ≤ 1048576 := by have := H4.out; have := hF.bx; omega
          have hr2 := over_r2 eX hk (by rw [bytesL_cons] at hbx; omega) ((show NP (atoms []) from trivial)) hvo H1.out H2.out
          have Hr2 := Lib.hid hr2
          clear hr2
          have hol : out.length + 1 ≤ 4194304 := by have h3 := H3.out; have := hF.lx; have := hF.ly; rw [List.length_cons] at h3; omega
          obtain ⟨sk, sn, st⟩ := s
          simp only at hk d0 d1 d2
          subst hk
          have hTD := hT.drew
          have hBD : Below w.heap.size w wr.drew := below_drew hB
          have m6 := hT.later
          have HRA := Lib.hid hRa
          have HRS := Lib.hid hRs
          have HT := Lib.hid hT
          clear hRa hRs hT
          go_wp2_with fail
          refine wp_region_noPanic ?_
          go_region_law (first
            | (refine step_appD (base := w.heap.size) (w0 := w) (b := w.heap.size) rfl (.tmp 103) (.tmp 107) rfl ⟨_, _, _⟩ (by assumption) (by assumption) rfl rfl hol (Nat.le_refl _) ?_
               intro A1 c1 w1 m1 m2 m3 m4))
          all_goals (
            refine NoPanic.normal ?_
            have M4 := m4.setCell (Nat.le_refl _) (p := ⟨w.heap.size, 0, none⟩) (.slice A1 (out.length + 1) c1)
            clear m1 m2 m4 m6 hTD d0 d1 d2 f1 k0 k3
            generalize w1.setCell _ _ = W at m3 M4 ⊢
            have Hrd : ∀ A : Option Addr, (0 < X.length → A = some ⟨ga, (p + 1) * 3, none⟩) → Rd W (.slice A X.length (c - 1)) ga X := fun A hA => m3.ra.tailAt hA
            have HRD := Lib.hid Hrd
            clear Hrd
            by_cases hc : c = 1
            · subst hc
              obtain rfl : X = [] := List.eq_nil_of_length_eq_zero (by omega)
              go_wp2_with fail
              go_roundg gk
              case measure => omega
              refine ⟨_, _, out ++ [⟨2, sn, st⟩], A1, _, c1, ga, gs, m3.left (HRD.out _ (fun h => by simp at h)), by simp, hga, hgs, eX.tail, eY, (by first | exact Hr2.out.2.1 | rfl), Hr2.out.1, Hr2.out.2.2, ?_, ?_, hbyY, M4, ?_⟩
              · have := H3.out; simp at this ⊢ <;> omega
              · have := H4.out; rw [bytesL_snoc]; rw [bytesL_cons] at this; simp only at this ⊢; omega
              · simp at hgk ⊢ <;> omega
            · go_wp2_with fail
              go_roundg gk
              case measure => omega
              refine ⟨_, _, out ++ [⟨2, sn, st⟩], A1, _, c1, ga, gs, m3.left (HRD.out _ (fun _ => by rw [Nat.add_mul])), by simp, hga, hgs, eX.tail, eY, (by first | exact Hr2.out.2.1 | rfl), Hr2.out.1, Hr2.out.2.2, ?_, ?_, hbyY, M4, ?_⟩
              · have := H3.out; simp at this ⊢ <;> omega
              · have := H4.out; rw [bytesL_snoc]; rw [bytesL_cons] at this; simp only at this ⊢; omega
              · simp at hgk ⊢ <;> omega)
      | cons s Y =>
        by_cases hk : s.k = 2
        · obtain ⟨o, c, rfl, hc1, hc2, d0, d1, d2, f1, htail, hset, hst⟩ := hRs.head
          have Ht := Lib.hid htail
          clear htail hset hst
          obtain ⟨sk, sn, st⟩ := s
          simp only at hk d0 d1 d2
          subst hk
          have hsz : st.size ≤ 1048576 := by have e : bytesL (⟨2, sn, st⟩ :: Y) = st.size + bytesL Y := by simp [bytesL]
                                             omega
          have hTD := hT.drew
          have hBD : Below w.heap.size w wr.drew := below_drew hB
          have hso := spanOut_calls ⟨2, sn, st⟩ wr.drew (hL.below hBD) (by show st.size ≤ _; omega)
          obtain ⟨Aa, da, nX, rfl, hXl, hXn⟩ := hRa.formN
          have hol : out.length + 1 ≤ 4194304 := by have this0 := H3.out; have := hF.lx; have := hF.ly; have e1 : out.length + X.length + (Y.length + 1) ≤ xs.length + ys.length := this0; omega
          have HRA := Lib.hid hRa
          have HRS := Lib.hid hRs
          have HT := Lib.hid hT
          clear hRa hRs hT
          have hr1 := over_r1 eY rfl (by show st.size ≤ _; omega) hvo H1.out H2.out
          have Hr1 := Lib.hid hr1
          clear hr1
          rcases nX with _ | nX
          all_goals (
            go_wp2_with fail
            refine wp_region_noPanic ?_
            go_region_law (first
              | (refine step_app (base := w.heap.size) (w0 := w) (b := w.heap.size) rfl (.tmp 82) (.tmp 88) rfl ⟨_, _, _⟩ (by assumption) (by assumption) rfl rfl hol (Nat.le_refl _) ?_
                 intro A1 c1 w1 m1 m2 m3 m4)
              | (go_simp; refine hso.mono ?_; rintro e w2 ⟨rfl, hb2⟩; have hTE := hTD.below hb2; have hBE := hBD.trans (hb2.mono hBD.size); have m0 := hTE.cell; have m6 := hTE.later))
            all_goals (
              refine NoPanic.normal ?_
              have M4 := m4.setCell (Nat.le_refl _) (p := ⟨w.heap.size, 0, none⟩) (.slice A1 (out.length + 1) c1)
              clear m1 m2 m4 hTD hso d0 d1 d2 f1 k0 k3
              generalize w1.setCell _ _ = W at m3 M4 ⊢
              have Hrd : ∀ A : Option Addr, (0 < Y.length → A = some ⟨gs, (o + 1) * 3, none⟩) → Rd W (.slice A Y.length (c - 1)) gs Y := fun A hA => m3.rs.tailAt hA
              have HRD := Lib.hid Hrd
              clear Hrd
              by_cases hc : c = 1
              · subst hc
                obtain rfl : Y = [] := List.eq_nil_of_length_eq_zero (by omega)
                go_wp2_with fail
                go_roundg gk
                case measure => omega
                refine ⟨X, _, out ++ [kept ⟨2, sn, st⟩], A1, _, c1, ga, gs, m3.right (HRD.out _ (fun h => by simp at h)), by simp, hga, hgs, eX, eY.tail, Hr1.out.2.1, Hr1.out.1, Hr1.out.2.2, ?_, ?_, ?_, M4, ?_⟩
                · have := H3.out; simp at this ⊢; omega
                · have := H4.out; rw [bytesL_snoc]; show _ + 0 + _ ≤ _; omega
                · rw [bytesL_cons] at hbyY; omega
                · simp at hgk ⊢; omega
              · go_wp2_with fail
                go_roundg gk
                case measure => omega
                refine ⟨X, _, out ++ [kept ⟨2, sn, st⟩], A1, _, c1, ga, gs, m3.right (HRD.out _ (fun _ => by rw [Nat.add_mul])), by simp, hga, hgs, eX, eY.tail, Hr1.out.2.1, Hr1.out.1, Hr1.out.2.2, ?_, ?_, ?_, M4, ?_⟩
                · have := H3.out; simp at this ⊢; omega
                · have := H4.out; rw [bytesL_snoc]; show _ + 0 + _ ≤ _; omega
                · rw [bytesL_cons] at hbyY; omega
                · simp at hgk ⊢; omega))
        · have hnY : NP (atoms (s :: Y)) := np_atoms (eY.el s (by simp)) hk
          cases X with
          | nil =>
            rcases el_kinds (eY.el s (by simp)) with ⟨h, _⟩ | ⟨_, _, m, h0, _, ha⟩
            · exact absurd h hk
            · have h1 := H1.out
              rw [atoms_cons, ha, inA_append, inA_one] at h1
              rw [show inA (atoms []) = 0 from rfl] at h1
              omega
          | cons s2 X =>
            obtain ⟨o2, cY, hvs, hcY1, hcY2, dY0, dY1, dY2, fY1, htail, hset, hst⟩ := hRs.head
            subst hvs
            clear htail hset hst
            have hkY : (s.k == 2) = false := by simpa using hk
            have HkY := Lib.hid hk
            clear hk
            by_cases hk : s2.k = 2
            · skip
              obtain ⟨p, c, hva, hc1, hc2, d0, d1, d2, f1, htail, hset, hst⟩ := hRa.head
              subst hva
              clear htail hset hst
              have hbx : bytesL (s2 :: X) ≤ 1048576 := by have := H4.out; have := hF.bx; omega
              have hr2 := over_r2 eX hk (by rw [bytesL_cons] at hbx; omega) (hnY) hvo H1.out H2.out
              have Hr2 := Lib.hid hr2
              clear hr2
              have hol : out.length + 1 ≤ 4194304 := by have h3 := H3.out; have := hF.lx; have := hF.ly; rw [List.length_cons] at h3; omega
              obtain ⟨sk, sn, st⟩ := s2
              simp only at hk d0 d1 d2
              subst hk
              have hTD := hT.drew
              have hBD : Below w.heap.size w wr.drew := below_drew hB
              have m6 := hT.later
              have HRA := Lib.hid hRa
              have HRS := Lib.hid hRs
              have HT := Lib.hid hT
              clear hRa hRs hT
              go_wp2_with fail
              refine wp_region_noPanic ?_
              go_region_law (first
                | (refine step_appD (base := w.heap.size) (w0 := w) (b := w.heap.size) rfl (.tmp 103) (.tmp 107) rfl ⟨_, _, _⟩ (by assumption) (by assumption) rfl rfl hol (Nat.le_refl _) ?_
                   intro A1 c1 w1 m1 m2 m3 m4))
              all_goals (
                refine NoPanic.normal ?_
                have M4 := m4.setCell (Nat.le_refl _) (p := ⟨w.heap.size, 0, none⟩) (.slice A1 (out.length + 1) c1)
                clear m1 m2 m4 m6 hTD d0 d1 d2 f1 dY0 dY1 dY2 fY1 k0 k3
                generalize w1.setCell _ _ = W at m3 M4 ⊢
                have Hrd : ∀ A : Option Addr, (0 < X.length → A = some ⟨ga, (p + 1) * 3, none⟩) → Rd W (.slice A X.length (c - 1)) ga X := fun A hA => m3.ra.tailAt hA
                have HRD := Lib.hid Hrd
                clear Hrd
                by_cases hc : c = 1
                · subst hc
                  obtain rfl : X = [] := List.eq_nil_of_length_eq_zero (by omega)
                  go_wp2_with fail
                  go_roundg gk
                  case measure => omega
                  refine ⟨_, _, out ++ [⟨2, sn, st⟩], A1, _, c1, ga, gs, m3.left (HRD.out _ (fun h => by simp at h)), by simp, hga, hgs, eX.tail, eY, (by first | exact Hr2.out.2.1 | rfl), Hr2.out.1, Hr2.out.2.2, ?_, ?_, hbyY, M4, ?_⟩
                  · have := H3.out; simp at this ⊢ <;> omega
                  · have := H4.out; rw [bytesL_snoc]; rw [bytesL_cons] at this; simp only at this ⊢; omega
                  · simp at hgk ⊢ <;> omega
                · go_wp2_with fail
                  go_roundg gk
                  case measure => omega
                  refine ⟨_, _, out ++ [⟨2, sn, st⟩], A1, _, c1, ga, gs, m3.left (HRD.out _ (fun _ => by rw [Nat.add_mul])), by simp, hga, hgs, eX.tail, eY, (by first | exact Hr2.out.2.1 | rfl), Hr2.out.1, Hr2.out.2.2, ?_, ?_, hbyY, M4, ?_⟩
                  · have := H3.out; simp at this ⊢ <;> omega
                  · have := H4.out; rw [bytesL_snoc]; rw [bytesL_cons] at this; simp only at this ⊢; omega
                  · simp at hgk ⊢ <;> omega)
            · obtain ⟨o, c, rfl, hc1, hc2, d0, d1, d2, f1, htail, hset, hst⟩ := hRa.head
              clear htail hset hst
              have hk2 : (s2.k == 2) = false := by simpa using hk
              obtain ⟨hsk, m, hm0, hsm⟩ := both_kinds (eX.el s2 (by simp)) hk
              obtain ⟨htk, q, hq0, htq⟩ := both_kinds (eY.el s (by simp)) HkY.out
              obtain ⟨n, hn⟩ : ∃ n : Nat, (n : Int) = min s2.n s.n := ⟨min m q, by omega⟩
              have hr3 := over_r3 eX eY hk HkY.out hvo H1.out H2.out n hn
              have Hr3 := Lib.hid hr3
              have h2 := rest_two s2 s X Y n hn
              have H5 := Lib.hid h2
              have hmn : min (m : Int) (q : Int) = n := by rw [hn, hsm, htq]
              have hnm : n ≤ m := by omega
              have hnq : n ≤ q := by omega
              have hm20 := both_small eX hk
              have hq20 := both_small eY HkY.out
              have hbX := rest_bytes (X := X) (eX.el s2 (by simp)) hk n
              have hbY := rest_bytes (X := Y) (eY.el s (by simp)) HkY.out n
              have HbX := Lib.hid hbX
              have HbY := Lib.hid hbY
              rw [hsm] at hm20
              rw [htq] at hq20
              clear hr3 hn hk h2 hbX hbY
              have HT := Lib.hid hT
              clear hRa hRs hT
              rcases htk with htk | htk
              · go_wp2_with fail
                go_quiet (fail)
                go_wp2_with fail
                have hol : out.length + 1 ≤ 4194304 := by have h3 := H3.out; have := hF.lx; have := hF.ly; rw [List.length_cons] at h3; omega
                have hTD := HT.out.drewN (nq + 1)
                have hBD := pw_below_drewN hB (nq + 1)
                have m6 := hTD.later
                refine wp_region_noPanic ?_
                go_region_law (first
                  | (refine step_app (base := w.heap.size) (w0 := w) (b := w.heap.size) rfl (.tmp 56) (.tmp 63) rfl ⟨s2.k, (n : Int), ⟨#[]⟩⟩ (by assumption) (by assumption) rfl rfl hol (Nat.le_refl _) ?_
                     intro A1 c1 w1 m1 m2 m3 m4))
                all_goals (
                  refine NoPanic.normal ?_
                  have M4 := m4.setCell (Nat.le_refl _) (p := ⟨w.heap.size, 0, none⟩) (.slice A1 (out.length + 1) c1)
                  clear m1 m2 m4 m6 hTD d0 d1 d2 f1 dY0 dY1 dY2 fY1 k0 k3
                  generalize w1.setCell _ _ = W at m3 M4 ⊢
                  have hzW := M4.size
                  go_wp2_with fail
                  refine (less_calls _ ga s2 X n _ m3.ra (by omega) (by omega) (by omega)).mono ?_
                  rintro e w1 ⟨va1, rfl, hr1, hg1⟩
                  have T1 := m3.grownL hg1 hr1
                  have B1 := M4.grown hg1 hzW (by simp; omega)
                  go_wp2_with fail
                  refine (less_calls _ gs s Y n _ T1.rs (by omega) (by omega) (by omega)).mono ?_
                  rintro e w2 ⟨vs1, rfl, hr2, hg2⟩
                  have T2 := T1.grownR hg2 hr2
                  have B2 := B1.grown hg2 (by have := B1.size; omega) (by simp; omega)
                  go_wp2_with fail
                  go_roundg gk
                  case measure => omega
                  rw [both_keep _ _ _ htk] at Hr3
                  refine ⟨rest s2 n X, rest s n Y, _, A1, _, c1, ga, gs, T2, by simp, hga, hgs, Hr3.out.1, Hr3.out.2.1, Hr3.out.2.2.2.1, Hr3.out.2.2.1, Hr3.out.2.2.2.2, ?_, ?_, ?_, B2, ?_⟩
                  · have h3 := H3.out; have h5 := H5.out; simp only [List.length_cons, List.length_append, List.length_nil] at h3 ⊢; omega
                  · have h4 := H4.out; rw [HbX.out, bytesL_snoc]; rw [bytesL_cons] at h4; show _ + 0 + _ ≤ _; omega
                  · rw [HbY.out]; rw [bytesL_cons] at hbyY; omega
                  · have h5 := H5.out; simp only [List.length_cons] at hgk; omega)
              · go_wp2_with fail
                go_quiet (fail)
                go_wp2_with fail
                have hT := HT.out.drewN nq
                refine (less_calls _ ga s2 X n _ hT.ra (by omega) (by omega) (by omega)).mono ?_
                rintro e w1 ⟨va1, rfl, hr1, hg1⟩
                have T1 := hT.grownL hg1 hr1
                have B1 := (pw_below_drewN hB nq).grown hg1 (by simpa using hzw) (by simp; omega)
                clear hT d0 d1 d2 f1 dY0 dY1 dY2 fY1 k0 k3
                go_wp2_with fail
                refine (less_calls _ gs s Y n _ T1.rs (by omega) (by omega) (by omega)).mono ?_
                rintro e w2 ⟨vs1, rfl, hr2, hg2⟩
                have T2 := T1.grownR hg2 hr2
                have B2 := B1.grown hg2 (by have := B1.size; omega) (by simp; omega)
                go_wp2_with fail
                go_roundg gk
                case measure => omega
                rw [both_drop _ _ _ _ htk] at Hr3
                refine ⟨rest s2 n X, rest s n Y, out, Av, _, cv, ga, gs, T2, rfl, hga, hgs, Hr3.out.1, Hr3.out.2.1, Hr3.out.2.2.2.1, Hr3.out.2.2.1, Hr3.out.2.2.2.2, ?_, ?_, ?_, B2, ?_⟩
                · have h3 := H3.out; have h5 := H5.out; simp only [List.length_cons] at h3; omega
                · have h4 := H4.out; rw [HbX.out]; rw [bytesL_cons] at h4; omega
                · rw [HbY.out]; rw [bytesL_cons] at hbyY; omega
                · have h5 := H5.out; simp only [List.length_cons] at hgk; omega

end Go.Proofs.YtmfpfipjhhfbhaaDoor
