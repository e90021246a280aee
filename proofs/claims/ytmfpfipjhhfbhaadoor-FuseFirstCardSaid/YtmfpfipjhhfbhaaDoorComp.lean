/- compose.Of: the errors; of two that fit. -/
import Derived.Test.YtmfpfipjhhfbhaaDoorCompA
import Derived.Test.YtmfpfipjhhfbhaaDoorMeet
import Derived.WalkMore
namespace Go.Proofs.YtmfpfipjhhfbhaaDoor
open Go.RowKit Go.Proofs.YtmfpfipjhhfbhaaDoorW.PrintWords

def Off4 (px gx py gy k : Nat) : Prop := k ≠ px ∧ k ≠ gx ∧ k ≠ py ∧ k ≠ gy
structure Duo (base px gx py gy : Nat) (v : Value) (out X Y : List Sp) (tx ty : List Nat) (w : World) : Prop where
  row : Kd.R kSp 26 w base (Off4 px gx py gy) v out
  rx : Rdr w px gx X tx
  ry : Rdr w py gy Y ty
  ne : px ≠ py ∧ px ≠ gy ∧ gx ≠ py ∧ gx ≠ gy
theorem Rdr.lt {w : World} {p g : Nat} {X : List Sp} {t : List Nat} (h : Rdr w p g X t) : p < w.heap.size ∧ g < w.heap.size := by
  obtain ⟨v, tv, h1, h2, _⟩ := h.out
  exact ⟨blk_lt h1, h2.lt⟩
/-- What one reader does leaves the other one. -/
theorem Rdr.apart {w w1 w2 : World} {p g p' g' : Nat} {X X' : List Sp} {t t' : List Nat} (h : Rdr w p g X t) (h' : Rdr w p' g' X' t') (hg1 : w.grownBy w1 (some g')) (hg2 : w1.grownBy w2 (some p')) (hne : p ≠ p' ∧ p ≠ g' ∧ g ≠ p' ∧ g ≠ g') : Rdr w2 p g X t := by
  obtain ⟨v', tv', a1, a2, _⟩ := h'.out
  obtain ⟨cells, hc⟩ := a2.block
  have hpp : p' ≠ g' := h'.ne
  have h1 : Rdr w1 p g X t := h.grown hg1 (fun k e => by injection e with e; subst e; exact ⟨_, _, hc, by decide⟩) (by intro e; injection e with e; exact hne.2.1 e) (by intro e; injection e with e; exact hne.2.2.2 e)
  have a3 := blk_grown a1 hg1 (by intro e; injection e with e; exact hpp e)
  exact h1.grown hg2 (fun k e => by injection e with e; subst e; exact ⟨_, _, a3, by decide⟩) (by intro e; injection e with e; exact hne.1 e) (by intro e; injection e with e; exact hne.2.2.1 e)
section
variable {base px gx py gy : Nat} {v : Value} {out X Y : List Sp} {tx ty : List Nat} {w : World}
theorem Duo.below {w1 : World} (h : Duo base px gx py gy v out X Y tx ty w) (hb : Below w.heap.size w w1) : Duo base px gx py gy v out X Y tx ty w1 := ⟨Kd.R_below h.row hb, h.rx.below hb, h.ry.below hb, h.ne⟩
theorem Duo.takeX {w1 w2 : World} {X' : List Sp} {tx' : List Nat} (h : Duo base px gx py gy v out X Y tx ty w) (hg1 : w.grownBy w1 (some gx)) (hg2 : w1.grownBy w2 (some px)) (hr : Rdr w2 px gx X' tx') : Duo base px gx py gy v out X' Y tx' ty w2 :=
  ⟨Kd.R_grown (Kd.R_grown h.row hg1 (fun k hk e => by injection e with e; exact hk.2.1 e)) hg2 (fun k hk e => by injection e with e; exact hk.1 e), hr, h.ry.apart h.rx hg1 hg2 ⟨fun e => h.ne.1 e.symm, fun e => h.ne.2.2.1 e.symm, fun e => h.ne.2.1 e.symm, fun e => h.ne.2.2.2 e.symm⟩, h.ne⟩
theorem Duo.takeY {w1 w2 : World} {Y' : List Sp} {ty' : List Nat} (h : Duo base px gx py gy v out X Y tx ty w) (hg1 : w.grownBy w1 (some gy)) (hg2 : w1.grownBy w2 (some py)) (hr : Rdr w2 py gy Y' ty') : Duo base px gx py gy v out X Y' tx ty' w2 :=
  ⟨Kd.R_grown (Kd.R_grown h.row hg1 (fun k hk e => by injection e with e; exact hk.2.2.2 e)) hg2 (fun k hk e => by injection e with e; exact hk.2.2.1 e), h.rx.apart h.ry hg1 hg2 h.ne, hr, h.ne⟩
theorem Duo.app {w1 : World} {v1 : Value} {s : Sp} (h : Duo base px gx py gy v out X Y tx ty w) (hg : w.grownBy w1 v.ownBlock) (hr : Kd.R kSp 26 w1 base (Off4 px gx py gy) v1 (out ++ [s])) : Duo base px gx py gy v1 (out ++ [s]) X Y tx ty w1 := by
  have hty : ∀ k, v.ownBlock = some k → ∃ (cells : Array Value) (ty : Nat), w.heap[k]? = some (Obj.cells cells ty (0, 0)) ∧ ty ≠ 21 := fun k hk => by
    obtain ⟨cells, hc⟩ := Kd.R_typed h.row k hk
    exact ⟨cells, _, hc, by decide⟩
  refine ⟨hr, h.rx.grown hg hty ?_ ?_, h.ry.grown hg hty ?_ ?_, h.ne⟩
  · exact fun e => (h.row.1 px e.symm).1 rfl
  · exact fun e => (h.row.1 gx e.symm).2.1 rfl
  · exact fun e => (h.row.1 py e.symm).2.2.1 rfl
  · exact fun e => (h.row.1 gy e.symm).2.2.2 rfl
end
section
variable {ops : Array Oper} {rest : List Oper} {o : Oper} {a : Act} {Q : Exit → Act → World → Prop}
theorem wp_pushD {base px gx py gy : Nat} {A : Option Addr} {cv : Nat} {out X Y : List Sp} {tx ty : List Nat} {w0 W : World} (hgd : o.guard = none) (s x : Operand) (ho : o.op = .call { callee := .builtin .append, args := #[s, x], argTypes := #[27, 27] })
    (p : Sp) (H : Duo base px gx py gy (.slice A out.length cv) out X Y tx ty W) (HB : Below base w0 W)
    (hs : a.eval s = .slice A out.length cv) (hx : a.eval x = .slice (some ⟨W.heap.size, 0, none⟩) 1 1) (hl : out.length + 1 ≤ 4194304) (hbase : base ≤ w0.heap.size)
    (h : ∀ A1 c1 w1, Duo base px gx py gy (.slice A1 (out.length + 1) c1) (out ++ [p]) X Y tx ty w1 → Below base w0 w1 → wpList Tryd.prog ops Q rest (a.put o.dst (.slice A1 (out.length + 1) c1)) w1) :
    wpList Tryd.prog ops Q (o :: rest) a (W.alloc (.cells #[.int .i64 p.k, .int .i64 p.n, .string p.t] 26)) := by
  have hz := HB.size
  have h1 := H.rx.lt
  have h2 := H.ry.lt
  refine Kd.R_append kSp (w0 := w0) (W := W) base hgd s x 27 26 _ 32 ho Tryd.underlying27 infoSp' rfl (by show 0 < 3; omega) (by omega) (.slice A out.length cv) out p [.int .i64 p.k, .int .i64 p.n, .string p.t] (Off4 px gx py gy) (fun _ => False) hs hx (kSp_mkM _ _ _ _) (fun k hk => hk.elim) (fun k hk => ?_) H.row HB (by omega) (by omega) ?_
  · exact ⟨by omega, by omega, by omega, by omega⟩
  intro v1 w1 hr hb hg _
  have hD := H.app hg hr
  obtain ⟨A1, d1, rfl⟩ := Kd.R_slice hr
  simp only [List.length_append, List.length_singleton] at hD ⊢
  exact h A1 d1 w1 hD hb
end

structure CompInv (w wr : World) (px gx py gy : Nat) (v11 : Value) (R : List At) (K gk : Nat) : Prop where
  out : ∃ X Y tx ty out A nn c, v11 = .slice A nn c ∧ nn = out.length ∧ Duo w.heap.size px gx py gy (.slice A nn c) out X Y tx ty wr ∧ CompSt X Y tx ty out R ∧ out.length + X.length + Y.length ≤ K ∧ Below w.heap.size w wr ∧ X.length + Y.length < gk
/-- Two that fit. -/
structure FitC (xs ys : List Sp) : Prop where
  vx : Valid xs
  vy : Valid ys
  io : outA (atoms xs) = inA (atoms ys)
  fx : inA (atoms xs) ≤ 1048576
  fy : inA (atoms ys) ≤ 1048576
  lx : xs.length ≤ 1048576
  ly : ys.length ≤ 1048576
  bx : bytesL xs ≤ 1048576
  bound_y : bytesL ys ≤ 1048576

set_option maxRecDepth 100000 in
set_option maxHeartbeats 4000000 in
theorem comp_ok (A B : Option Addr) (ca cb : Nat) (xs ys : List Sp) (w : World) (hL : Laid w) (hx : Kd.C kSp w A xs.length xs) (hy : Kd.C kSp w B ys.length ys) (hF : FitC xs ys) :
    Calls Tryd.prog 35 #[.slice A xs.length ca, .slice B ys.length cb] w fun e w' => ∃ v, e = .returned (.tuple #[v, .int .i64 0]) ∧ Gives w w' v (ofA (compA (atoms xs) (atoms ys))) ∧ Below w.heap.size w w' := by
  have hTx : TextsOk xs := texts_ok (by have := hF.bx; omega)
  have hTy : TextsOk ys := texts_ok (by have := hF.bound_y; omega)
  have h1 : opMay xs = 0 := (opMay_zero (by have := hF.lx; omega)).2 ⟨hF.vx, hF.fx⟩
  have h2 : opMay ys = 0 := (opMay_zero (by have := hF.ly; omega)).2 ⟨hF.vy, hF.fy⟩
  have h3 : sumW spOut xs = inA (atoms ys) := by rw [opOut_atoms hF.vx (by rw [hF.io]; have := hF.fy; omega), hF.io]
  have h4 : sumW spIn ys = inA (atoms ys) := opIn_atoms hF.vy (by have := hF.fy; omega)
  have HX := Aside0.mk hx
  have HY := Aside0.mk hy
  have hm := hx.2.1
  clear hx hy
  have hmf : ∀ (fn : Fn) (first cap : Array Value) (w : World), (Instr.makeFunc fn first cap).run Tryd.prog w = .ok (.func fn first cap) w := fun _ _ _ _ => rfl
  obtain ⟨W0, hW0⟩ : ∃ W0, W0 = w.alloc (.cells #[.slice A xs.length ca, .slice B ys.length cb] 27) := ⟨_, rfl⟩
  have T0 : Below (w.heap.size + 1) (w.alloc (.cells #[.slice A xs.length ca, .slice B ys.length cb] 27)) W0 := by rw [hW0]; exact Below.refl _ _
  have HW0 := Lib.hid hW0
  clear hW0
  obtain ⟨k1, k2, B0, hz⟩ := one_box T0
  have c1 := opMay_calls A ca xs W0 (hL.below B0) hTx (Kd.C_below HX.out B0)
  rw [h1] at c1
  clear h1
  obtain ⟨nx1, nx2⟩ := norm_els hF.vx hF.fx hF.bx
  obtain ⟨ny1, ny2⟩ := norm_els hF.vy hF.fy hF.bound_y
  have lx := normS_length_le xs
  have ly := normS_length_le ys
  have bx := bytesL_normS xs
  have by_ := bytesL_normS ys
  have bX : bytesL (normS xs) ≤ 1048576 := by have := hF.bx; omega
  have bY : bytesL (normS ys) ≤ 1048576 := by have := hF.bound_y; omega
  have tX := nx1.texts bX
  have tY := ny1.texts bY
  have iX := first_ok nx1 bX
  have iY := first_ok ny1 bY
  rw [nx2] at iX
  rw [ny2] at iY
  obtain ⟨R, hR⟩ : ∃ R, R = compA (atoms xs) (atoms ys) := ⟨_, rfl⟩
  have S0 : CompSt (normS xs) (normS ys) (firstT (normS xs)) (firstT (normS ys)) [] R := ⟨iX.1, iY.1, by rw [iX.2, iY.2]; exact hF.io, (fun _ h => (by cases h)), by rw [iX.2, iY.2, hR]; rfl⟩
  obtain ⟨K, hK⟩ : ∃ K, K = xs.length + ys.length := ⟨_, rfl⟩
  have hKl : K ≤ 4194303 := by have := hF.lx; have := hF.ly; omega
  have hKn : (normS xs).length + (normS ys).length ≤ K := by omega
  have hRl : 4 * R.length ≤ 4611686018427387904 := by
    have h1 := comp_len _ (atoms xs) (atoms ys) (Nat.le_refl _)
    have h2 := atoms_length_le hF.vx
    have h3 := atoms_length_le hF.vy
    have := hF.fx; have := hF.fy; have := hF.bx; have := hF.bound_y
    rw [hR]; omega
  rw [← hR]
  clear hR nx1 nx2 ny1 ny2 iX iY bx by_ hK
  go_enter Tryd.func35, Tryd.ntmps35
  have HtX := Lib.hid tX
  have HtY := Lib.hid tY
  clear tX tY
  go_wp2_with fail
  refine wp_scope_straight ?_
  go_wp2_with fail
  refine wp_loop_rounds 3 ?_
  rw [rounds_succ]
  go_wp2_with fail
  rw [← HW0.out]
  refine c1.mono ?_
  rintro e w1 ⟨rfl, hb⟩
  have T1 := T0.trans (hb.mono (by omega))
  clear hb hz k1 k2
  obtain ⟨k1, k2, B1, hz⟩ := one_box T1
  have c2 := opMay_calls B cb ys w1 (hL.below B1) hTy (Kd.C_below HY.out B1)
  rw [h2] at c2
  clear h2
  go_wp2_with fail
  rw [rounds_succ]
  go_wp2_with fail
  refine c2.mono ?_
  rintro e w2 ⟨rfl, hb⟩
  have T2 := T1.trans (hb.mono (by omega))
  clear hb hz k1 k2
  obtain ⟨k1, k2, B2, hz⟩ := one_box T2
  have c3 := opOut_calls A ca xs w2 (hL.below B2) hTx (Kd.C_below HX.out B2)
  rw [h3] at c3
  clear h3
  go_wp2_with fail
  rw [rounds_succ]
  go_wp2_with fail
  refine c3.mono ?_
  rintro e w3 ⟨rfl, hb⟩
  have T3 := T2.trans (hb.mono (by omega))
  clear hb hz k1 k2
  obtain ⟨k1, k2, B3, hz⟩ := one_box T3
  have c4 := opIn_calls B cb ys w3 (hL.below B3) hTy (Kd.C_below HY.out B3)
  rw [h4] at c4
  clear h4
  go_wp2_with fail
  refine c4.mono ?_
  rintro e w4 ⟨rfl, hb⟩
  have T4 := T3.trans (hb.mono (by omega))
  clear hb hz k1 k2
  obtain ⟨k1, k2, B4, hz⟩ := one_box T4
  have n1 := newReader_calls A ca xs w4 (Kd.C_below HX.out B4) (by have := hF.lx; omega) (by have := hF.bx; omega) HtX.out
  go_wp2_with fail
  refine n1.mono ?_
  rintro e w5 ⟨px, rfl, rX, pX1, pX2, b5⟩
  have B5 := B4.trans (b5.mono B4.size)
  have z5 := b5.size
  clear n1 c1 c2 c3 c4 T0 T1 T2 T3 T4 B0 B1 B2 B3 k1 k2 hmf HW0 b5
  have n2 := newReader_calls B cb ys w5 (Kd.C_below HY.out B5) (by have := hF.ly; omega) (by have := hF.bound_y; omega) HtY.out
  have rXl := rX.lt
  go_wp2_with fail
  refine n2.mono ?_
  rintro e w6 ⟨py, rfl, rY, pY1, pY2, b6⟩
  have B6 := B5.trans (b6.mono B5.size)
  have z6 := b6.size
  have hbase := B4.size
  have D0 : Duo w.heap.size px w4.heap.size py w5.heap.size (.slice none 0 0) [] (normS xs) (normS ys) (firstT (normS xs)) (firstT (normS ys)) w6 := ⟨Kd.R_nil _ _ _ _ _, rX.below b6, rY, by omega, by omega, by omega, by omega⟩
  have I0 : CompInv w w6 px w4.heap.size py w5.heap.size (.slice none 0 0) R K (K + 1) := ⟨_, _, _, _, [], none, 0, 0, rfl, rfl, D0, S0, by simp; omega, B6, by omega⟩
  have hgx : w.heap.size ≤ w4.heap.size := hbase
  have hpx : w.heap.size ≤ px := by omega
  have hgy : w.heap.size ≤ w5.heap.size := by omega
  have hpy : w.heap.size ≤ py := by omega
  clear n2 rX rY b6 B6 B5 B4 D0 S0 HX HY hTx hTy hm HtX HtY bX bY lx ly hKn rXl z5 z6 pX1 pX2 pY1 pY2 hbase
  generalize w4.heap.size = gx at *
  generalize w5.heap.size = gy at *
  go_wp2_with fail
  go_step3
  go_wp2_with fail
  go_loopg [11] (K + 1) (fun gk v11 wr => CompInv w wr px gx py gy v11 R K gk)
  case atStart => exact I0
  case round =>
    clear I0
    rename_i wr J hJ KK hK
    obtain ⟨X, Y, tx, ty, out, Av, nn, cv, rfl, rfl, hD, hS, hlen, hB, hgk⟩ := hrel.out
    cases gk with
    | zero => omega
    | succ gk =>
      clear hrel
      have H3 := Lib.hid hlen
      have hol0 : out.length + 1 ≤ 4194304 ∨ (X = [] ∧ Y = []) := by
        cases X with
        | cons _ _ => left; rw [List.length_cons] at hlen; omega
        | nil => cases Y with
          | cons _ _ => left; rw [List.length_cons] at hlen; omega
          | nil => right; exact ⟨rfl, rfl⟩
      cases Y with
      | nil =>
        have kY : Calls Tryd.prog 69 #[.pointer (some ⟨py, 0, none⟩)] wr fun e w' => e = .returned (.int .i64 0) ∧ wr = w' := kind_calls py gy [] ty wr hD.ry
        cases X with
        | nil =>
          have kX : Calls Tryd.prog 69 #[.pointer (some ⟨px, 0, none⟩)] wr fun e w' => e = .returned (.int .i64 0) ∧ wr = w' := kind_calls px gx [] tx wr hD.rx
          have htx : tx = [] := hS.ox.tx
          subst htx
          have hat := (comp_end1 hS (fun s Z h => by cases h)).2
          have hvo := hS.vo
          have hC := (Kd.R_reads' hD.row).2.2
          have n3 := normOf_calls Av cv out wr hC (by omega) (by have h5 := valid_bytes hvo; rw [hat] at h5; omega)
          have hne := normS_atoms hvo
          rw [hat] at hne
          have HN := Lib.hid hne
          clear hat hne hC hS hD H3 hol0
          go_wp2_with fail
          refine kY.mono ?_
          rintro e w' ⟨rfl, rfl⟩
          go_wp2_with fail
          refine kX.mono ?_
          rintro e w' ⟨rfl, rfl⟩
          go_wp2_with fail
          refine kX.mono ?_
          rintro e w' ⟨rfl, rfl⟩
          go_wp2_with fail
          refine n3.mono ?_
          intro e w9 hN
          obtain ⟨v9, rfl, hR9, hB9⟩ := norm_owned hN (by omega)
          go_wp2_with fail
          try rw [Exit.noGoto_ret]
          refine bodyPost_ret (v := .tuple #[v9, .int .i64 0]) (by simp [results, Tryd.results35, go_sem]) rfl ⟨v9, rfl, ?_, hB.trans (hB9.mono hB.size)⟩
          rw [HN.out] at hR9
          exact Kd.R_lower hR9 hB.size
        | cons s X =>
          have hk : s.k = 3 := Classical.byContradiction fun h => comp_end2 hS h
          have hol : out.length + 1 ≤ 4194304 := hol0.resolve_right (by simp)
          have kX : Calls Tryd.prog 69 #[.pointer (some ⟨px, 0, none⟩)] wr fun e w' => e = .returned (.int .i64 3) ∧ wr = w' := by have h := kind_calls px gx (s :: X) tx wr hD.rx; rw [show kindOf (s :: X) = s.k from rfl, hk] at h; exact h
          have hS2 := comp_s2 hS (show NP (remA [] ty) from trivial) hk
          go_wp2_with fail
          refine kY.mono ?_
          rintro e w' ⟨rfl, rfl⟩
          obtain ⟨m, hm0, hm1, hz⟩ := hS.ox.pos
          have sX := sizeR_calls px gx s X tx wr hD.rx hS.ox
          rw [hz] at sX
          have hS3 := hS2 m hm0 hz.symm
          have hX : takeX s X tx m = X := if_pos hz.symm
          clear hol0
          have hO := hS.ox
          have HZ := Lib.hid hz
          have HS2 := Lib.hid hS3
          have HX := Lib.hid hX
          clear hz hS2 hS3 hX hS
          go_wp2_with fail
          refine kX.mono ?_
          rintro e w' ⟨rfl, rfl⟩
          go_wp2_with fail
          refine sX.mono ?_
          rintro e w2 ⟨rfl, hb2⟩
          have hD2 := hD.below hb2
          have B2 := hB.trans (hb2.mono hB.size)
          have tk := takeR_calls px gx s X tx m w2 hD2.rx hO hm0 (by have := HZ.out; omega)
          clear hD hB kX kY sX hb2
          go_wp2_with fail
          refine tk.mono ?_
          rintro e w3 ⟨rfl, hr3, w3', hg1, hg2⟩
          have hD3 := hD2.takeX hg1 hg2 hr3
          have B3 := (B2.grown hg1 B2.size (by simp; omega)).grown hg2 (by have := B2.size; have := hg1.size; omega) (by simp; omega)
          clear hD2 B2 tk hr3 hg1 hg2
          go_wp2_with (at_builtin; go_loud (refine wp_pushD (base := w.heap.size) (w0 := w) rfl (.tmp 53) (.tmp 58) rfl (takeS s tx m) hD3 B3 rfl (by simp [Act.eval]) hol (Nat.le_refl _) ?_); intro A1 c1 w4 hD4 B4)
          go_roundg gk
          case measure => omega
          refine ⟨_, [], _, _, _, A1, _, c1, rfl, by simp, hD4, HS2.out, ?_, B4, ?_⟩
          · have h3 := H3.out; rw [HX.out]; simp only [List.length_cons, List.length_append, List.length_nil] at h3 ⊢; omega
          · rw [HX.out]; simp only [List.length_cons] at hgk ⊢; omega
      | cons t Y =>
        by_cases ht : t.k = 2
        · have hol : out.length + 1 ≤ 4194304 := hol0.resolve_right (by simp)
          have kY : Calls Tryd.prog 69 #[.pointer (some ⟨py, 0, none⟩)] wr fun e w' => e = .returned (.int .i64 2) ∧ wr = w' := by have h := kind_calls py gy (t :: Y) ty wr hD.ry; rw [show kindOf (t :: Y) = t.k from rfl, ht] at h; exact h
          obtain ⟨m, hm0, hm1, hz⟩ := hS.oy.pos
          have sY := sizeR_calls py gy t Y ty wr hD.ry hS.oy
          rw [hz] at sY
          have hS2 := comp_s1 hS ht m hm0 hz.symm
          have hX : takeX t Y ty m = Y := if_pos hz.symm
          clear hol0
          have hO := hS.oy
          have HZ := Lib.hid hz
          have HS2 := Lib.hid hS2
          have HX := Lib.hid hX
          clear hz hS2 hX hS ht
          go_wp2_with fail
          refine kY.mono ?_
          rintro e w' ⟨rfl, rfl⟩
          go_wp2_with fail
          refine sY.mono ?_
          rintro e w2 ⟨rfl, hb2⟩
          have hD2 := hD.below hb2
          have B2 := hB.trans (hb2.mono hB.size)
          have tk := takeR_calls py gy t Y ty m w2 hD2.ry hO hm0 (by have := HZ.out; omega)
          clear hD hB kY sY hb2
          go_wp2_with fail
          refine tk.mono ?_
          rintro e w3 ⟨rfl, hr3, w3', hg1, hg2⟩
          have hD3 := hD2.takeY hg1 hg2 hr3
          have B3 := (B2.grown hg1 B2.size (by simp; omega)).grown hg2 (by have := B2.size; have := hg1.size; omega) (by simp; omega)
          clear hD2 B2 tk hr3 hg1 hg2
          go_wp2_with (at_builtin; go_loud (refine wp_pushD (base := w.heap.size) (w0 := w) rfl (.tmp 42) (.tmp 47) rfl (takeS t ty m) hD3 B3 rfl (by simp [Act.eval]) hol (Nat.le_refl _) ?_); intro A1 c1 w4 hD4 B4)
          go_roundg gk
          case measure => omega
          refine ⟨_, _, _, _, _, A1, _, c1, rfl, by simp, hD4, HS2.out, ?_, B4, ?_⟩
          · have h3 := H3.out; rw [HX.out]; rw [List.length_cons] at h3; rw [List.length_append, List.length_singleton]; omega
          · rw [HX.out]; rw [List.length_cons] at hgk; omega
        · cases X with
          | nil =>
            exfalso
            have htx : tx = [] := hS.ox.tx
            subst htx
            have := (comp_end1 hS (fun s Z h => by injection h with h1 _; subst h1; exact ht)).1
            cases this
          | cons s X =>
            have hol : out.length + 1 ≤ 4194304 := hol0.resolve_right (by simp)
            have hty2 : (t.k == 2) = false := by simpa using ht
            have kY : Calls Tryd.prog 69 #[.pointer (some ⟨py, 0, none⟩)] wr fun e w' => e = .returned (.int .i64 t.k) ∧ wr = w' := kind_calls py gy (t :: Y) ty wr hD.ry
            by_cases hk : s.k = 3
            · have kX : Calls Tryd.prog 69 #[.pointer (some ⟨px, 0, none⟩)] wr fun e w' => e = .returned (.int .i64 3) ∧ wr = w' := by have h := kind_calls px gx (s :: X) tx wr hD.rx; rw [show kindOf (s :: X) = s.k from rfl, hk] at h; exact h
              have hS2 := comp_s2 hS (rem_np hS.oy ht) hk
              go_wp2_with fail
              refine kY.mono ?_
              rintro e w' ⟨rfl, rfl⟩
              obtain ⟨m, hm0, hm1, hz⟩ := hS.ox.pos
              have sX := sizeR_calls px gx s X tx wr hD.rx hS.ox
              rw [hz] at sX
              have hS3 := hS2 m hm0 hz.symm
              have hX : takeX s X tx m = X := if_pos hz.symm
              clear hol0
              have hO := hS.ox
              have HZ := Lib.hid hz
              have HS2 := Lib.hid hS3
              have HX := Lib.hid hX
              clear hz hS2 hS3 hX hS
              go_wp2_with fail
              refine kX.mono ?_
              rintro e w' ⟨rfl, rfl⟩
              go_wp2_with fail
              refine sX.mono ?_
              rintro e w2 ⟨rfl, hb2⟩
              have hD2 := hD.below hb2
              have B2 := hB.trans (hb2.mono hB.size)
              have tk := takeR_calls px gx s X tx m w2 hD2.rx hO hm0 (by have := HZ.out; omega)
              clear hD hB kX kY sX hb2
              go_wp2_with fail
              refine tk.mono ?_
              rintro e w3 ⟨rfl, hr3, w3', hg1, hg2⟩
              have hD3 := hD2.takeX hg1 hg2 hr3
              have B3 := (B2.grown hg1 B2.size (by simp; omega)).grown hg2 (by have := B2.size; have := hg1.size; omega) (by simp; omega)
              clear hD2 B2 tk hr3 hg1 hg2
              go_wp2_with (at_builtin; go_loud (refine wp_pushD (base := w.heap.size) (w0 := w) rfl (.tmp 53) (.tmp 58) rfl (takeS s tx m) hD3 B3 rfl (by simp [Act.eval]) hol (Nat.le_refl _) ?_); intro A1 c1 w4 hD4 B4)
              go_roundg gk
              case measure => omega
              refine ⟨_, (t :: Y), _, _, _, A1, _, c1, rfl, by simp, hD4, HS2.out, ?_, B4, ?_⟩
              · have h3 := H3.out; rw [HX.out]; simp only [List.length_cons, List.length_append, List.length_nil] at h3 ⊢; omega
              · rw [HX.out]; simp only [List.length_cons] at hgk ⊢; omega
            · have hkx : (s.k == 3) = false := by simpa using hk
              have hk0 : (s.k == 0) = false := by
                by_cases h2 : s.k = 2
                · rw [h2]; rfl
                · rcases (hS.ox.num h2).2.1 with e | e
                  · rw [e]; rfl
                  · exact absurd e hk
              have ht0 : (t.k == 0) = false := by
                rcases (hS.oy.num ht).2.1 with e | e <;> (rw [e]; rfl)
              have kX : Calls Tryd.prog 69 #[.pointer (some ⟨px, 0, none⟩)] wr fun e w' => e = .returned (.int .i64 s.k) ∧ wr = w' := kind_calls px gx (s :: X) tx wr hD.rx
              obtain ⟨mx, hx0, hx1, hzx⟩ := hS.ox.pos
              obtain ⟨my, hy0, hy1, hzy⟩ := hS.oy.pos
              obtain ⟨n, hn⟩ : ∃ n : Nat, n = min mx my := ⟨_, rfl⟩
              have hmn : min (mx : Int) (my : Int) = n := by omega
              have hS3 := comp_s3 hS hk ht n (by omega) (by omega) (by omega)
              have sX := sizeR_calls px gx s X tx wr hD.rx hS.ox
              rw [hzx] at sX
              have hlx : (takeX s X tx n).length + (takeX t Y ty n).length ≤ X.length + Y.length + 1 := by
                have e1 := (take_rem hS.ox n (by omega) (by omega)).2.2.2.1
                have e2 := (take_rem hS.oy n (by omega) (by omega)).2.2.2.1
                by_cases he : n = mx
                · have : takeX s X tx n = X := if_pos (by omega)
                  rw [this]; omega
                · have : takeX t Y ty n = Y := if_pos (by omega)
                  rw [this]; omega
              have hn0 : 0 < n := by omega
              have hnx : (n : Int) ≤ szR s tx := by omega
              have hny : (n : Int) ≤ szR t ty := by omega
              have hox := hS.ox
              have hoy := hS.oy
              have HNX := Lib.hid (And.intro hnx hny)
              have HZY := Lib.hid hzy
              have HS3 := Lib.hid hS3
              have HLX := Lib.hid hlx
              clear hzx hzy hn hS3 hlx hnx hny hS hol0
              go_wp2_with fail
              refine kY.mono ?_
              rintro e w' ⟨rfl, rfl⟩
              go_wp2_with fail
              refine kX.mono ?_
              rintro e w' ⟨rfl, rfl⟩
              go_wp2_with fail
              refine kX.mono ?_
              rintro e w' ⟨rfl, rfl⟩
              go_wp2_with fail
              refine kY.mono ?_
              rintro e w' ⟨rfl, rfl⟩
              go_wp2_with fail
              refine sX.mono ?_
              rintro e w2 ⟨rfl, hb2⟩
              have hD2 := hD.below hb2
              have B2 := hB.trans (hb2.mono hB.size)
              have sY := sizeR_calls py gy t Y ty w2 hD2.ry hoy
              rw [HZY.out] at sY
              clear hD hB kX kY sX hb2
              go_wp2_with fail
              refine sY.mono ?_
              rintro e w3 ⟨rfl, hb3⟩
              have hD3 := hD2.below hb3
              have B3 := B2.trans (hb3.mono B2.size)
              have tX := takeR_calls px gx s X tx n w3 hD3.rx hox hn0 HNX.out.1
              clear hD2 B2 sY hb3
              go_wp2_with fail
              refine tX.mono ?_
              rintro e w4 ⟨rfl, hr4, w4', hg1, hg2⟩
              have hD4 := hD3.takeX hg1 hg2 hr4
              have B4 := (B3.grown hg1 B3.size (by simp; omega)).grown hg2 (by have := B3.size; have := hg1.size; omega) (by simp; omega)
              have tY := takeR_calls py gy t Y ty n w4 hD4.ry hoy hn0 HNX.out.2
              clear hD3 B3 tX hr4 hg1 hg2
              go_wp2_with fail
              refine tY.mono ?_
              rintro e w5 ⟨rfl, hr5, w5', hg3, hg4⟩
              have hD5 := hD4.takeY hg3 hg4 hr5
              have B5 := (B4.grown hg3 B4.size (by simp; omega)).grown hg4 (by have := B4.size; have := hg3.size; omega) (by simp; omega)
              clear hD4 B4 tY hr5 hg3 hg4
              have hPk : (takeS s tx n).k = s.k := by unfold takeS; split <;> simp_all
              have hQk : (takeS t ty n).k = t.k := by unfold takeS; split <;> simp_all
              have hsk : s.k = 1 ∨ s.k = 2 := by
                by_cases h2 : s.k = 2
                · exact .inr h2
                · rcases (hox.num h2).2.1 with e | e
                  · exact .inl e
                  · exact absurd e hk
              have htk := (hoy.num ht).2.1
              have hcP : compP s t tx ty n = if t.k = 1 then [takeS s tx n] else if s.k = 1 then [takeS t ty n] else [] := rfl
              have HCP := Lib.hid hcP
              clear hcP hox hoy ht hk hkx hk0 ht0 hty2
              generalize takeS s tx n = P at *
              generalize takeS t ty n = Q at *
              obtain ⟨pk, pn, pt⟩ := P
              obtain ⟨qk, qn, qt⟩ := Q
              simp only at hPk hQk
              have hW : Below w5.heap.size w5 ((w5.alloc (.cells #[.int .i64 pk, .int .i64 pn, .string pt] 26)).alloc (.cells #[.int .i64 qk, .int .i64 qn, .string qt] 26)) := ((Below.refl _ _).alloc (Nat.le_refl _) _).alloc (by simp) _
              have hD6 := hD5.below hW
              have B6 := B5.trans (hW.mono B5.size)
              clear hW hD5 B5
              rcases htk with e | e
              · rw [if_pos e] at HCP
                obtain rfl : qk = 1 := hQk.trans e
                clear e hQk hPk hsk
                go_wp2_with (at_builtin; go_loud (refine wp_pushD (base := w.heap.size) (w0 := w) rfl (.tmp 84) (.tmp 86) rfl ⟨pk, pn, pt⟩ hD6 B6 rfl (by simp [Act.eval]) hol (Nat.le_refl _) ?_); intro A1 c1 w7 hD7 B7)
                go_roundg gk
                case measure => omega
                refine ⟨_, _, _, _, _, A1, _, c1, rfl, by simp, hD7, by have h := HS3.out; rw [HCP.out] at h; exact h, ?_, B7, ?_⟩
                · have h3 := H3.out; have h4 := HLX.out; simp only [List.length_cons, List.length_append, List.length_nil] at h3 ⊢; omega
                · have h4 := HLX.out; simp only [List.length_cons] at hgk; omega
              · rw [if_neg (by omega)] at HCP
                obtain rfl : qk = 3 := hQk.trans e
                rcases hsk with f | f
                · rw [if_pos f] at HCP
                  obtain rfl : pk = 1 := hPk.trans f
                  clear e hQk hPk f
                  go_wp2_with (at_builtin; go_loud (refine wp_pushD (base := w.heap.size) (w0 := w) rfl (.tmp 92) (.tmp 94) rfl ⟨3, qn, qt⟩ hD6 B6 rfl (by simp [Act.eval]) hol (Nat.le_refl _) ?_); intro A1 c1 w7 hD7 B7)
                  go_roundg gk
                  case measure => omega
                  refine ⟨_, _, _, _, _, A1, _, c1, rfl, by simp, hD7, by have h := HS3.out; rw [HCP.out] at h; exact h, ?_, B7, ?_⟩
                  · have h3 := H3.out; have h4 := HLX.out; simp only [List.length_cons, List.length_append, List.length_nil] at h3 ⊢; omega
                  · have h4 := HLX.out; simp only [List.length_cons] at hgk; omega
                · rw [if_neg (by omega)] at HCP
                  obtain rfl : pk = 2 := hPk.trans f
                  clear e hQk hPk f
                  go_wp2_with fail
                  go_roundg gk
                  case measure => omega
                  refine ⟨_, _, _, _, _, Av, _, cv, rfl, rfl, hD6, by have h := HS3.out; rw [HCP.out, List.append_nil] at h; exact h, ?_, B6, ?_⟩
                  · have h3 := H3.out; have h4 := HLX.out; simp only [List.length_cons] at h3; omega
                  · have h4 := HLX.out; simp only [List.length_cons] at hgk; omega

end Go.Proofs.YtmfpfipjhhfbhaaDoor

/- compose.Of of two that do not fit. -/
namespace Go.Proofs.YtmfpfipjhhfbhaaDoor
open Go.RowKit Go.Proofs.YtmfpfipjhhfbhaaDoorW.PrintWords

set_option maxRecDepth 100000 in
set_option maxHeartbeats 1000000 in
theorem comp_err1 (A B : Option Addr) (ca cb : Nat) (xs ys : List Sp) (w : World) (hL : Laid w) (hTx : TextsOk xs) (hx : Kd.C kSp w A xs.length xs) (hy : Kd.C kSp w B ys.length ys) (he : opMay xs ≠ 0) :
    Calls Tryd.prog 35 #[.slice A xs.length ca, .slice B ys.length cb] w fun e w' => e = .returned (.tuple #[.slice none 0 0, .int .i64 (opMay xs)]) ∧ Below w.heap.size w w' := by
  have HX := Aside0.mk hx
  have HY := Aside0.mk hy
  have hm := hx.2.1
  clear hx hy
  have hmf : ∀ (fn : Fn) (first cap : Array Value) (w : World), (Instr.makeFunc fn first cap).run Tryd.prog w = .ok (.func fn first cap) w := fun _ _ _ _ => rfl
  obtain ⟨W0, hW0⟩ : ∃ W0, W0 = w.alloc (.cells #[.slice A xs.length ca, .slice B ys.length cb] 27) := ⟨_, rfl⟩
  have T0 : Below (w.heap.size + 1) (w.alloc (.cells #[.slice A xs.length ca, .slice B ys.length cb] 27)) W0 := by rw [hW0]; exact Below.refl _ _
  have HW0 := Lib.hid hW0
  clear hW0
  obtain ⟨k1, k2, B0, hz⟩ := one_box T0
  have c1 := opMay_calls A ca xs W0 (hL.below B0) hTx (Kd.C_below HX.out B0)
  generalize opMay xs = E at c1 he
  have he' : (E != 0) = true := by simpa using he
  have he2 := Lib.hid he
  clear he
  go_enter Tryd.func35, Tryd.ntmps35
  go_wp2_with fail
  refine wp_scope_straight ?_
  go_wp2_with fail
  refine wp_loop_rounds 2 ?_
  rw [rounds_succ]
  go_wp2_with fail
  rw [← HW0.out]
  refine c1.mono ?_
  rintro e w1 ⟨rfl, hb⟩
  have T1 := T0.trans (hb.mono (by omega))
  clear hb hz k1 k2
  obtain ⟨k1, k2, B1, hz⟩ := one_box T1
  go_wp2_with fail
  rw [Exit.noGoto_ret]
  exact bodyPost_ret (v := .tuple #[.slice none 0 0, .int .i64 E]) (by simp [results, Tryd.results35, go_sem]) rfl ⟨rfl, B1⟩

set_option maxRecDepth 100000 in
set_option maxHeartbeats 1000000 in
theorem comp_err2 (A B : Option Addr) (ca cb : Nat) (xs ys : List Sp) (w : World) (hL : Laid w) (hTx : TextsOk xs) (hTy : TextsOk ys) (hx : Kd.C kSp w A xs.length xs) (hy : Kd.C kSp w B ys.length ys) (h1 : opMay xs = 0) (he : opMay ys ≠ 0) :
    Calls Tryd.prog 35 #[.slice A xs.length ca, .slice B ys.length cb] w fun e w' => e = .returned (.tuple #[.slice none 0 0, .int .i64 (opMay ys)]) ∧ Below w.heap.size w w' := by
  have HX := Aside0.mk hx
  have HY := Aside0.mk hy
  have hm := hx.2.1
  clear hx hy
  have hmf : ∀ (fn : Fn) (first cap : Array Value) (w : World), (Instr.makeFunc fn first cap).run Tryd.prog w = .ok (.func fn first cap) w := fun _ _ _ _ => rfl
  obtain ⟨W0, hW0⟩ : ∃ W0, W0 = w.alloc (.cells #[.slice A xs.length ca, .slice B ys.length cb] 27) := ⟨_, rfl⟩
  have T0 : Below (w.heap.size + 1) (w.alloc (.cells #[.slice A xs.length ca, .slice B ys.length cb] 27)) W0 := by rw [hW0]; exact Below.refl _ _
  have HW0 := Lib.hid hW0
  clear hW0
  obtain ⟨k1, k2, B0, hz⟩ := one_box T0
  have c1 := opMay_calls A ca xs W0 (hL.below B0) hTx (Kd.C_below HX.out B0)
  rw [h1] at c1
  clear h1
  have c2' := fun W (hL' : Laid W) hC => opMay_calls B cb ys W hL' hTy hC
  generalize opMay ys = E at c2' he ⊢
  have C2 := Lib.hid c2'
  clear c2'
  have he' : (E != 0) = true := by simpa using he
  have he2 := Lib.hid he
  clear he
  go_enter Tryd.func35, Tryd.ntmps35
  go_wp2_with fail
  refine wp_scope_straight ?_
  go_wp2_with fail
  refine wp_loop_rounds 3 ?_
  rw [rounds_succ]
  go_wp2_with fail
  rw [← HW0.out]
  refine c1.mono ?_
  rintro e w1 ⟨rfl, hb⟩
  have T1 := T0.trans (hb.mono (by omega))
  clear hb hz k1 k2
  obtain ⟨k1, k2, B1, hz⟩ := one_box T1
  have c2 := C2.out w1 (hL.below B1) (Kd.C_below HY.out B1)
  go_wp2_with fail
  rw [rounds_succ]
  go_wp2_with fail
  refine c2.mono ?_
  rintro e w2 ⟨rfl, hb⟩
  have T2 := T1.trans (hb.mono (by omega))
  clear hb hz k1 k2
  obtain ⟨k1, k2, B2, hz⟩ := one_box T2
  go_wp2_with fail
  rw [Exit.noGoto_ret]
  exact bodyPost_ret (v := .tuple #[.slice none 0 0, .int .i64 E]) (by simp [results, Tryd.results35, go_sem]) rfl ⟨rfl, B2⟩

set_option maxRecDepth 100000 in
set_option maxHeartbeats 1000000 in
theorem comp_err3 (A B : Option Addr) (ca cb : Nat) (xs ys : List Sp) (w : World) (hL : Laid w) (hTx : TextsOk xs) (hTy : TextsOk ys) (hx : Kd.C kSp w A xs.length xs) (hy : Kd.C kSp w B ys.length ys) (h1 : opMay xs = 0) (h2 : opMay ys = 0) (he : sumW spOut xs ≠ sumW spIn ys) :
    Calls Tryd.prog 35 #[.slice A xs.length ca, .slice B ys.length cb] w fun e w' => e = .returned (.tuple #[.slice none 0 0, .int .i64 5]) ∧ Below w.heap.size w w' := by
  have HX := Aside0.mk hx
  have HY := Aside0.mk hy
  have hm := hx.2.1
  clear hx hy
  have hmf : ∀ (fn : Fn) (first cap : Array Value) (w : World), (Instr.makeFunc fn first cap).run Tryd.prog w = .ok (.func fn first cap) w := fun _ _ _ _ => rfl
  obtain ⟨W0, hW0⟩ : ∃ W0, W0 = w.alloc (.cells #[.slice A xs.length ca, .slice B ys.length cb] 27) := ⟨_, rfl⟩
  have T0 : Below (w.heap.size + 1) (w.alloc (.cells #[.slice A xs.length ca, .slice B ys.length cb] 27)) W0 := by rw [hW0]; exact Below.refl _ _
  have HW0 := Lib.hid hW0
  clear hW0
  obtain ⟨k1, k2, B0, hz⟩ := one_box T0
  have c1 := opMay_calls A ca xs W0 (hL.below B0) hTx (Kd.C_below HX.out B0)
  rw [h1] at c1
  clear h1
  go_enter Tryd.func35, Tryd.ntmps35
  go_wp2_with fail
  refine wp_scope_straight ?_
  go_wp2_with fail
  refine wp_loop_rounds 4 ?_
  rw [rounds_succ]
  go_wp2_with fail
  rw [← HW0.out]
  refine c1.mono ?_
  rintro e w1 ⟨rfl, hb⟩
  have T1 := T0.trans (hb.mono (by omega))
  clear hb hz k1 k2
  obtain ⟨k1, k2, B1, hz⟩ := one_box T1
  have c2 := opMay_calls B cb ys w1 (hL.below B1) hTy (Kd.C_below HY.out B1)
  rw [h2] at c2
  clear h2
  go_wp2_with fail
  rw [rounds_succ]
  go_wp2_with fail
  refine c2.mono ?_
  rintro e w2 ⟨rfl, hb⟩
  have T2 := T1.trans (hb.mono (by omega))
  clear hb hz k1 k2
  obtain ⟨k1, k2, B2, hz⟩ := one_box T2
  have c3 := opOut_calls A ca xs w2 (hL.below B2) hTx (Kd.C_below HX.out B2)
  generalize sumW spOut xs = u at c3 he
  go_wp2_with fail
  rw [rounds_succ]
  go_wp2_with fail
  refine c3.mono ?_
  rintro e w3 ⟨rfl, hb⟩
  have T3 := T2.trans (hb.mono (by omega))
  clear hb hz k1 k2
  obtain ⟨k1, k2, B3, hz⟩ := one_box T3
  have c4 := opIn_calls B cb ys w3 (hL.below B3) hTy (Kd.C_below HY.out B3)
  generalize sumW spIn ys = v at c4 he
  have he' : (u != v) = true := by simpa using he
  have he2 := Lib.hid he
  clear he
  go_wp2_with fail
  refine c4.mono ?_
  rintro e w4 ⟨rfl, hb⟩
  have T4 := T3.trans (hb.mono (by omega))
  clear hb hz k1 k2
  obtain ⟨k1, k2, B4, hz⟩ := one_box T4
  go_wp2_with fail
  rw [Exit.noGoto_ret]
  exact bodyPost_ret (v := .tuple #[.slice none 0 0, .int .i64 5]) (by simp [results, Tryd.results35, go_sem]) rfl ⟨rfl, B4⟩

end Go.Proofs.YtmfpfipjhhfbhaaDoor
