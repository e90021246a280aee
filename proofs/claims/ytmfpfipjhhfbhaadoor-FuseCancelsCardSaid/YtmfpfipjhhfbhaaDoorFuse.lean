/- fuse.Of of a chain; and of operations that are none. -/
import Derived.Test.YtmfpfipjhhfbhaaDoorOne
import Derived.Test.YtmfpfipjhhfbhaaDoorFitRw
import Derived.Test.YtmfpfipjhhfbhaaDoorCompE
namespace Go.Proofs.YtmfpfipjhhfbhaaDoor
open Go.RowKit Go.Proofs.YtmfpfipjhhfbhaaDoorW.PrintWords

/-- The cell of element i of a row of rows; and the row itself. -/
theorem at_row {w : World} {A : Option Addr} {n : Nat} {xss : List (List Sp)} (h : Kd.C kRow w A n xss) {j : Nat} {xs : List Sp} (hj : xss[j]? = some xs) : ∃ ad B c, A = some ad ∧ w.cell? (ad.add j) = some (.slice B xs.length c) ∧ Kd.C kSp w B xs.length xs := by
  have hl := (List.getElem?_eq_some_iff.1 hj).1
  have h1 := h.1
  obtain ⟨ad, e, hc⟩ := h.2.2 (by omega)
  obtain ⟨c, _, hK, hcell⟩ := hc j xs hj
  obtain ⟨B, cc, rfl, hC⟩ := hK
  have := hcell 0 _ rfl
  rw [Nat.add_zero, show j * kRow.sz = j from Nat.mul_one j] at this
  exact ⟨ad, B, cc, e, this, hC⟩
/-- What a chain's operations come to, one by one. -/
def compsA (c : List At) (L : List (List Sp)) : List At := L.foldl (fun c X => compA c (atoms X)) c
theorem compsA_snoc (c : List At) (L : List (List Sp)) (X : List Sp) : compsA c (L ++ [X]) = compA (compsA c L) (atoms X) := by simp [compsA]
/-- A chain: each takes what the one ahead gives. -/
def Chn : Nat → List (List Sp) → Prop
  | _, [] => True
  | n, X :: L => inA (atoms X) = n ∧ Chn (outA (atoms X)) L
def endN (n : Nat) (L : List (List Sp)) : Nat := L.foldl (fun _ X => outA (atoms X)) n
theorem endN_snoc (n : Nat) (L : List (List Sp)) (X : List Sp) : endN n (L ++ [X]) = outA (atoms X) := by simp [endN]
theorem chn_append : ∀ (n : Nat) (L M : List (List Sp)), Chn n (L ++ M) ↔ Chn n L ∧ Chn (endN n L) M
  | _, [], M => by simp [Chn, endN]
  | n, X :: L, M => by
    show (_ ∧ Chn _ (L ++ M)) ↔ _
    rw [chn_append _ L M]
    show _ ↔ (_ ∧ _) ∧ Chn (endN (outA (atoms X)) L) M
    exact ⟨fun h => ⟨⟨h.1, h.2.1⟩, h.2.2⟩, fun h => ⟨h.1.1, h.1.2, h.2⟩⟩
/-- Operations of few steps each. -/
structure Bnd (L : List (List Sp)) (b : Nat) : Prop where
  row : ∀ X ∈ L, Rw X (atoms X) b
theorem Bnd.take {L : List (List Sp)} {b : Nat} (h : Bnd L b) (k : Nat) : Bnd (L.take k) b := ⟨fun X hX => h.row X (List.mem_of_mem_take hX)⟩
theorem Bnd.drop {L : List (List Sp)} {b : Nat} (h : Bnd L b) (k : Nat) : Bnd (L.drop k) b := ⟨fun X hX => h.row X (List.mem_of_mem_drop hX)⟩
theorem snoc_of {α : Type} {L : List α} {k : Nat} {x : α} (h : L[k]? = some x) : L.take (k + 1) = L.take k ++ [x] := take_snoc' h
/-- What comes of a chain, behind a row of c0 steps. -/
theorem comps_rw {X0 : List Sp} {c0 : List At} {b0 b : Nat} (h0 : Rw X0 c0 b0) : ∀ (L : List (List Sp)), Chn (outA c0) L → Bnd L b → b0 + L.length * b ≤ 262144 → Rw (ofA (compsA c0 L)) (compsA c0 L) (b0 + L.length * b) ∧ outA (compsA c0 L) = endN (outA c0) L ∧ inA (compsA c0 L) = inA c0 := by
  intro L
  induction L using snoc_rec with
  | nil => exact fun _ _ hb => ⟨by have := Rw.of h0.fw (by simpa using hb); simpa [compsA] using this, rfl, rfl⟩
  | snoc L X ih =>
    intro hc hB hb
    rw [List.length_append, List.length_singleton] at hb ⊢
    have hb' : b0 + (L.length * b + b) ≤ 262144 := by rw [Nat.add_mul, Nat.one_mul] at hb; exact hb
    obtain ⟨h1, h2⟩ := (chn_append _ L [X]).1 hc
    obtain ⟨i1, i2, i3⟩ := ih h1 ⟨fun Y hY => hB.row Y (by simp [hY])⟩ (by omega)
    have hX := hB.row X (by simp)
    have hio : outA (compsA c0 L) = inA (atoms X) := by rw [i2]; exact h2.1.symm
    rw [compsA_snoc, endN_snoc, Nat.add_mul, Nat.one_mul]
    have hh := comp_io _ _ _ (Nat.le_refl _) hio
    exact ⟨by rw [← Nat.add_assoc]; exact i1.comp hX hio (by omega), hh.2, by rw [hh.1, i3]⟩

def foldX (_X0 : List Sp) (c0 : List At) (L : List (List Sp)) (k : Nat) : List Sp := ofA (compsA c0 (L.take k))
structure FoldInv (w wr : World) (A B : Option Addr) (X0 : List Sp) (c0 : List At) (L : List (List Sp)) (v i : Value) : Prop where
  out : ∃ k : Nat, k ≤ L.length ∧ i = .int .i64 k ∧ ∃ A' c', v = .slice A' (foldX X0 c0 L k).length c' ∧ Env w wr [.row A' (foldX X0 c0 L k), .rows B L]
set_option maxRecDepth 100000 in
set_option maxHeartbeats 2000000 in
theorem fold_ok (A B : Option Addr) (ca cb : Nat) (X0 : List Sp) (c0 : List At) (L : List (List Sp)) (b0 b : Nat) (w : World) (hL : Laid w) (h0 : Rw X0 c0 b0) (hX0 : ofA c0 = X0) (hA : Kd.C kSp w A X0.length X0) (hR : Kd.C kRow w B L.length L) (hc : Chn (outA c0) L) (hB : Bnd L b) (hb : b0 + L.length * b ≤ 262144) :
    Calls Tryd.prog 72 #[.slice A X0.length ca, .slice B L.length cb, .func (.func 35) #[] #[]] w fun e w' => ∃ A' c', e = .returned (.tuple #[.slice A' (ofA (compsA c0 L)).length c', .int .i64 0]) ∧ Kd.C kSp w' A' (ofA (compsA c0 L)).length (ofA (compsA c0 L)) ∧ Below w.heap.size w w' := by
  have e0 := ((Env.start hL).adds hR).add hA
  have hl := hR.2.1
  have HC := Lib.hid (And.intro hc (And.intro hB hX0))
  have hx0 : X0 = foldX X0 c0 L 0 := hX0.symm
  have HX0 := Lib.hid hx0
  clear hA hR hc hB hX0 hx0
  go_enter Tryd.func72, Tryd.ntmps72
  go_wp2_with fail
  go_loopw [0, 15] (fun v i wr => FoldInv w wr A B X0 c0 L v i) (fun _ i _ => L.length - (intOf i).toNat)
  case atStart => exact ⟨0, Nat.zero_le _, rfl, A, ca, by rw [← HX0.out], by rw [← HX0.out]; exact e0⟩
  case round =>
    rename_i wr
    obtain ⟨k, hk, rfl, A', c', rfl, e1⟩ := hrel.out
    clear hrel e0
    have hlt2 : (L.take k).length = k := by rw [List.length_take]; omega
    have hbk : b0 + k * b ≤ 262144 := by have := Nat.mul_le_mul_right b hk; omega
    by_cases hlt : k < L.length
    · obtain ⟨X, hX⟩ : ∃ X, L[k]? = some X := ⟨_, List.getElem?_eq_getElem hlt⟩
      obtain ⟨ad, C, cx, rfl, hcell, hCx⟩ := at_row (e1.rows 1 rfl) hX
      have hsn := snoc_of hX
      have hch := HC.out.1
      rw [← List.take_append_drop k L, List.drop_eq_getElem_cons hlt, chn_append] at hch
      have hXe : L[k] = X := by rw [List.getElem?_eq_getElem hlt] at hX; exact Option.some.inj hX
      rw [hXe] at hch
      obtain ⟨i1, i2, i3⟩ := comps_rw h0 (L.take k) hch.1 (HC.out.2.1.take k) (by rw [hlt2]; exact hbk)
      have hio : outA (compsA c0 (L.take k)) = inA (atoms X) := by rw [i2]; exact hch.2.1.symm
      have rX := HC.out.2.1.row X (List.mem_of_getElem? hX)
      have hb2 : b0 + (L.take k).length * b + b ≤ 262144 := by rw [hlt2, Nat.add_assoc, ← Nat.succ_mul]; have := Nat.mul_le_mul_right b (show k + 1 ≤ L.length by omega); show b0 + (k + 1) * b ≤ _; omega
      have cc := comp_rw i1 rX hio hb2 A' C c' cx wr e1.laid (e1.row 0 rfl) hCx
      have hnx : foldX X0 c0 L (k + 1) = ofA (compA (compsA c0 (L.take k)) (atoms X)) := by unfold foldX; rw [hsn, compsA_snoc]
      rw [← hnx] at cc
      have cc' : Calls Tryd.prog 35 #[.slice A' (foldX X0 c0 L k).length c', .slice C X.length cx] wr fun e w' => ∃ v, e = .returned (.tuple #[v, .int .i64 0]) ∧ Gives wr w' v (foldX X0 c0 L (k + 1)) ∧ Below wr.heap.size wr w' := cc
      clear cc i1 i2 i3 hio rX hb2 hnx hX hCx hsn hch hXe hlt2 hbk
      generalize foldX X0 c0 L k = Xk at *
      go_wp2_with fail
      refine cc'.mono ?_
      rintro e w4 ⟨v, rfl, hv, hb⟩
      clear cc'
      obtain ⟨A4, d4, rfl, hC⟩ := gives_reads hv
      have e2 : Env w w4 [.row A4 (foldX X0 c0 L (k + 1)), .rows (some ad) L] := ⟨e1.bel.trans (hb.mono e1.bel.size), e1.laid.below hb, fun x hx => by
        rcases List.mem_cons.1 hx with rfl | hx
        · exact hC
        · exact Ent.later (e1.all x (List.mem_cons_of_mem _ hx)) hb⟩
      clear hv hC hb e1
      go_wp2_with fail
      go_roundw
      case rel => exact ⟨k + 1, by omega, by go_num, A4, d4, rfl, e2⟩
      case measure => simp [intOf]; omega
    · have hkl : k = L.length := by omega
      have hfx : foldX X0 c0 L k = ofA (compsA c0 L) := by unfold foldX; rw [hkl, List.take_length]
      rw [hfx] at e1 ⊢
      clear hfx hkl
      go_wp2_with fail
      refine bodyPost_ret (v := .tuple #[.slice A' (ofA (compsA c0 L)).length c', .int .i64 0]) (by simp [results, Tryd.results72, go_sem]) rfl ⟨A', c', rfl, e1.row 0 rfl, e1.bel⟩

/-- fuse.Of of a chain. -/
theorem ofA_keeps' (n : Nat) (h : n ≤ 1048576) : ofA (List.replicate n .keep) = keepS n := ofA_keeps n h
def fuseA (n : Nat) (L : List (List Sp)) : List At := compsA (List.replicate n .keep) L
theorem fuse_rw (n : Nat) (L : List (List Sp)) (b : Nat) (hn : n ≤ 10000) (hc : Chn n L) (hB : Bnd L b) (hb : n + 1 + L.length * b ≤ 262144) : Rw (ofA (fuseA n L)) (fuseA n L) (n + 1 + L.length * b) ∧ outA (fuseA n L) = endN n L ∧ inA (fuseA n L) = n := by
  have h := comps_rw (keep_rw n (n + 1) (by omega) (by omega)) L (by rw [outA_keeps]; exact hc) hB hb
  rw [outA_keeps, inA_keeps] at h
  exact h
set_option maxRecDepth 100000 in
set_option maxHeartbeats 1000000 in
theorem fuse_ok (n : Nat) (B : Option Addr) (cb : Nat) (L : List (List Sp)) (b : Nat) (w : World) (hL : Laid w) (hn : n ≤ 10000) (hR : Kd.C kRow w B L.length L) (hc : Chn n L) (hB : Bnd L b) (hb : n + 1 + L.length * b ≤ 262144) :
    Calls Tryd.prog 37 #[.int .i64 n, .slice B L.length cb] w fun e w' => ∃ A' c', e = .returned (.tuple #[.slice A' (ofA (fuseA n L)).length c', .int .i64 0]) ∧ Kd.C kSp w' A' (ofA (fuseA n L)).length (ofA (fuseA n L)) ∧ Below w.heap.size w w' := by
  have e0 := (Env.start hL).adds hR
  have ck := opKeep_ok n w (by omega)
  have HC := Lib.hid (And.intro hc hB)
  clear hR hc hB
  go_enter Tryd.func37, Tryd.ntmps37
  go_wp2_with fail
  refine ck.mono ?_
  rintro e w1 ⟨v, rfl, hv, hb1⟩
  obtain ⟨A1, d1, rfl, hC⟩ := gives_reads hv
  have e1 := (e0.next hb1).add hC
  have cf := fold_ok A1 B d1 cb (keepS n) (List.replicate n .keep) L (n + 1) b w1 e1.laid (keep_rw n (n + 1) (by omega) (by omega)) (ofA_keeps n (by omega)) (e1.row 0 rfl) (e1.rows 1 rfl) (by rw [outA_keeps]; exact HC.out.1) HC.out.2 hb
  clear ck hv hC hb1 e0
  go_wp2_with fail
  refine cf.mono ?_
  rintro e w2 ⟨A2, d2, rfl, hC, hb2⟩
  clear cf
  have e2 := e1.next hb2
  go_wp2_with fail
  refine bodyPost_ret (v := .tuple #[.slice A2 (ofA (fuseA n L)).length d2, .int .i64 0]) (by simp [results, Tryd.results37, go_sem, fuseA]) rfl ⟨A2, d2, rfl, hC, e2.bel⟩

end Go.Proofs.YtmfpfipjhhfbhaaDoor
