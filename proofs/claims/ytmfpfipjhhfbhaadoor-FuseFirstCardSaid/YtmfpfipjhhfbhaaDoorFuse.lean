/- fuse.Of of a chain; and of operations that are none. -/
import Derived.Test.YtmfpfipjhhfbhaaDoorOne
import Derived.Test.YtmfpfipjhhfbhaaDoorFitRw
import Derived.Test.YtmfpfipjhhfbhaaDoorComp
namespace Go.Proofs.YtmfpfipjhhfbhaaDoor
open Go.RowKit Go.Proofs.YtmfpfipjhhfbhaaDoorW.PrintWords

/-- The cell of element i of a row of rows; and the row itself. -/
theorem at_row {w : World} {A : Option Addr} {n : Nat} {xss : List (List Sp)} (h : Kd.C kRow w A n xss) {j : Nat} {xs : List Sp} (hj : xss[j]? = some xs) : ∃ ad B c, A = some ad ∧ w.cell? (ad.add j) = some (.slice B xs.length c) ∧ Kd.C kSp w B xs.length xs := by
  have hl := (List.getElem?_eq_some_iff.1 hj).1
  have h1 := h.1
  obtain ⟨ad, e, hc⟩ := h.2.2 (by omega)
  obtain ⟨c, _, hK, hcell⟩ := hc j xs hj
  obtain ⟨B, cc, rfl, hC⟩ := hK
  have := hcell 0 _ rfl
  rw [Nat.add_zero, show j * kRow.sz = j from Nat.mul_one j] at this
  exact ⟨ad, B, cc, e, this, hC⟩
/-- What a chain's operations come to, one by one. -/
def compsA (c : List At) (L : List (List Sp)) : List At := L.foldl (fun c X => compA c (atoms X)) c
theorem compsA_snoc (c : List At) (L : List (List Sp)) (X : List Sp) : compsA c (L ++ [X]) = compA (compsA c L) (atoms X) := by simp [compsA]
/-- A chain: each takes what the one ahead gives. -/
def Chn : Nat → List (List Sp) → Prop
  | _, [] => True
  | n, X :: L => inA (atoms X) = n ∧ Chn (outA (atoms X)) L
def endN (n : Nat) (L : List (List Sp)) : Nat := L.foldl (fun _ X => outA (atoms X)) n
theorem endN_snoc (n : Nat) (L : List (List Sp)) (X : List Sp) : endN n (L ++ [X]) = outA (atoms X) := by simp [endN]
theorem chn_append : ∀ (n : Nat) (L M : List (List Sp)), Chn n (L ++ M) ↔ Chn n L ∧ Chn (endN n L) M
  | _, [], M => by simp [Chn, endN]
  | n, X :: L, M => by
    show (_ ∧ Chn _ (L ++ M)) ↔ _
    rw [chn_append _ L M]
    show _ ↔ (_ ∧ _) ∧ Chn (endN (outA (atoms X)) L) M
    exact ⟨fun h => ⟨⟨h.1, h.2.1⟩, h.2.2⟩, fun h => ⟨h.1.1, h.1.2, h.2⟩⟩
/-- Operations of few steps each. -/
structure Bnd (L : List (List Sp)) (b : Nat) : Prop where
  row : ∀ X ∈ L, Rw X (atoms X) b
theorem Bnd.take {L : List (List Sp)} {b : Nat} (h : Bnd L b) (k : Nat) : Bnd (L.take k) b := ⟨fun X hX => h.row X (List.mem_of_mem_take hX)⟩
theorem Bnd.drop {L : List (List Sp)} {b : Nat} (h : Bnd L b) (k : Nat) : Bnd (L.drop k) b := ⟨fun X hX => h.row X (List.mem_of_mem_drop hX)⟩
theorem snoc_of {α : Type} {L : List α} {k : Nat} {x : α} (h : L[k]? = some x) : L.take (k + 1) = L.take k ++ [x] := take_snoc' h
/-- What comes of a chain, behind a row of c0 steps. -/
theorem comps_rw {X0 : List Sp} {c0 : List At} {b0 b : Nat} (h0 : Rw X0 c0 b0) : ∀ (L : List (List Sp)), Chn (outA c0) L → Bnd L b → b0 + L.length * b ≤ 262144 → Rw (ofA (compsA c0 L)) (compsA c0 L) (b0 + L.length * b) ∧ outA (compsA c0 L) = endN (outA c0) L ∧ inA (compsA c0 L) = inA c0 := by
  intro L
  induction L using snoc_rec with
  | nil => exact fun _ _ hb => ⟨by have := Rw.of h0.fw (by simpa using hb); simpa [compsA] using this, rfl, rfl⟩
  | snoc L X ih =>
    intro hc hB hb
    rw [List.length_append, List.length_singleton] at hb ⊢
    have hb' : b0 + (L.length * b + b) ≤ 262144 := by rw [Nat.add_mul, Nat.one_mul] at hb; exact hb
    obtain ⟨h1, h2⟩ := (chn_append _ L [X]).1 hc
    obtain ⟨i1, i2, i3⟩ := ih h1 ⟨fun Y hY => hB.row Y (by simp [hY])⟩ (by omega)
    have hX := hB.row X (by simp)
    have hio : outA (compsA c0 L) = inA (atoms X) := by rw [i2]; exact h2.1.symm
    rw [compsA_snoc, endN_snoc, Nat.add_mul, Nat.one_mul]
    have hh := comp_io _ _ _ (Nat.le_refl _) hio
    exact ⟨by rw [← Nat.add_assoc]; exact i1.comp hX hio (by omega), hh.2, by rw [hh.1, i3]⟩

def foldX (_X0 : List Sp) (c0 : List At) (L : List (List Sp)) (k : Nat) : List Sp := ofA (compsA c0 (L.take k))
structure FoldInv (w wr : World) (A B : Option Addr) (X0 : List Sp) (c0 : List At) (L : List (List Sp)) (v i : Value) : Prop where
  out : ∃ k : Nat, k ≤ L.length ∧ i = .int .i64 k ∧ ∃ A' c', v = .slice A' (foldX X0 c0 L k).length c' ∧ Env w wr [.row A' (foldX X0 c0 L k), .rows B L]
set_option maxRecDepth 100000 in
set_option maxHeartbeats 2000000 in
theorem fold_ok (A B : Option Addr) (ca cb : Nat) (X0 : List Sp) (c0 : List At) (L : List (List Sp)) (b0 b : Nat) (w : World) (hL : Laid w) (h0 : Rw X0 c0 b0) (hX0 : ofA c0 = X0) (hA : Kd.C kSp w A X0.length X0) (hR : Kd.C kRow w B L.length L) (hc : Chn (outA c0) L) (hB : Bnd L b) (hb : b0 + L.length * b ≤ 262144) :
    Calls Tryd.prog 72 #[.slice A X0.length ca, .slice B L.length cb, .func (.func 35) #[] #[]] w fun e w' => ∃ A' c', e = .returned (.tuple #[.slice A' (ofA (compsA c0 L)).length c', .int .i64 0]) ∧ Kd.C kSp w' A' (ofA (compsA c0 L)).length (ofA (compsA c0 L)) ∧ Below w.heap.size w w' := by
  have e0 := ((Env.start hL).adds hR).add hA
  have hl := hR.2.1
  have HC := Lib.hid (And.intro hc (And.intro hB hX0))
  have hx0 : X0 = foldX X0 c0 L 0 := hX0.symm
  have HX0 := Lib.hid hx0
  clear hA hR hc hB hX0 hx0
  go_enter Tryd.func72, Tryd.ntmps72
  go_wp2_with fail
  go_loopw [0, 15] (fun v i wr => FoldInv w wr A B X0 c0 L v i) (fun _ i _ => L.length - (intOf i).toNat)
  case atStart => exact ⟨0, Nat.zero_le _, rfl, A, ca, by rw [← HX0.out], by rw [← HX0.out]; exact e0⟩
  case round =>
    rename_i wr
    obtain ⟨k, hk, rfl, A', c', rfl, e1⟩ := hrel.out
    clear hrel e0
    have hlt2 : (L.take k).length = k := by rw [List.length_take]; omega
    have hbk : b0 + k * b ≤ 262144 := by have := Nat.mul_le_mul_right b hk; omega
    by_cases hlt : k < L.length
    · obtain ⟨X, hX⟩ : ∃ X, L[k]? = some X := ⟨_, List.getElem?_eq_getElem hlt⟩
      obtain ⟨ad, C, cx, rfl, hcell, hCx⟩ := at_row (e1.rows 1 rfl) hX
      have hsn := snoc_of hX
      have hch := HC.out.1
      rw [← List.take_append_drop k L, List.drop_eq_getElem_cons hlt, chn_append] at hch
      have hXe : L[k] = X := by rw [List.getElem?_eq_getElem hlt] at hX; exact Option.some.inj hX
      rw [hXe] at hch
      obtain ⟨i1, i2, i3⟩ := comps_rw h0 (L.take k) hch.1 (HC.out.2.1.take k) (by rw [hlt2]; exact hbk)
      have hio : outA (compsA c0 (L.take k)) = inA (atoms X) := by rw [i2]; exact hch.2.1.symm
      have rX := HC.out.2.1.row X (List.mem_of_getElem? hX)
      have hb2 : b0 + (L.take k).length * b + b ≤ 262144 := by rw [hlt2, Nat.add_assoc, ← Nat.succ_mul]; have := Nat.mul_le_mul_right b (show k + 1 ≤ L.length by omega); show b0 + (k + 1) * b ≤ _; omega
      have cc := comp_rw i1 rX hio hb2 A' C c' cx wr e1.laid (e1.row 0 rfl) hCx
      have hnx : foldX X0 c0 L (k + 1) = ofA (compA (compsA c0 (L.take k)) (atoms X)) := by unfold foldX; rw [hsn, compsA_snoc]
      rw [← hnx] at cc
      have cc' : Calls Tryd.prog 35 #[.slice A' (foldX X0 c0 L k).length c', .slice C X.length cx] wr fun e w' => ∃ v, e = .returned (.tuple #[v, .int .i64 0]) ∧ Gives wr w' v (foldX X0 c0 L (k + 1)) ∧ Below wr.heap.size wr w' := cc
      clear cc i1 i2 i3 hio rX hb2 hnx hX hCx hsn hch hXe hlt2 hbk
      generalize foldX X0 c0 L k = Xk at *
      go_wp2_with fail
      refine cc'.mono ?_
      rintro e w4 ⟨v, rfl, hv, hb⟩
      clear cc'
      obtain ⟨A4, d4, rfl, hC⟩ := gives_reads hv
      have e2 : Env w w4 [.row A4 (foldX X0 c0 L (k + 1)), .rows (some ad) L] := ⟨e1.bel.trans (hb.mono e1.bel.size), e1.laid.below hb, fun x hx => by
        rcases List.mem_cons.1 hx with rfl | hx
        · exact hC
        · exact Ent.later (e1.all x (List.mem_cons_of_mem _ hx)) hb⟩
      clear hv hC hb e1
      go_wp2_with fail
      go_roundw
      case rel => exact ⟨k + 1, by omega, by go_num, A4, d4, rfl, e2⟩
      case measure => simp [intOf]; omega
    · have hkl : k = L.length := by omega
      have hfx : foldX X0 c0 L k = ofA (compsA c0 L) := by unfold foldX; rw [hkl, List.take_length]
      rw [hfx] at e1 ⊢
      clear hfx hkl
      go_wp2_with fail
      refine bodyPost_ret (v := .tuple #[.slice A' (ofA (compsA c0 L)).length c', .int .i64 0]) (by simp [results, Tryd.results72, go_sem]) rfl ⟨A', c', rfl, e1.row 0 rfl, e1.bel⟩

/-- fuse.Of of a chain. -/
theorem ofA_keeps' (n : Nat) (h : n ≤ 1048576) : ofA (List.replicate n .keep) = keepS n := ofA_keeps n h
def fuseA (n : Nat) (L : List (List Sp)) : List At := compsA (List.replicate n .keep) L
theorem fuse_rw (n : Nat) (L : List (List Sp)) (b : Nat) (hn : n ≤ 10000) (hc : Chn n L) (hB : Bnd L b) (hb : n + 1 + L.length * b ≤ 262144) : Rw (ofA (fuseA n L)) (fuseA n L) (n + 1 + L.length * b) ∧ outA (fuseA n L) = endN n L ∧ inA (fuseA n L) = n := by
  have h := comps_rw (keep_rw n (n + 1) (by omega) (by omega)) L (by rw [outA_keeps]; exact hc) hB hb
  rw [outA_keeps, inA_keeps] at h
  exact h
set_option maxRecDepth 100000 in
set_option maxHeartbeats 1000000 in
theorem fuse_ok (n : Nat) (B : Option Addr) (cb : Nat) (L : List (List Sp)) (b : Nat) (w : World) (hL : Laid w) (hn : n ≤ 10000) (hR : Kd.C kRow w B L.length L) (hc : Chn n L) (hB : Bnd L b) (hb : n + 1 + L.length * b ≤ 262144) :
    Calls Tryd.prog 37 #[.int .i64 n, .slice B L.length cb] w fun e w' => ∃ A' c', e = .returned (.tuple #[.slice A' (ofA (fuseA n L)).length c', .int .i64 0]) ∧ Kd.C kSp w' A' (ofA (fuseA n L)).length (ofA (fuseA n L)) ∧ Below w.heap.size w w' := by
  have e0 := (Env.start hL).adds hR
  have ck := opKeep_ok n w (by omega)
  have HC := Lib.hid (And.intro hc hB)
  clear hR hc hB
  go_enter Tryd.func37, Tryd.ntmps37
  go_wp2_with fail
  refine ck.mono ?_
  rintro e w1 ⟨v, rfl, hv, hb1⟩
  obtain ⟨A1, d1, rfl, hC⟩ := gives_reads hv
  have e1 := (e0.next hb1).add hC
  have cf := fold_ok A1 B d1 cb (keepS n) (List.replicate n .keep) L (n + 1) b w1 e1.laid (keep_rw n (n + 1) (by omega) (by omega)) (ofA_keeps n (by omega)) (e1.row 0 rfl) (e1.rows 1 rfl) (by rw [outA_keeps]; exact HC.out.1) HC.out.2 hb
  clear ck hv hC hb1 e0
  go_wp2_with fail
  refine cf.mono ?_
  rintro e w2 ⟨A2, d2, rfl, hC, hb2⟩
  clear cf
  have e2 := e1.next hb2
  go_wp2_with fail
  refine bodyPost_ret (v := .tuple #[.slice A2 (ofA (fuseA n L)).length d2, .int .i64 0]) (by simp [results, Tryd.results37, go_sem, fuseA]) rfl ⟨A2, d2, rfl, hC, e2.bel⟩

end Go.Proofs.YtmfpfipjhhfbhaaDoor

/- fuse.Chain of a chain; and of operations that are none. -/
namespace Go.Proofs.YtmfpfipjhhfbhaaDoor
open Go.RowKit Go.Proofs.YtmfpfipjhhfbhaaDoorW.PrintWords

theorem Rw.may {X : List Sp} {l : List At} {b : Nat} (h : Rw X l b) (hb : b ≤ 262144) : opMay X = 0 := (opMay_zero (by have := h.len; omega)).2 ⟨h.valid, by rw [h.ato]; have := in_le l; have := h.few; omega⟩
set_option maxHeartbeats 1000000 in
theorem next_ok (n : Nat) (A : Option Addr) (ca : Nat) (X : List Sp) (l : List At) (b : Nat) (w : World) (hL : Laid w) (h : Rw X l b) (hb : b ≤ 262144) (hn : inA l = n) (hA : Kd.C kSp w A X.length X) :
    Calls Tryd.prog 76 #[.int .i64 n, .slice A X.length ca] w fun e w' => e = .returned (.tuple #[.int .i64 (outA l), .int .i64 0]) ∧ Below w.heap.size w w' := by
  have e0 := (Env.start hL).add hA
  have hT := h.texts hb
  have c1 := opMay_calls A ca X w hL hT hA
  rw [h.may hb] at c1
  have c2 := fun W hW C => opIn_calls A ca X W hW hT C
  rw [h.ins hb, hn] at c2
  have c3 := fun W hW C => opOut_calls A ca X W hW hT C
  rw [h.outs hb] at c3
  have G := Lib.hid (And.intro c2 c3)
  clear c2 c3 hA hn h hT
  go_enter Tryd.func76, Tryd.ntmps76
  have cc := c1
  go_wp2_with fail
  refine cc.mono ?_
  rintro e w1 ⟨rfl, hb⟩
  clear cc
  have e1 := e0.next hb
  clear hb e0
  have cc := G.out.1 w1 e1.laid (e1.row 0 rfl)
  go_wp2_with fail
  refine cc.mono ?_
  rintro e w2 ⟨rfl, hb⟩
  clear cc
  have e2 := e1.next hb
  clear hb e1
  have cc := G.out.2 w2 e2.laid (e2.row 0 rfl)
  go_wp2_with fail
  refine cc.mono ?_
  rintro e w3 ⟨rfl, hb⟩
  clear cc
  have e3 := e2.next hb
  clear hb e2
  go_wp2_with fail
  exact bodyPost_ret (v := .tuple #[.int .i64 (outA l), .int .i64 0]) (by simp [results, Tryd.results76, go_sem]) rfl ⟨rfl, e3.bel⟩

structure FoldIInv (w wr : World) (B : Option Addr) (n : Nat) (L : List (List Sp)) (v i : Value) : Prop where
  out : ∃ k : Nat, k ≤ L.length ∧ i = .int .i64 k ∧ v = .int .i64 (endN n (L.take k)) ∧ Env w wr [.rows B L]
set_option maxRecDepth 100000 in
set_option maxHeartbeats 2000000 in
theorem foldI_ok (n : Nat) (B : Option Addr) (cb : Nat) (L : List (List Sp)) (b : Nat) (w : World) (hL : Laid w) (hR : Kd.C kRow w B L.length L) (hc : Chn n L) (hB : Bnd L b) (hb : b ≤ 262144) :
    Calls Tryd.prog 75 #[.int .i64 n, .slice B L.length cb, .func (.func 76) #[] #[]] w fun e w' => e = .returned (.tuple #[.int .i64 (endN n L), .int .i64 0]) ∧ Below w.heap.size w w' := by
  have e0 := (Env.start hL).adds hR
  have hl := hR.2.1
  have HC := Lib.hid (And.intro hc hB)
  have hn0 : endN n (L.take 0) = n := rfl
  have HN := Lib.hid hn0
  clear hR hc hB hn0
  go_enter Tryd.func75, Tryd.ntmps75
  go_wp2_with fail
  go_loopw [0, 15] (fun v i wr => FoldIInv w wr B n L v i) (fun _ i _ => L.length - (intOf i).toNat)
  case atStart => exact ⟨0, Nat.zero_le _, rfl, by rw [HN.out], e0⟩
  case round =>
    rename_i wr
    obtain ⟨k, hk, rfl, rfl, e1⟩ := hrel.out
    clear hrel e0
    by_cases hlt : k < L.length
    · obtain ⟨X, hX⟩ : ∃ X, L[k]? = some X := ⟨_, List.getElem?_eq_getElem hlt⟩
      obtain ⟨ad, C, cx, rfl, hcell, hCx⟩ := at_row (e1.rows 0 rfl) hX
      have hsn := snoc_of hX
      have hch := HC.out.1
      rw [← List.take_append_drop k L, List.drop_eq_getElem_cons hlt, chn_append] at hch
      have hXe : L[k] = X := by rw [List.getElem?_eq_getElem hlt] at hX; exact Option.some.inj hX
      rw [hXe] at hch
      have rX := HC.out.2.row X (List.mem_of_getElem? hX)
      have cc := next_ok (endN n (L.take k)) C cx X (atoms X) b wr e1.laid rX hb hch.2.1 hCx
      have hnx : endN n (L.take (k + 1)) = outA (atoms X) := by rw [hsn, endN_snoc]
      rw [← hnx] at cc
      clear hnx rX hX hCx hsn hch hXe
      generalize endN n (L.take k) = nk at *
      go_wp2_with fail
      refine cc.mono ?_
      rintro e w4 ⟨rfl, hb⟩
      clear cc
      have e2 := e1.next hb
      clear hb e1
      go_wp2_with fail
      go_roundw
      case rel => exact ⟨k + 1, by omega, by go_num, rfl, e2⟩
      case measure => simp [intOf]; omega
    · have hkl : k = L.length := by omega
      have hfx : endN n (L.take k) = endN n L := by rw [hkl, List.take_length]
      rw [hfx]
      clear hfx hkl
      go_wp2_with fail
      exact bodyPost_ret (v := .tuple #[.int .i64 (endN n L), .int .i64 0]) (by simp [results, Tryd.results75, go_sem]) rfl ⟨rfl, e1.bel⟩
set_option maxRecDepth 100000 in
set_option maxHeartbeats 1000000 in
theorem chain_ok (n : Nat) (B : Option Addr) (cb : Nat) (L : List (List Sp)) (b : Nat) (w : World) (hL : Laid w) (hn : n ≤ 10000) (hR : Kd.C kRow w B L.length L) (hc : Chn n L) (hB : Bnd L b) (hb : b ≤ 262144) :
    Calls Tryd.prog 40 #[.int .i64 n, .slice B L.length cb] w fun e w' => e = .returned (.tuple #[.int .i64 (endN n L), .int .i64 0]) ∧ Below w.heap.size w w' := by
  have e0 := (Env.start hL).adds hR
  have ck := opKeep_ok n w (by omega)
  have HC := Lib.hid (And.intro hc hB)
  clear hR hc hB
  go_enter Tryd.func40, Tryd.ntmps40
  go_wp2_with fail
  refine ck.mono ?_
  rintro e w1 ⟨v, rfl, hv, hb1⟩
  have e1 := e0.next hb1
  have cf := foldI_ok n B cb L b w1 e1.laid (e1.rows 0 rfl) HC.out.1 HC.out.2 hb
  clear ck hv hb1 e0
  go_wp2_with fail
  refine cf.mono ?_
  rintro e w2 ⟨rfl, hb2⟩
  clear cf
  have e2 := e1.next hb2
  go_wp2_with fail
  exact bodyPost_ret (v := .tuple #[.int .i64 (endN n L), .int .i64 0]) (by simp [results, Tryd.results40, go_sem]) rfl ⟨rfl, e2.bel⟩

end Go.Proofs.YtmfpfipjhhfbhaaDoor

/- fuse.Of, where an operation does not fit; fuse.Chain of any operations. -/
namespace Go.Proofs.YtmfpfipjhhfbhaaDoor
open Go.RowKit Go.Proofs.YtmfpfipjhhfbhaaDoorW.PrintWords

set_option maxRecDepth 100000 in
set_option maxHeartbeats 2000000 in
theorem fold_err (A B : Option Addr) (ca cb : Nat) (X0 : List Sp) (c0 : List At) (L : List (List Sp)) (b0 b j : Nat) (X : List Sp) (E : Int) (w : World) (hL : Laid w) (h0 : Rw X0 c0 b0) (hX0 : ofA c0 = X0) (hA : Kd.C kSp w A X0.length X0) (hR : Kd.C kRow w B L.length L)
    (hj : L[j]? = some X) (hc : Chn (outA c0) (L.take j)) (hB : Bnd (L.take j) b) (hb : 0 < j → b0 + j * b ≤ 262144) (hE : E ≠ 0)
    (cE : ∀ (A' C : Option Addr) (c' cx : Nat) (W : World), Laid W → Kd.C kSp W A' (foldX X0 c0 L j).length (foldX X0 c0 L j) → Kd.C kSp W C X.length X → Calls Tryd.prog 35 #[.slice A' (foldX X0 c0 L j).length c', .slice C X.length cx] W fun e w' => e = .returned (.tuple #[.slice none 0 0, .int .i64 E]) ∧ Below W.heap.size W w') :
    Calls Tryd.prog 72 #[.slice A X0.length ca, .slice B L.length cb, .func (.func 35) #[] #[]] w fun e w' => e = .returned (.tuple #[.slice none 0 0, .int .i64 E]) ∧ Below w.heap.size w w' := by
  have e0 := ((Env.start hL).adds hR).add hA
  have hl := hR.2.1
  have hjl : j < L.length := (List.getElem?_eq_some_iff.1 hj).1
  have hEb : (E != 0) = true := by simpa using hE
  have HC := Lib.hid (And.intro (And.intro hc hj) (And.intro hB hX0))
  have CE := Lib.hid cE
  have hx0 : X0 = foldX X0 c0 L 0 := hX0.symm
  have HX0 := Lib.hid hx0
  clear hA hR hc hB hX0 hx0 hj hE cE
  go_enter Tryd.func72, Tryd.ntmps72
  go_wp2_with fail
  go_loopw [0, 15] (fun v i wr => FoldInv w wr A B X0 c0 (L.take j ++ L.drop j) v i ∧ ∃ k : Nat, k ≤ j ∧ i = .int .i64 k) (fun _ i _ => L.length - (intOf i).toNat)
  case atStart =>
    rw [List.take_append_drop]
    exact ⟨⟨0, Nat.zero_le _, rfl, A, ca, by rw [← HX0.out], by rw [← HX0.out]; exact e0⟩, 0, Nat.zero_le _, rfl⟩
  case round =>
    rename_i wr
    obtain ⟨hrel, k2, hk2, he2⟩ := hrel
    rw [List.take_append_drop] at hrel
    obtain ⟨k, hk, he, A', c', rfl, e1⟩ := hrel.out
    rw [he2] at he
    injection he with _ he
    have hkk : k2 = k := by omega
    subst hkk he2
    clear hrel e0 he
    have hlt : k2 < L.length := by omega
    have hlt2 : (L.take k2).length = k2 := by rw [List.length_take]; omega
    by_cases hkj : k2 < j
    · obtain ⟨Y, hY⟩ : ∃ Y, L[k2]? = some Y := ⟨_, List.getElem?_eq_getElem hlt⟩
      have hYj : (L.take j)[k2]? = some Y := by rw [List.getElem?_take, if_pos hkj]; exact hY
      obtain ⟨ad, C, cx, rfl, hcell, hCx⟩ := at_row (e1.rows 1 rfl) hY
      have hsn := snoc_of hY
      have hch := HC.out.1.1
      have htt : (L.take j).take k2 = L.take k2 := by rw [List.take_take]; congr 1; omega
      have hlj : k2 < (L.take j).length := by rw [List.length_take]; omega
      rw [← List.take_append_drop k2 (L.take j), List.drop_eq_getElem_cons hlj, chn_append, htt] at hch
      have hYe : (L.take j)[k2] = Y := by rw [List.getElem?_eq_getElem hlj] at hYj; exact Option.some.inj hYj
      rw [hYe] at hch
      have hBk : Bnd (L.take k2) b := by have := HC.out.2.1.take k2; rwa [htt] at this
      have hbk : b0 + k2 * b + b ≤ 262144 := by have h5 := hb (by omega); have := Nat.mul_le_mul_right b (show k2 + 1 ≤ j by omega); rw [Nat.add_mul, Nat.one_mul] at this; omega
      obtain ⟨i1, i2, i3⟩ := comps_rw h0 (L.take k2) hch.1 hBk (by rw [hlt2]; omega)
      have hio : outA (compsA c0 (L.take k2)) = inA (atoms Y) := by rw [i2]; exact hch.2.1.symm
      have rY := HC.out.2.1.row Y (List.mem_of_getElem? hYj)
      have cc := comp_rw i1 rY hio (by rw [hlt2]; exact hbk) A' C c' cx wr e1.laid (e1.row 0 rfl) hCx
      have hnx : foldX X0 c0 L (k2 + 1) = ofA (compA (compsA c0 (L.take k2)) (atoms Y)) := by unfold foldX; rw [hsn, compsA_snoc]
      rw [← hnx] at cc
      have cc' : Calls Tryd.prog 35 #[.slice A' (foldX X0 c0 L k2).length c', .slice C Y.length cx] wr fun e w' => ∃ v, e = .returned (.tuple #[v, .int .i64 0]) ∧ Gives wr w' v (foldX X0 c0 L (k2 + 1)) ∧ Below wr.heap.size wr w' := cc
      clear cc i1 i2 i3 hio rY hbk hnx hY hCx hsn hch hYe hlt2 hYj htt hlj hBk
      generalize foldX X0 c0 L k2 = Xk at *
      go_wp2_with fail
      refine cc'.mono ?_
      rintro e w4 ⟨v, rfl, hv, hb⟩
      clear cc'
      obtain ⟨A4, d4, rfl, hC⟩ := gives_reads hv
      have e2 : Env w w4 [.row A4 (foldX X0 c0 L (k2 + 1)), .rows (some ad) L] := ((e1.next hb).add hC).swap (fun x hx => by simp at hx ⊢; rcases hx with rfl | rfl <;> simp)
      clear hv hC hb e1
      go_wp2_with fail
      go_roundw
      case rel =>
        rw [List.take_append_drop]
        exact ⟨⟨k2 + 1, by omega, by go_num, A4, d4, rfl, e2⟩, k2 + 1, by omega, by go_num⟩
      case measure => simp [intOf]; omega
    · have hkj2 : k2 = j := by omega
      have HK := Lib.hid hkj2
      obtain ⟨ad, C, cx, rfl, hcell, hCx⟩ := at_row (e1.rows 1 rfl) (j := k2) (by rw [HK.out]; exact HC.out.1.2)
      have hrow := e1.row 0 rfl
      rw [hkj2] at hrow
      have cc := CE.out A' C c' cx wr e1.laid hrow hCx
      have hfx : foldX X0 c0 L k2 = foldX X0 c0 L j := by rw [hkj2]
      rw [hfx]
      clear hkj2 hCx hrow hfx hlt2
      go_wp2_with fail
      refine cc.mono ?_
      rintro e w4 ⟨rfl, hb⟩
      clear cc
      have e2 := e1.next hb
      clear hb e1
      go_wp2_with fail
      exact bodyPost_ret (v := .tuple #[.slice none 0 0, .int .i64 E]) (by simp [results, Tryd.results72, go_sem]) rfl ⟨rfl, e2.bel⟩

set_option maxHeartbeats 1000000 in
theorem fuse_err0 (n : Int) (B : Option Addr) (n2 cb : Nat) (w : World) (hn : n < 0 ∨ 1048576 < n) :
    Calls Tryd.prog 37 #[.int .i64 n, .slice B n2 cb] w fun e w' => e = .returned (.tuple #[.slice none 0 0, .int .i64 2]) ∧ Below w.heap.size w w' := by
  have ck := opKeep_err n w hn
  go_enter Tryd.func37, Tryd.ntmps37
  go_wp2_with fail
  refine ck.mono ?_
  rintro e w1 ⟨rfl, rfl⟩
  go_wp2_with fail
  exact bodyPost_ret (v := .tuple #[.slice none 0 0, .int .i64 2]) (by simp [results, Tryd.results37, go_sem]) rfl ⟨rfl, Below.refl _ _⟩
set_option maxHeartbeats 1000000 in
theorem chain_err0 (n : Int) (B : Option Addr) (n2 cb : Nat) (w : World) (hn : n < 0 ∨ 1048576 < n) :
    Calls Tryd.prog 40 #[.int .i64 n, .slice B n2 cb] w fun e w' => e = .returned (.tuple #[.int .i64 0, .int .i64 2]) ∧ Below w.heap.size w w' := by
  have ck := opKeep_err n w hn
  go_enter Tryd.func40, Tryd.ntmps40
  go_wp2_with fail
  refine ck.mono ?_
  rintro e w1 ⟨rfl, rfl⟩
  go_wp2_with fail
  exact bodyPost_ret (v := .tuple #[.int .i64 0, .int .i64 2]) (by simp [results, Tryd.results40, go_sem]) rfl ⟨rfl, Below.refl _ _⟩
set_option maxRecDepth 100000 in
set_option maxHeartbeats 1000000 in
theorem fuse_err (n : Nat) (B : Option Addr) (cb : Nat) (L : List (List Sp)) (b c j : Nat) (X : List Sp) (E : Int) (w : World) (hL : Laid w) (hn : n ≤ 1048576) (hr0 : Rw (keepS n) (List.replicate n .keep) c) (hR : Kd.C kRow w B L.length L)
    (hj : L[j]? = some X) (hc : Chn n (L.take j)) (hB : Bnd (L.take j) b) (hb : 0 < j → c + j * b ≤ 262144) (hE : E ≠ 0)
    (cE : ∀ (A' C : Option Addr) (c' cx : Nat) (W : World), Laid W → Kd.C kSp W A' (ofA (fuseA n (L.take j))).length (ofA (fuseA n (L.take j))) → Kd.C kSp W C X.length X → Calls Tryd.prog 35 #[.slice A' (ofA (fuseA n (L.take j))).length c', .slice C X.length cx] W fun e w' => e = .returned (.tuple #[.slice none 0 0, .int .i64 E]) ∧ Below W.heap.size W w') :
    Calls Tryd.prog 37 #[.int .i64 n, .slice B L.length cb] w fun e w' => e = .returned (.tuple #[.slice none 0 0, .int .i64 E]) ∧ Below w.heap.size w w' := by
  have e0 := (Env.start hL).adds hR
  have ck := opKeep_ok n w hn
  have HC := Lib.hid (And.intro (And.intro hc hj) (And.intro hB (And.intro hE cE)))
  clear hR hc hB hj hE cE
  go_enter Tryd.func37, Tryd.ntmps37
  go_wp2_with fail
  refine ck.mono ?_
  rintro e w1 ⟨v, rfl, hv, hb1⟩
  obtain ⟨A1, d1, rfl, hC⟩ := gives_reads hv
  have e1 := (e0.next hb1).add hC
  have cf := fold_err A1 B d1 cb (keepS n) (List.replicate n .keep) L c b j X E w1 e1.laid hr0 (ofA_keeps n hn) (e1.row 0 rfl) (e1.rows 1 rfl) HC.out.1.2 (by rw [outA_keeps]; exact HC.out.1.1) HC.out.2.1 hb HC.out.2.2.1 HC.out.2.2.2
  clear ck hv hC hb1 e0
  go_wp2_with fail
  refine cf.mono ?_
  rintro e w2 ⟨rfl, hb2⟩
  clear cf
  have e2 := e1.next hb2
  go_wp2_with fail
  exact bodyPost_ret (v := .tuple #[.slice none 0 0, .int .i64 E]) (by simp [results, Tryd.results37, go_sem]) rfl ⟨rfl, e2.bel⟩

/-! ### Chain, of any operations -/
def nextV (n : Int) (X : List Sp) : Int × Int := if opMay X ≠ 0 then (0, opMay X) else if sumW spIn X ≠ n then (0, 5) else (sumW spOut X, 0)
def chnV : Int → List (List Sp) → Int × Int
  | n, [] => (n, 0)
  | n, X :: L => if (nextV n X).2 ≠ 0 then (0, (nextV n X).2) else chnV (nextV n X).1 L
theorem chnV_cons (n : Int) (X : List Sp) (L : List (List Sp)) : chnV n (X :: L) = if (nextV n X).2 ≠ 0 then (0, (nextV n X).2) else chnV (nextV n X).1 L := rfl
set_option maxHeartbeats 1000000 in
theorem next_calls (n : Int) (A : Option Addr) (ca : Nat) (X : List Sp) (w : World) (hL : Laid w) (hT : TextsOk X) (hA : Kd.C kSp w A X.length X) :
    Calls Tryd.prog 76 #[.int .i64 n, .slice A X.length ca] w fun e w' => e = .returned (.tuple #[.int .i64 (nextV n X).1, .int .i64 (nextV n X).2]) ∧ Below w.heap.size w w' := by
  have e0 := (Env.start hL).add hA
  have c1 := opMay_calls A ca X w hL hT hA
  have c2 := fun W hW C => opIn_calls A ca X W hW hT C
  have c3 := fun W hW C => opOut_calls A ca X W hW hT C
  unfold nextV
  generalize opMay X = E at *
  generalize sumW spIn X = u at *
  generalize sumW spOut X = v at *
  have G := Lib.hid (And.intro c2 c3)
  clear c2 c3 hA hT
  by_cases h1 : E = 0
  · subst h1
    rw [if_neg (by simp)]
    by_cases h2 : u = n
    · subst h2
      rw [if_neg (by simp)]
      go_enter Tryd.func76, Tryd.ntmps76
      have cc := c1
      go_wp2_with fail
      refine cc.mono ?_
      rintro e w1 ⟨rfl, hb⟩
      clear cc
      have e1 := e0.next hb
      clear hb e0
      have cc := G.out.1 w1 e1.laid (e1.row 0 rfl)
      go_wp2_with fail
      refine cc.mono ?_
      rintro e w2 ⟨rfl, hb⟩
      clear cc
      have e2 := e1.next hb
      clear hb e1
      have cc := G.out.2 w2 e2.laid (e2.row 0 rfl)
      go_wp2_with fail
      refine cc.mono ?_
      rintro e w3 ⟨rfl, hb⟩
      clear cc
      have e3 := e2.next hb
      clear hb e2
      go_wp2_with fail
      exact bodyPost_ret (v := .tuple #[.int .i64 v, .int .i64 0]) (by simp [results, Tryd.results76, go_sem]) rfl ⟨rfl, e3.bel⟩
    · rw [if_pos h2]
      have h2b : (u != n) = true := by simpa using h2
      clear h2
      go_enter Tryd.func76, Tryd.ntmps76
      have cc := c1
      go_wp2_with fail
      refine cc.mono ?_
      rintro e w1 ⟨rfl, hb⟩
      clear cc
      have e1 := e0.next hb
      clear hb e0
      have cc := G.out.1 w1 e1.laid (e1.row 0 rfl)
      go_wp2_with fail
      refine cc.mono ?_
      rintro e w2 ⟨rfl, hb⟩
      clear cc
      have e2 := e1.next hb
      clear hb e1
      go_wp2_with fail
      exact bodyPost_ret (v := .tuple #[.int .i64 0, .int .i64 5]) (by simp [results, Tryd.results76, go_sem]) rfl ⟨rfl, e2.bel⟩
  · rw [if_pos h1]
    have h1b : (E != 0) = true := by simpa using h1
    clear h1
    go_enter Tryd.func76, Tryd.ntmps76
    have cc := c1
    go_wp2_with fail
    refine cc.mono ?_
    rintro e w1 ⟨rfl, hb⟩
    clear cc
    have e1 := e0.next hb
    clear hb e0
    go_wp2_with fail
    exact bodyPost_ret (v := .tuple #[.int .i64 0, .int .i64 E]) (by simp [results, Tryd.results76, go_sem]) rfl ⟨rfl, e1.bel⟩
structure FoldVInv (w wr : World) (B : Option Addr) (n : Int) (L : List (List Sp)) (v i : Value) : Prop where
  out : ∃ (k : Nat) (z : Int), k ≤ L.length ∧ i = .int .i64 k ∧ v = .int .i64 z ∧ chnV n L = chnV z (L.drop k) ∧ Env w wr [.rows B L]
set_option maxRecDepth 100000 in
set_option maxHeartbeats 2000000 in
theorem foldI_calls (n : Int) (B : Option Addr) (cb : Nat) (L : List (List Sp)) (w : World) (hL : Laid w) (hR : Kd.C kRow w B L.length L) (hT : ∀ X ∈ L, TextsOk X) :
    Calls Tryd.prog 75 #[.int .i64 n, .slice B L.length cb, .func (.func 76) #[] #[]] w fun e w' => e = .returned (.tuple #[.int .i64 (chnV n L).1, .int .i64 (chnV n L).2]) ∧ Below w.heap.size w w' := by
  have e0 := (Env.start hL).adds hR
  have hl := hR.2.1
  have HT := Lib.hid hT
  clear hR hT
  go_enter Tryd.func75, Tryd.ntmps75
  go_wp2_with fail
  go_loopw [0, 15] (fun v i wr => FoldVInv w wr B n L v i) (fun _ i _ => L.length - (intOf i).toNat)
  case atStart => exact ⟨0, n, Nat.zero_le _, rfl, rfl, rfl, e0⟩
  case round =>
    rename_i wr
    obtain ⟨k, z, hk, rfl, rfl, hz, e1⟩ := hrel.out
    clear hrel e0
    by_cases hlt : k < L.length
    · obtain ⟨X, hX⟩ : ∃ X, L[k]? = some X := ⟨_, List.getElem?_eq_getElem hlt⟩
      obtain ⟨ad, C, cx, rfl, hcell, hCx⟩ := at_row (e1.rows 0 rfl) hX
      have hXe : L[k] = X := by rw [List.getElem?_eq_getElem hlt] at hX; exact Option.some.inj hX
      rw [List.drop_eq_getElem_cons hlt, hXe] at hz
      have cc := next_calls z C cx X wr e1.laid (HT.out X (List.mem_of_getElem? hX)) hCx
      rw [chnV_cons] at hz
      generalize (nextV z X).2 = E at *
      generalize (nextV z X).1 = z2 at *
      have HZ := Lib.hid hz
      clear hz hX hCx hXe
      by_cases hE : E = 0
      · subst hE
        go_wp2_with fail
        refine cc.mono ?_
        rintro e w4 ⟨rfl, hb⟩
        clear cc
        have e2 := e1.next hb
        clear hb e1
        go_wp2_with fail
        go_roundw
        case rel => exact ⟨k + 1, z2, by omega, by go_num, rfl, by rw [HZ.out, if_neg (by simp)], e2⟩
        case measure => simp [intOf]; omega
      · have hEb : (E != 0) = true := by simpa using hE
        have hr : chnV n L = (0, E) := by rw [HZ.out, if_pos hE]
        have HR := Lib.hid hr
        clear hr hE
        go_wp2_with fail
        refine cc.mono ?_
        rintro e w4 ⟨rfl, hb⟩
        clear cc
        have e2 := e1.next hb
        clear hb e1
        go_wp2_with fail
        exact bodyPost_ret (v := .tuple #[.int .i64 0, .int .i64 E]) (by simp [results, Tryd.results75, go_sem]) rfl ⟨by rw [HR.out], e2.bel⟩
    · have hkl : k = L.length := by omega
      rw [hkl, List.drop_length] at hz
      have HR : Hid (chnV n L = (z, 0)) := hz
      clear hz hkl
      go_wp2_with fail
      exact bodyPost_ret (v := .tuple #[.int .i64 z, .int .i64 0]) (by simp [results, Tryd.results75, go_sem]) rfl ⟨by rw [HR.out], e1.bel⟩
set_option maxRecDepth 100000 in
set_option maxHeartbeats 1000000 in
theorem chain_calls (n : Int) (B : Option Addr) (cb : Nat) (L : List (List Sp)) (w : World) (hL : Laid w) (h0 : 0 ≤ n) (hn : n ≤ 1048576) (hR : Kd.C kRow w B L.length L) (hT : ∀ X ∈ L, TextsOk X) :
    Calls Tryd.prog 40 #[.int .i64 n, .slice B L.length cb] w fun e w' => e = .returned (.tuple #[.int .i64 (chnV n L).1, .int .i64 (chnV n L).2]) ∧ Below w.heap.size w w' := by
  obtain ⟨m, rfl⟩ : ∃ m : Nat, n = m := ⟨n.toNat, by omega⟩
  have e0 := (Env.start hL).adds hR
  have ck := opKeep_ok m w (by omega)
  have HC := Lib.hid hT
  clear hR hT
  go_enter Tryd.func40, Tryd.ntmps40
  go_wp2_with fail
  refine ck.mono ?_
  rintro e w1 ⟨v, rfl, hv, hb1⟩
  have e1 := e0.next hb1
  have cf := foldI_calls m B cb L w1 e1.laid (e1.rows 0 rfl) HC.out
  obtain ⟨r1, r2, hr⟩ : ∃ r1 r2, chnV m L = (r1, r2) := ⟨_, _, rfl⟩
  rw [hr] at cf
  have HR := Lib.hid hr
  clear hr
  clear ck hv hb1 e0
  go_wp2_with fail
  refine cf.mono ?_
  rintro e w2 ⟨rfl, hb2⟩
  clear cf
  have e2 := e1.next hb2
  go_wp2_with fail
  exact bodyPost_ret (v := .tuple #[.int .i64 r1, .int .i64 r2]) (by simp [results, Tryd.results40, go_sem]) rfl ⟨by rw [HR.out], e2.bel⟩

end Go.Proofs.YtmfpfipjhhfbhaaDoor
