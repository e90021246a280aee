/- What one round of compose.Of does, in steps. -/
import Derived.Test.YtmfpfipjhhfbhaaDoorReader
namespace Go.Proofs.YtmfpfipjhhfbhaaDoor
open Go.RowKit Go.Lib Go.Proofs.YtmfpfipjhhfbhaaDoorW.PrintWords

/-! ### the algebra -/
theorem comp_bputs (a : List At) : ∀ (cs : List Nat) (b : List At), compA a (cs.map .put ++ b) = cs.map .put ++ compA a b
  | [], _ => rfl
  | c :: cs, b => by rw [List.map_cons, List.cons_append, comp_bput, comp_bputs a cs b]; rfl
theorem comp_adrops (b : List At) (h : NP b) : ∀ (n : Nat) (a : List At), compA (List.replicate n .drop ++ a) b = List.replicate n .drop ++ compA a b
  | 0, _ => rfl
  | n + 1, a => by rw [List.replicate_succ, List.cons_append, comp_adrop _ _ h, comp_adrops b h n a]; rfl
theorem comp_keeps : ∀ (P a b : List At), (∀ x ∈ P, Giv x) → compA (P ++ a) (List.replicate P.length .keep ++ b) = P ++ compA a b
  | [], _, _, _ => rfl
  | x :: P, a, b, h => by
    rw [List.length_cons, List.replicate_succ, List.cons_append, List.cons_append, comp_xk x (h x (by simp)), comp_keeps P a b (fun y hy => h y (by simp [hy]))]; rfl
theorem comp_kds : ∀ (n : Nat) (a b : List At), compA (List.replicate n .keep ++ a) (List.replicate n .drop ++ b) = List.replicate n .drop ++ compA a b
  | 0, _, _ => rfl
  | n + 1, a, b => by rw [List.replicate_succ, List.replicate_succ, List.cons_append, List.cons_append, comp_kd, comp_kds n a b]; rfl
theorem comp_pds : ∀ (cs : List Nat) (a b : List At), compA (cs.map .put ++ a) (List.replicate cs.length .drop ++ b) = compA a b
  | [], _, _ => rfl
  | c :: cs, a, b => by rw [List.map_cons, List.length_cons, List.replicate_succ, List.cons_append, List.cons_append, comp_pd, comp_pds cs a b]

/-! ### a reader -/
/-- What is left of a reader, in steps. -/
def remA : List Sp → List Nat → List At
  | [], _ => []
  | s :: X, t => (if s.k = 2 then t.map .put else spAtoms s) ++ atoms X
def TxOk : List Sp → List Nat → Prop
  | [], t => t = []
  | s :: _, t => if s.k = 2 then t ≠ [] ∧ ∀ c ∈ t, goodC c else t = []
structure RdOk (X : List Sp) (t : List Nat) : Prop where
  els : Els X
  tx : TxOk X t
  few : bytesL X ≤ 1048576
  len : t.length ≤ 1048576
theorem El.txt {s : Sp} (h : El s) : txtOk s.t = true := by
  rcases h with ⟨_, _, ht⟩ | ⟨_, _, c, cs, hg, ht⟩
  · rw [ht]; rfl
  · rw [ht]; exact validD_encB _ hg
theorem first_ok {X : List Sp} (h : Els X) (hb : bytesL X ≤ 1048576) : RdOk X (firstT X) ∧ remA X (firstT X) = atoms X := by
  cases X with
  | nil => exact ⟨⟨h, rfl, hb, by simp [firstT]⟩, rfl⟩
  | cons s X =>
    have hs := h.el s (by simp)
    have hl := (cps_length_le s.t hs.txt).1
    rw [bytesL_cons] at hb
    refine ⟨⟨h, ?_, by rw [bytesL_cons]; exact hb, by show (cps s.t).length ≤ _; omega⟩, ?_⟩
    · show if s.k = 2 then _ else _
      rcases el_kinds hs with ⟨hk, _, c, cs, hg, ht, _⟩ | ⟨hk, ht, _⟩
      · rw [if_pos hk]
        show cps s.t ≠ [] ∧ ∀ c ∈ cps s.t, goodC c
        rw [ht, cps_enc _ hg]
        exact ⟨by simp, hg⟩
      · rw [if_neg (by omega)]
        show cps s.t = []
        rw [ht]; exact cps_nil
    · show (if s.k = 2 then (cps s.t).map At.put else spAtoms s) ++ atoms X = _
      rw [atoms_cons]
      congr 1
      by_cases hk : s.k = 2
      · rw [if_pos hk]; simp [spAtoms, hk]
      · rw [if_neg hk]
/-- How many code points are left of the first span. -/
def szR (s : Sp) (t : List Nat) : Int := s.n + t.length
def takeS (s : Sp) (t : List Nat) (n : Nat) : Sp := if s.k = 2 then ⟨2, 0, encB (t.take n)⟩ else ⟨s.k, n, ⟨#[]⟩⟩
def takeX (s : Sp) (X : List Sp) (t : List Nat) (n : Nat) : List Sp := if (n : Int) = szR s t then X else if s.k = 2 then s :: X else ⟨s.k, s.n - n, s.t⟩ :: X
def takeT (s : Sp) (X : List Sp) (t : List Nat) (n : Nat) : List Nat := if (n : Int) = szR s t then firstT X else t.drop n
theorem RdOk.num {s : Sp} {X : List Sp} {t : List Nat} (h : RdOk (s :: X) t) (hk : s.k ≠ 2) : t = [] ∧ (s.k = 1 ∨ s.k = 3) ∧ ∃ m : Nat, 0 < m ∧ s.n = m ∧ m ≤ 1048576 ∧ szR s t = m := by
  have ht : t = [] := by have h1 : (if s.k = 2 then t ≠ [] ∧ ∀ c ∈ t, goodC c else t = []) := h.tx; rwa [if_neg hk] at h1
  obtain ⟨h1, m, h2, h3⟩ := both_kinds (h.els.el s (by simp)) hk
  have := both_small h.els hk
  exact ⟨ht, h1, m, h2, h3, by omega, by rw [ht]; simp [szR, h3]⟩
theorem RdOk.put {s : Sp} {X : List Sp} {t : List Nat} (h : RdOk (s :: X) t) (hk : s.k = 2) : s.n = 0 ∧ t ≠ [] ∧ (∀ c ∈ t, goodC c) ∧ szR s t = t.length := by
  have ht : t ≠ [] ∧ ∀ c ∈ t, goodC c := by have h1 : (if s.k = 2 then t ≠ [] ∧ ∀ c ∈ t, goodC c else t = []) := h.tx; rwa [if_pos hk] at h1
  have hn : s.n = 0 := by
    rcases el_kinds (h.els.el s (by simp)) with ⟨_, h0, _⟩ | ⟨hk2, _⟩
    · exact h0
    · omega
  exact ⟨hn, ht.1, ht.2, by simp [szR, hn]⟩
theorem RdOk.pos {s : Sp} {X : List Sp} {t : List Nat} (h : RdOk (s :: X) t) : ∃ m : Nat, 0 < m ∧ m ≤ 1048576 ∧ szR s t = m := by
  by_cases hk : s.k = 2
  · obtain ⟨_, h1, _, h2⟩ := h.put hk
    exact ⟨t.length, List.length_pos_iff.2 h1, h.len, h2⟩
  · obtain ⟨_, _, m, h1, _, h2, h3⟩ := h.num hk
    exact ⟨m, h1, h2, h3⟩
theorem RdOk.tail {s : Sp} {X : List Sp} {t : List Nat} (h : RdOk (s :: X) t) : RdOk X (firstT X) ∧ remA X (firstT X) = atoms X := first_ok h.els.tail (by have := h.few; rw [bytesL_cons] at this; omega)
/-- What is taken, and what is left. -/
theorem take_rem {s : Sp} {X : List Sp} {t : List Nat} (h : RdOk (s :: X) t) (n : Nat) (h0 : 0 < n) (h1 : (n : Int) ≤ szR s t) :
    RdOk (takeX s X t n) (takeT s X t n) ∧ spMay (takeS s t n) = 0 ∧ remA (s :: X) t = spAtoms (takeS s t n) ++ remA (takeX s X t n) (takeT s X t n) ∧ (takeX s X t n).length ≤ X.length + 1 ∧
      (s.k = 2 → (∀ c ∈ t.take n, goodC c) ∧ (t.take n).length = n ∧ spAtoms (takeS s t n) = (t.take n).map .put) ∧ (s.k = 1 → spAtoms (takeS s t n) = List.replicate n .keep) ∧ (s.k = 3 → spAtoms (takeS s t n) = List.replicate n .drop) := by
  by_cases hk : s.k = 2
  · obtain ⟨hn0, ht, hg, hz⟩ := h.put hk
    have hnl : n ≤ t.length := by omega
    have hgt : ∀ c ∈ t.take n, goodC c := fun c hc => hg c (List.mem_of_mem_take hc)
    have hS : takeS s t n = ⟨2, 0, encB (t.take n)⟩ := if_pos hk
    have hA : spAtoms (takeS s t n) = (t.take n).map .put := by rw [hS]; simp [spAtoms, cps_enc _ hgt]
    refine ⟨?_, by rw [hS]; exact may_put (validD_encB _ hgt), ?_, ?_, fun _ => ⟨hgt, by simp; omega, hA⟩, fun e => by omega, fun e => by omega⟩
    · unfold takeX takeT
      by_cases he : (n : Int) = szR s t
      · rw [if_pos he, if_pos he]; exact h.tail.1
      · rw [if_neg he, if_neg he, if_pos hk]
        refine ⟨h.els, ?_, h.few, by have := h.len; simp; omega⟩
        show if s.k = 2 then _ else _
        rw [if_pos hk]
        exact ⟨by simp; omega, fun c hc => hg c (List.mem_of_mem_drop hc)⟩
    · rw [hA]
      unfold takeX takeT
      by_cases he : (n : Int) = szR s t
      · rw [if_pos he, if_pos he, h.tail.2]
        have hnt : n = t.length := by omega
        rw [hnt, List.take_length]
        show (if s.k = 2 then _ else _) ++ _ = _
        rw [if_pos hk]
      · rw [if_neg he, if_neg he, if_pos hk]
        show (if s.k = 2 then _ else _) ++ _ = _ ++ ((if s.k = 2 then _ else _) ++ _)
        rw [if_pos hk, if_pos hk, ← List.append_assoc, ← List.map_append, List.take_append_drop]
    · unfold takeX
      split
      · omega
      · simp
  · obtain ⟨ht, hk2, m, hm0, hm, hm1, hz⟩ := h.num hk
    have hS : takeS s t n = ⟨s.k, n, ⟨#[]⟩⟩ := if_neg hk
    have hT : takeT s X t n = if (n : Int) = szR s t then firstT X else [] := by unfold takeT; rw [ht, List.drop_nil]
    have hA1 : s.k = 1 → spAtoms (takeS s t n) = List.replicate n .keep := fun e => by rw [hS]; simp [spAtoms, e]
    have hA3 : s.k = 3 → spAtoms (takeS s t n) = List.replicate n .drop := fun e => by rw [hS]; simp [spAtoms, e]
    have hs : spAtoms s = List.replicate m (if s.k = 1 then .keep else .drop) := by
      rcases hk2 with e | e <;> simp [spAtoms, e, hm]
    have hAs : spAtoms (takeS s t n) = List.replicate n (if s.k = 1 then .keep else .drop) := by
      rcases hk2 with e | e
      · rw [hA1 e, if_pos e]
      · rw [hA3 e, if_neg (by omega)]
    have hne := fun (he : ¬ (n : Int) = szR s t) => rest_atoms (X := X) (h.els.el s (by simp)) hk n (by omega)
    refine ⟨?_, by rw [hS]; exact may_keep hk2 (by omega), ?_, ?_, fun e => absurd e hk, hA1, hA3⟩
    · rw [hT]
      unfold takeX
      by_cases he : (n : Int) = szR s t
      · rw [if_pos he, if_pos he]; exact h.tail.1
      · rw [if_neg he, if_neg he, if_neg hk]
        have hr := rest_els (n := n) h.els hk (by omega)
        unfold rest at hr
        rw [if_neg (by omega)] at hr
        refine ⟨hr, ?_, by have := h.few; rw [bytesL_cons] at this ⊢; exact this, by simp⟩
        show if s.k = 2 then _ else _
        rw [if_neg hk]
    · rw [hAs, hT]
      unfold takeX
      show (if s.k = 2 then _ else _) ++ _ = _
      rw [if_neg hk, hs]
      by_cases he : (n : Int) = szR s t
      · rw [if_pos he, if_pos he, h.tail.2]
        have : n = m := by omega
        rw [this]
      · rw [if_neg he, if_neg he, if_neg hk]
        show _ = _ ++ ((if s.k = 2 then _ else _) ++ _)
        rw [if_neg hk, ← List.append_assoc]
        congr 1
        have e2 : spAtoms ⟨s.k, s.n - n, s.t⟩ = List.replicate (m - n) (if s.k = 1 then .keep else .drop) := by
          rcases hk2 with e | e
          · simp [spAtoms, e, hm]
          · simp [spAtoms, e, hm]
        rw [e2, List.replicate_append_replicate]
        congr 1
        omega
    · unfold takeX
      split
      · omega
      · simp

theorem Els.texts {X : List Sp} (h : Els X) (hb : bytesL X ≤ 1048576) : ∀ s ∈ X, s.t.size ≤ 1048576 ∧ txtOk s.t = true := fun s hs => ⟨Nat.le_trans (bytes_le hs) hb, (h.el s hs).txt⟩
theorem takeR_calls (p g : Nat) (s : Sp) (X : List Sp) (t : List Nat) (n : Nat) (w : World) (h : Rdr w p g (s :: X) t) (hO : RdOk (s :: X) t) (h0 : 0 < n) (h1 : (n : Int) ≤ szR s t) :
    Calls Tryd.prog 70 #[.pointer (some ⟨p, 0, none⟩), .int .i64 n] w (TakePost p g (takeS s t n) (takeX s X t n) (takeT s X t n) w) := by
  have hTx := hO.els.tail.texts (by have := hO.few; rw [bytesL_cons] at this; omega)
  by_cases hk : s.k = 2
  · obtain ⟨hn0, ht, hg, hz⟩ := hO.put hk
    unfold takeS takeX takeT
    rw [if_pos hk]
    by_cases he : (n : Int) = szR s t
    · rw [if_pos he, if_pos he]
      exact take_put_all p g s X t n w h hk hn0 h0 (by omega) hO.len hg hTx
    · rw [if_neg he, if_neg he, if_pos hk]
      exact take_put_part p g s X t n w h hk hn0 h0 (by omega) hO.len hg
  · obtain ⟨ht, hk2, m, hm0, hm, hm1, hz⟩ := hO.num hk
    subst ht
    unfold takeS takeX takeT
    rw [if_neg hk]
    by_cases he : (n : Int) = szR s []
    · rw [if_pos he, if_pos he]
      exact take_num_all p g s X n w h hk (by omega) (by omega) hTx
    · rw [if_neg he, if_neg he, if_neg hk, List.drop_nil]
      exact take_num_part p g s X n w h hk (by omega) (by omega)
theorem sizeR_calls (p g : Nat) (s : Sp) (X : List Sp) (t : List Nat) (w : World) (h : Rdr w p g (s :: X) t) (hO : RdOk (s :: X) t) :
    Calls Tryd.prog 71 #[.pointer (some ⟨p, 0, none⟩)] w fun e w' => e = .returned (.int .i64 (szR s t)) ∧ Below w.heap.size w w' := by
  have hn : 0 ≤ s.n ∧ s.n ≤ 1048576 := by
    by_cases hk : s.k = 2
    · have := (hO.put hk).1; omega
    · obtain ⟨_, _, m, h1, h2, h3, _⟩ := hO.num hk; omega
  exact rsize_calls p g s X t w h hn.1 hn.2 hO.len

/-! ### the round, in steps -/
structure CompSt (X Y : List Sp) (tx ty : List Nat) (out : List Sp) (R : List At) : Prop where
  ox : RdOk X tx
  oy : RdOk Y ty
  io : outA (remA X tx) = inA (remA Y ty)
  vo : Valid out
  at_ : atoms out ++ compA (remA X tx) (remA Y ty) = R
theorem rem_np {s : Sp} {X : List Sp} {t : List Nat} (h : RdOk (s :: X) t) (hk : s.k ≠ 2) : NP (remA (s :: X) t) := by
  show NP ((if s.k = 2 then _ else _) ++ _)
  rw [if_neg hk]
  have := np_atoms (h.els.el s (by simp)) hk (X := X)
  rwa [atoms_cons] at this
theorem outA_puts' (cs : List Nat) (l : List At) : outA (cs.map .put ++ l) = cs.length + outA l := by rw [outA_append, outA_puts]
/-- y puts: it is put at once. -/
theorem comp_s1 {s : Sp} {X Y : List Sp} {tx ty : List Nat} {out : List Sp} {R : List At} (h : CompSt X (s :: Y) tx ty out R) (hk : s.k = 2) (n : Nat) (h0 : 0 < n) (h1 : (n : Int) = szR s ty) :
    CompSt X (takeX s Y ty n) tx (takeT s Y ty n) (out ++ [takeS s ty n]) R := by
  obtain ⟨a1, a2, a3, _, a4, _, _⟩ := take_rem h.oy n h0 (by omega)
  obtain ⟨_, _, a5⟩ := a4 hk
  have hio := h.io
  have hat := h.at_
  rw [a3, a5] at hio hat
  rw [inA_puts'] at hio
  rw [comp_bputs] at hat
  exact ⟨h.ox, a1, hio, valid_snoc h.vo a2, by rw [atoms_append, atoms_one, a5, List.append_assoc]; exact hat⟩
/-- x drops: it is dropped. -/
theorem comp_s2 {s : Sp} {X Y : List Sp} {tx ty : List Nat} {out : List Sp} {R : List At} (h : CompSt (s :: X) Y tx ty out R) (hn : NP (remA Y ty)) (hk : s.k = 3) (n : Nat) (h0 : 0 < n) (h1 : (n : Int) = szR s tx) :
    CompSt (takeX s X tx n) Y (takeT s X tx n) ty (out ++ [takeS s tx n]) R := by
  obtain ⟨a1, a2, a3, _, _, _, a4⟩ := take_rem h.ox n h0 (by omega)
  have a5 := a4 hk
  have hio := h.io
  have hat := h.at_
  rw [a3, a5] at hio hat
  rw [outA_append, outA_drops, Nat.zero_add] at hio
  rw [comp_adrops _ hn] at hat
  exact ⟨a1, h.oy, hio, valid_snoc h.vo a2, by rw [atoms_append, atoms_one, a5, List.append_assoc]; exact hat⟩
/-- What both come to. -/
def compP (s t : Sp) (tx ty : List Nat) (n : Nat) : List Sp := if t.k = 1 then [takeS s tx n] else if s.k = 1 then [takeS t ty n] else []
theorem comp_s3 {s t : Sp} {X Y : List Sp} {tx ty : List Nat} {out : List Sp} {R : List At} (h : CompSt (s :: X) (t :: Y) tx ty out R) (hs : s.k ≠ 3) (ht : t.k ≠ 2) (n : Nat) (h0 : 0 < n) (h1 : (n : Int) ≤ szR s tx) (h2 : (n : Int) ≤ szR t ty) :
    CompSt (takeX s X tx n) (takeX t Y ty n) (takeT s X tx n) (takeT t Y ty n) (out ++ compP s t tx ty n) R := by
  obtain ⟨a1, a2, a3, _, a4, a5, _⟩ := take_rem h.ox n h0 h1
  obtain ⟨b1, b2, b3, _, _, b5, b6⟩ := take_rem h.oy n h0 h2
  have hio := h.io
  have hat := h.at_
  rw [a3, b3] at hio hat
  rw [outA_append, inA_append] at hio
  have hsk : s.k = 1 ∨ s.k = 2 := by
    by_cases hk : s.k = 2
    · exact .inr hk
    · rcases (h.ox.num hk).2.1 with e | e
      · exact .inl e
      · exact absurd e hs
  have htk := (h.oy.num ht).2.1
  have ha : outA (spAtoms (takeS s tx n)) = n ∧ (spAtoms (takeS s tx n)).length = n ∧ ∀ x ∈ spAtoms (takeS s tx n), Giv x := by
    rcases hsk with e | e
    · rw [a5 e]; exact ⟨outA_keeps n, by simp, fun x hx => by rw [List.eq_of_mem_replicate hx]; trivial⟩
    · obtain ⟨_, c1, c2⟩ := a4 e
      rw [c2]
      exact ⟨by rw [outA_puts, c1], by rw [List.length_map, c1], fun x hx => by obtain ⟨c, _, rfl⟩ := List.mem_map.1 hx; trivial⟩
  have hb : inA (spAtoms (takeS t ty n)) = n := by
    rcases htk with e | e
    · rw [b5 e]; exact inA_keeps n
    · rw [b6 e]; exact inA_drops n
  have hio2 : outA (remA (takeX s X tx n) (takeT s X tx n)) = inA (remA (takeX t Y ty n) (takeT t Y ty n)) := by omega
  unfold compP
  rcases htk with e | e
  · rw [if_pos e]
    rw [b5 e] at hat
    have := comp_keeps (spAtoms (takeS s tx n)) (remA (takeX s X tx n) (takeT s X tx n)) (remA (takeX t Y ty n) (takeT t Y ty n)) ha.2.2
    rw [ha.2.1] at this
    rw [this] at hat
    exact ⟨a1, b1, hio2, valid_snoc h.vo a2, by rw [atoms_append, atoms_one, List.append_assoc]; exact hat⟩
  · rw [if_neg (by omega)]
    rcases hsk with f | f
    · rw [if_pos f]
      rw [b6 e, a5 f, comp_kds] at hat
      exact ⟨a1, b1, hio2, valid_snoc h.vo b2, by rw [atoms_append, atoms_one, b6 e, List.append_assoc]; exact hat⟩
    · rw [if_neg (by omega)]
      obtain ⟨_, c1, c2⟩ := a4 f
      rw [b6 e, c2] at hat
      have := comp_pds (tx.take n) (remA (takeX s X tx n) (takeT s X tx n)) (remA (takeX t Y ty n) (takeT t Y ty n))
      rw [c1] at this
      rw [this] at hat
      exact ⟨a1, b1, hio2, by simpa using h.vo, by simpa using hat⟩
/-- The ends. -/
theorem comp_end1 {Y : List Sp} {ty : List Nat} {out : List Sp} {R : List At} (h : CompSt [] Y [] ty out R) (hn : ∀ s Z, Y = s :: Z → s.k ≠ 2) : Y = [] ∧ atoms out = R := by
  cases Y with
  | nil =>
    have hat := h.at_
    rw [show remA [] [] = [] from rfl, show remA [] ty = [] from rfl, comp_nn, List.append_nil] at hat
    exact ⟨rfl, hat⟩
  | cons s Y =>
    exfalso
    have hk := hn s Y rfl
    obtain ⟨m, h0, _, hz⟩ := h.oy.pos
    obtain ⟨_, _, a3, _, _, a5, a6⟩ := take_rem h.oy m h0 (by omega)
    have hio := h.io
    rw [a3, inA_append] at hio
    have : inA (spAtoms (takeS s ty m)) = m := by
      rcases (h.oy.num hk).2.1 with e | e
      · rw [a5 e]; exact inA_keeps m
      · rw [a6 e]; exact inA_drops m
    rw [show outA (remA [] []) = 0 from rfl] at hio
    omega
theorem comp_end2 {s : Sp} {X : List Sp} {tx ty : List Nat} {out : List Sp} {R : List At} (h : CompSt (s :: X) [] tx ty out R) (hk : s.k ≠ 3) : False := by
  obtain ⟨m, h0, _, hz⟩ := h.ox.pos
  obtain ⟨_, _, a3, _, a4, a5, _⟩ := take_rem h.ox m h0 (by omega)
  have hio := h.io
  rw [a3, outA_append] at hio
  have : outA (spAtoms (takeS s tx m)) = m := by
    by_cases h2 : s.k = 2
    · obtain ⟨_, c1, c2⟩ := a4 h2
      rw [c2, outA_puts, c1]
    · rcases (h.ox.num h2).2.1 with e | e
      · rw [a5 e]; exact outA_keeps m
      · exact absurd e hk
  rw [show inA (remA [] ty) = 0 from rfl] at hio
  omega

theorem comp_len : ∀ (n : Nat) (a b : List At), a.length + b.length ≤ n → (compA a b).length ≤ a.length + b.length
  | 0, a, b, h => by
    obtain rfl : a = [] := List.eq_nil_of_length_eq_zero (by omega)
    obtain rfl : b = [] := List.eq_nil_of_length_eq_zero (by omega)
    rw [comp_nn]; exact Nat.zero_le _
  | n + 1, a, b, h => by
    rw [compA.eq_def]
    split
    · rename_i c b
      have := comp_len n a b (by simp at h; omega)
      simp; omega
    · rename_i a _
      have := comp_len n a b (by simp at h; omega)
      simp; omega
    · rename_i x a b _
      have := comp_len n a b (by simp at h; omega)
      simp; omega
    · rename_i a b
      have := comp_len n a b (by simp at h; omega)
      simp; omega
    · rename_i c a b
      have := comp_len n a b (by simp at h; omega)
      simp; omega
    · exact Nat.zero_le _
theorem comp_good : ∀ (n : Nat) (a b : List At), a.length + b.length ≤ n → GoodAs a → GoodAs b → GoodAs (compA a b)
  | 0, a, b, h, _, _ => by
    obtain rfl : a = [] := List.eq_nil_of_length_eq_zero (by omega)
    obtain rfl : b = [] := List.eq_nil_of_length_eq_zero (by omega)
    rw [comp_nn]; intro x hx; cases hx
  | n + 1, a, b, h, ha, hb => by
    have tl : ∀ {x : At} {l : List At}, GoodAs (x :: l) → GoodAt x ∧ GoodAs l := fun h => ⟨h _ (by simp), fun y hy => h y (by simp [hy])⟩
    have cn : ∀ {x : At} {l : List At}, GoodAt x → GoodAs l → GoodAs (x :: l) := fun h1 h2 y hy => by
      rcases List.mem_cons.1 hy with rfl | e
      · exact h1
      · exact h2 y e
    rw [compA.eq_def]
    split
    · rename_i c b
      exact cn (tl hb).1 (comp_good n a b (by simp at h; omega) ha (tl hb).2)
    · rename_i a _
      exact cn trivial (comp_good n a b (by simp at h; omega) (tl ha).2 hb)
    · rename_i x a b _
      exact cn (tl ha).1 (comp_good n a b (by simp at h; omega) (tl ha).2 (tl hb).2)
    · rename_i a b
      exact cn trivial (comp_good n a b (by simp at h; omega) (tl ha).2 (tl hb).2)
    · rename_i c a b
      exact comp_good n a b (by simp at h; omega) (tl ha).2 (tl hb).2
    · intro x hx; cases hx
theorem valid_bytes : ∀ {xs : List Sp}, Valid xs → bytesL xs ≤ 4 * (atoms xs).length
  | [], _ => Nat.le_refl _
  | s :: xs, h => by
    have ih := valid_bytes (xs := xs) (fun x hx => h x (by simp [hx]))
    rw [bytesL_cons, atoms_cons, List.length_append]
    have : s.t.size ≤ 4 * (spAtoms s).length := by
      rcases may_cases (h s (by simp)) with ⟨_, _, ht⟩ | ⟨hk, _, ht⟩
      · rw [ht]; exact Nat.zero_le _
      · have := (cps_length_le s.t ht).2
        simp [spAtoms, hk]; exact this
    omega

end Go.Proofs.YtmfpfipjhhfbhaaDoor
