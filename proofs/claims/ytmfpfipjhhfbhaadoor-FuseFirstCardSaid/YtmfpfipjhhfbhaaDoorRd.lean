/- A row of the call's own that is read from its begin on, and shortened there: 'l = l[1:]', 'l[0].N -= n'. -/
import Derived.Test.YtmfpfipjhhfbhaaDoorNormal
namespace Go.Proofs.YtmfpfipjhhfbhaaDoor
open Go.RowKit Go.Proofs.YtmfpfipjhhfbhaaDoorW.PrintWords

/-- v is a slice at block g, and what is left of it are the spans X. -/
structure Rd (w : World) (v : Value) (g : Nat) (X : List Sp) : Prop where
  out : ∃ ys o A c, v = .slice A X.length c ∧ X.length ≤ c ∧ c ≤ 4398046511104 ∧ RowAt w g ys ∧ (∀ j s, X[j]? = some s → ys[o + j]? = some s) ∧ (0 < X.length → A = some ⟨g, o * 3, none⟩)
theorem Rd.move {w w1 : World} {v : Value} {g : Nat} {X : List Sp} (h : Rd w v g X) (hm : w1.heap[g]? = w.heap[g]?) : Rd w1 v g X := by
  obtain ⟨ys, o, A, c, h1, h2, h3, h4, h5, h6⟩ := h.out
  exact ⟨ys, o, A, c, h1, h2, h3, h4.move hm, h5, h6⟩
theorem Rd.lt {w : World} {v : Value} {g : Nat} {X : List Sp} (h : Rd w v g X) : g < w.heap.size := by
  obtain ⟨ys, o, A, c, h1, h2, h3, h4, h5, h6⟩ := h.out
  exact h4.lt
theorem Rd.far {w : World} {v : Value} {g : Nat} {X : List Sp} (h : Rd w v g X) {p : Addr} (hp : g ≠ p.block) (u : Value) : Rd (w.setCell p u) v g X := h.move (Below.heap_setCell _ _ _ _ hp)
theorem Rd.alloc {w : World} {v : Value} {g : Nat} {X : List Sp} (h : Rd w v g X) (o : Obj) : Rd (w.alloc o) v g X := h.move (heap_alloc_old w o h.lt)
theorem Rd.drewN {w : World} {v : Value} {g : Nat} {X : List Sp} (h : Rd w v g X) (n : Nat) : Rd (w.drewN n) v g X := h.move rfl
theorem Rd.drew {w : World} {v : Value} {g : Nat} {X : List Sp} (h : Rd w v g X) : Rd w.drew v g X := h.move rfl
theorem Rd.below {w w1 : World} {v : Value} {g : Nat} {X : List Sp} (h : Rd w v g X) {B : Nat} (hb : Below B w w1) (hg : g < B) : Rd w1 v g X := h.move (hb.block g hg)
theorem Rd.grown {w w1 : World} {v : Value} {g : Nat} {X : List Sp} (h : Rd w v g X) {row : Option Nat} (hg : w.grownBy w1 row) (hne : some g ≠ row) : Rd w1 v g X := h.move (hg.block g h.lt hne)
/-- What normal.Of leaves. -/
theorem Rd.of_norm {w w' : World} {xs : List Sp} {e : Ending} (h : NormPost xs w e w') (hm : xs.length ≤ 4398046511104) : ∃ v, e = .returned v ∧ Rd w' v w.heap.size (normS xs) ∧ Below w.heap.size w w' := by
  obtain ⟨h1, ⟨ys, h2, h3, h4⟩, h5⟩ := h
  have hle := normS_length_le xs
  refine ⟨_, h1, ⟨ys, 0, _, xs.length, rfl, hle, hm, h2, fun j s hj => ?_, fun _ => rfl⟩, h5⟩
  rw [Nat.zero_add]
  rw [← h4, List.getElem?_take] at hj
  split at hj
  · exact hj
  · cases hj
theorem Rd.nil_form {w : World} {v : Value} {g : Nat} (h : Rd w v g []) : ∃ A c, v = .slice A 0 c := by
  obtain ⟨ys, o, A, c, h1, h2, h3, h4, h5, h6⟩ := h.out
  exact ⟨A, c, h1⟩
theorem Rd.form {w : World} {v : Value} {g : Nat} {X : List Sp} (h : Rd w v g X) : ∃ A c, v = .slice A X.length c ∧ X.length ≤ 4398046511104 := by
  obtain ⟨ys, o, A, c, h1, h2, h3, h4, h5, h6⟩ := h.out
  exact ⟨A, c, h1, by omega⟩
theorem Rd.formN {w : World} {v : Value} {g : Nat} {X : List Sp} (h : Rd w v g X) : ∃ (A : Option Addr) (c n : Nat), v = .slice A n c ∧ n ≤ 4398046511104 ∧ Hid (n = X.length) := by
  obtain ⟨A, c, h1, h2⟩ := h.form
  exact ⟨A, c, _, h1, h2, rfl⟩
/-- The first span's cells; and what 'l[1:]' is. -/
theorem Rd.head {w : World} {v : Value} {g : Nat} {s : Sp} {X : List Sp} (h : Rd w v g (s :: X)) : ∃ o c, v = .slice (some ⟨g, o * 3, none⟩) (X.length + 1) c ∧ X.length + 1 ≤ c ∧ c ≤ 4398046511104 ∧
    w.cell? ⟨g, o * 3, none⟩ = some (.int .i64 s.k) ∧ w.cell? ⟨g, o * 3 + 1, none⟩ = some (.int .i64 s.n) ∧ w.cell? ⟨g, o * 3 + 2, none⟩ = some (.string s.t) ∧ w.frozen? ⟨g, o * 3 + 1, none⟩ = false ∧
    (∀ (A : Option Addr), (0 < X.length → A = some ⟨g, (o + 1) * 3, none⟩) → Rd w (.slice A X.length (c - 1)) g X) ∧
    (∀ n : Int, Rd (w.setCell ⟨g, o * 3 + 1, none⟩ (.int .i64 n)) v g (⟨s.k, n, s.t⟩ :: X)) ∧
    (∀ (n : Int) (A : Option Addr), (0 < X.length → A = some ⟨g, (o + 1) * 3, none⟩) → Rd (w.setCell ⟨g, o * 3 + 1, none⟩ (.int .i64 n)) (.slice A X.length (c - 1)) g X) := by
  obtain ⟨ys, o, A, c, h1, h2, h3, h4, h5, h6⟩ := h.out
  have h0 : ys[o]? = some s := by have := h5 0 s rfl; rwa [Nat.add_zero] at this
  have hol := (List.getElem?_eq_some_iff.1 h0).1
  obtain ⟨c0, c1, c2⟩ := h4.cell h0
  have hA := h6 (by simp)
  simp only [List.length_cons] at h1 h2
  refine ⟨o, c, by rw [h1, hA], h2, h3, c0, c1, c2, h4.frozen _, fun A' hA' => ⟨ys, o + 1, A', c - 1, rfl, by omega, by omega, h4, fun j x hj => ?_, hA'⟩, fun n => ⟨_, o, A, c, by rw [h1]; rfl, by simpa using h2, h3, h4.set_n h0 n, fun j x hj => ?_, fun _ => hA⟩, fun n A' hA' => ⟨_, o + 1, A', c - 1, rfl, by omega, by omega, h4.set_n h0 n, fun j x hj => ?_, hA'⟩⟩
  · have := h5 (j + 1) x (by simpa using hj)
    rwa [show o + (j + 1) = o + 1 + j by omega] at this
  · cases j with
    | zero => simp at hj; subst hj; simp [hol]
    | succ j =>
      rw [List.getElem?_set_ne (by omega)]
      exact h5 (j + 1) x (by simpa using hj)
  · have := h5 (j + 1) x (by simpa using hj)
    rw [show o + (j + 1) = o + 1 + j by omega] at this
    rw [List.getElem?_set_ne (by omega)]
    exact this

theorem Rd.cellsAt {w : World} {g o c : Nat} {s : Sp} {X : List Sp} (h : Rd w (.slice (some ⟨g, o * 3, none⟩) (X.length + 1) c) g (s :: X)) : w.cell? ⟨g, o * 3, none⟩ = some (.int .i64 s.k) ∧ w.cell? ⟨g, o * 3 + 1, none⟩ = some (.int .i64 s.n) ∧ w.cell? ⟨g, o * 3 + 2, none⟩ = some (.string s.t) := by
  obtain ⟨o', c', he, _, _, h0, h1, h2, _⟩ := h.head
  simp at he
  obtain ⟨he, rfl⟩ := he
  rw [he]
  exact ⟨h0, h1, h2⟩
theorem Rd.tailAt {w : World} {g o c : Nat} {s : Sp} {X : List Sp} (h : Rd w (.slice (some ⟨g, o * 3, none⟩) (X.length + 1) c) g (s :: X)) {A : Option Addr} (hA : 0 < X.length → A = some ⟨g, (o + 1) * 3, none⟩) : Rd w (.slice A X.length (c - 1)) g X := by
  obtain ⟨o', c', he, _, _, _, _, _, _, ht, _⟩ := h.head
  simp at he
  obtain ⟨he, rfl⟩ := he
  refine ht A (fun h => ?_)
  rw [hA h]
  simp only [Option.some.injEq, Addr.mk.injEq, and_true, true_and]
  omega
/-- What over.less leaves. -/
def LessPost (s : Sp) (X : List Sp) (n : Int) (g : Nat) (w : World) (e : Ending) (w' : World) : Prop :=
  ∃ v, e = .returned v ∧ Rd w' v g (if s.n - n = 0 then X else ⟨s.k, s.n - n, s.t⟩ :: X) ∧ w.grownBy w' (some g)
set_option maxHeartbeats 1000000 in
theorem less_calls (v : Value) (g : Nat) (s : Sp) (X : List Sp) (n : Int) (w : World) (h : Rd w v g (s :: X)) (h0 : 0 ≤ n) (h1 : n ≤ s.n) (h2 : s.n ≤ 1048576) :
    Calls Tryd.prog 52 #[v, .int .i64 n] w (LessPost s X n g w) := by
  obtain ⟨o, c, rfl, hc1, hc2, c0, c1, c2, f1, htail, hset, hst⟩ := h.head
  obtain ⟨k, sn, t⟩ := s
  have Ht := Lib.hid htail
  have Hs := Lib.hid (hset (sn - n))
  have Hst := Lib.hid (hst (sn - n))
  clear h htail hset hst
  simp only at c0 c1 c2 h1 h2
  by_cases hn : sn - n = 0
  · have hn' : (sn - n == 0) = true := by simpa using hn
    have hnh := Lib.hid hn
    clear hn
    by_cases hc : c = 1
    · subst hc
      obtain rfl : X = [] := List.eq_nil_of_length_eq_zero (by omega)
      go_enter Tryd.func52, Tryd.ntmps52
      go_wp2
      go_ret
      refine ⟨_, rfl, ?_, gb_set (World.grownBy.refl _ _) _ _⟩
      rw [if_pos hnh.out]
      exact Hst.out _ (fun h => by simp at h)
    · go_enter Tryd.func52, Tryd.ntmps52
      go_wp2
      go_ret
      refine ⟨_, rfl, ?_, gb_set (World.grownBy.refl _ _) _ _⟩
      rw [if_pos hnh.out]
      exact Hst.out _ (fun h => by rw [Nat.add_mul])
  · have hn' : (sn - n == 0) = false := by simpa using hn
    have hnh := Lib.hid hn
    clear hn
    go_enter Tryd.func52, Tryd.ntmps52
    go_wp2
    go_ret
    refine ⟨_, rfl, ?_, ?_⟩
    · rw [if_neg hnh.out]; exact Hs.out
    · exact gb_set (World.grownBy.refl _ _) _ _

end Go.Proofs.YtmfpfipjhhfbhaaDoor
