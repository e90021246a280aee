/- compose's reader: what it holds, and the contracts of load, kind, size and newReader. -/
import Derived.Test.YtmfpfipjhhfbhaaDoorRune
import Derived.Test.YtmfpfipjhhfbhaaDoorOver
import Derived.Test.YtmfpfipjhhfbhaaDoorOverOk
namespace Go.Proofs.YtmfpfipjhhfbhaaDoor
open Go.RowKit Go.Proofs.YtmfpfipjhhfbhaaDoorW.PrintWords

/-- '[]rune(s)': a new row of the text's code points. -/
theorem conv_runes (W : World) (t : ByteArray) (ht : t.size ≤ 1048576) (hv : txtOk t = true) : ∃ cap obj, (cps t).length ≤ cap ∧ cap ≤ maxLen ∧ (convert 9 70 (.string t)).run Tryd.prog W = .ok (.slice (some ⟨W.heap.size, 0, none⟩) (cps t).length cap) (W.drew.alloc (.cells obj 21)) ∧ obj.size = cap ∧ ∀ (j c : Nat), (cps t)[j]? = some c → obj[j]? = some (.int .i32 (c : Int)) := by
  have hl := (cps_length_le t hv).1
  have h := run_runes_of_string (P := Tryd.prog) W 9 70 21 t Tryd.underlying9 Tryd.underlying70 Tryd.underlying21 (by rw [runes_cps]; simp [runeCells']; omega)
  rw [runes_cps] at h
  have hz : (runeCells' (cps t)).toArray.size = (cps t).length := by simp [runeCells']
  rw [hz] at h
  have hg := grownCap_ge W (cps t).length 0 21
  refine ⟨_, _, hg, grownCap_le_maxLen W _ 0 21 (by unfold maxLen; omega), h, ?_, fun j c hj => ?_⟩
  · simp [runeCells']; omega
  · have hlt := (List.getElem?_eq_some_iff.1 hj).1
    rw [Array.getElem?_append_left (by rw [hz]; exact hlt)]
    simp [runeCells', hj]

/-- tv is a slice of runes: the code points t. -/
structure Rn (w : World) (tv : Value) (t : List Nat) : Prop where
  out : ∃ (A : Option Addr) (c : Nat), tv = .slice A t.length c ∧ t.length ≤ c ∧ c ≤ maxLen ∧ (0 < t.length → ∃ (b o : Nat) (cells : Array Value), A = some ⟨b, o, none⟩ ∧ w.heap[b]? = some (.cells cells 21 (0, 0)) ∧ ∀ (j c : Nat), t[j]? = some c → cells[o + j]? = some (.int .i32 (c : Int)))
theorem Rn.nil (w : World) : Rn w (.slice none 0 0) [] := ⟨none, 0, rfl, Nat.le_refl _, by simp [maxLen], fun h => by simp at h⟩
theorem Rn.move {w w1 : World} {tv : Value} {t : List Nat} (h : Rn w tv t) (hm : ∀ (b : Nat) (cells : Array Value), w.heap[b]? = some (Obj.cells cells 21 (0, 0)) → w1.heap[b]? = w.heap[b]?) : Rn w1 tv t := by
  obtain ⟨A, c, h1, h2, h3, h4⟩ := h.out
  refine ⟨A, c, h1, h2, h3, fun hp => ?_⟩
  obtain ⟨b, o, cells, e, hb, hc⟩ := h4 hp
  exact ⟨b, o, cells, e, (hm b cells hb).trans hb, hc⟩
theorem Rn.below {w w1 : World} {tv : Value} {t : List Nat} (h : Rn w tv t) (hb : Below w.heap.size w w1) : Rn w1 tv t := h.move (fun b _ hc => hb.block b (blk_lt hc))
/-- Another row has been written, of another type. -/
theorem Rn.grown {w w1 : World} {tv : Value} {t : List Nat} (h : Rn w tv t) {row : Option Nat} (hg : w.grownBy w1 row) (hr : ∀ k, row = some k → ∃ (cells : Array Value) (ty : Nat), w.heap[k]? = some (Obj.cells cells ty (0, 0)) ∧ ty ≠ 21) : Rn w1 tv t := by
  refine h.move (fun b cells hc => hg.block b (blk_lt hc) (fun e => ?_))
  obtain ⟨cells', ty, h1, h2⟩ := hr b e.symm
  rw [hc] at h1
  simp at h1
  exact h2 h1.2.symm
/-- A part of it: 'r.text[:n]' as a string, and 'r.text[n:]'. -/
theorem Rn.parts {w : World} {tv : Value} {t : List Nat} (h : Rn w tv t) (hp : 0 < t.length) : ∃ (b o c : Nat) (cells : Array Value), tv = .slice (some ⟨b, o, none⟩) t.length c ∧ t.length ≤ c ∧ c ≤ maxLen ∧ w.heap[b]? = some (.cells cells 21 (0, 0)) ∧ ∀ (j c : Nat), t[j]? = some c → cells[o + j]? = some (.int .i32 (c : Int)) := by
  obtain ⟨A, c, h1, h2, h3, h4⟩ := h.out
  obtain ⟨b, o, cells, rfl, hb, hc⟩ := h4 hp
  exact ⟨b, o, c, cells, h1, h2, h3, hb, hc⟩
theorem add_at (b o j : Nat) : (⟨b, o, none⟩ : Addr).add j = ⟨b, o + j, none⟩ := by unfold Addr.add; split <;> simp_all
theorem runes_string (w : World) (b o : Nat) (cells : Array Value) (t : List Nat) (n c : Nat) (hb : w.heap[b]? = some (.cells cells 21 (0, 0))) (hc : ∀ (j c : Nat), t[j]? = some c → cells[o + j]? = some (.int .i32 (c : Int))) (hn : n ≤ t.length) (hg : ∀ c ∈ t, goodC c) :
    (convert 70 9 (.slice (some ⟨b, o, none⟩) n c)).run Tryd.prog w = .ok (.string (encB (t.take n))) w := by
  have h := run_convert_runes (P := Tryd.prog) w 70 9 21 ⟨b, o, none⟩ n c (t.map fun (c : Nat) => (c : Int)) (by simpa using hn) Tryd.underlying70 Tryd.underlying21 Tryd.underlying9 (fun j hj => by
    have hj' : j < t.length := by simpa using hj
    rw [add_at, blk_cell hb, hc j t[j] (List.getElem?_eq_getElem hj')]
    simp [List.getD, hj'])
  rw [h, ← List.map_take, runesBytes_enc _ (fun c hc => hg c (List.mem_of_mem_take hc))]
theorem Rn.drop {w : World} {b o c : Nat} {cells : Array Value} {t : List Nat} (hb : w.heap[b]? = some (.cells cells 21 (0, 0))) (hc : ∀ (j c : Nat), t[j]? = some c → cells[o + j]? = some (.int .i32 (c : Int))) (h1 : t.length ≤ c) (h2 : c ≤ maxLen) (n : Nat) (hn : n ≤ t.length) (A : Option Addr) (hA : n < t.length → A = some ⟨b, o + n, none⟩) : Rn w (.slice A (t.length - n) (c - n)) (t.drop n) := by
  refine ⟨A, c - n, by simp, by simp; omega, by omega, fun hp => ?_⟩
  simp at hp
  refine ⟨b, o + n, cells, hA (by omega), hb, fun j x hj => ?_⟩
  rw [List.getElem?_drop] at hj
  rw [Nat.add_assoc]
  exact hc _ _ hj

/-- What is left of a first span that is put. -/
def firstT : List Sp → List Nat
  | [] => []
  | s :: _ => cps s.t
/-- The box p, the row at g, and the runes. -/
structure Rdr (w : World) (p g : Nat) (X : List Sp) (t : List Nat) : Prop where
  out : ∃ v tv, w.heap[p]? = some (.cells #[v, tv] 114 (0, 0)) ∧ Rd w v g X ∧ Rn w tv t
theorem Rd.block {w : World} {v : Value} {g : Nat} {X : List Sp} (h : Rd w v g X) : ∃ (cells : Array Value), w.heap[g]? = some (Obj.cells cells 26 (0, 0)) := by
  obtain ⟨ys, o, A, c, h1, h2, h3, h4, h5, h6⟩ := h.out
  exact ⟨_, h4.out⟩
theorem Rdr.ne {w : World} {p g : Nat} {X : List Sp} {t : List Nat} (h : Rdr w p g X t) : p ≠ g := by
  obtain ⟨v, tv, h1, h2, _⟩ := h.out
  obtain ⟨cells, hc⟩ := h2.block
  exact blk_ne h1 hc (by decide)
theorem Rdr.below {w w1 : World} {p g : Nat} {X : List Sp} {t : List Nat} (h : Rdr w p g X t) (hb : Below w.heap.size w w1) : Rdr w1 p g X t := by
  obtain ⟨v, tv, h1, h2, h3⟩ := h.out
  exact ⟨v, tv, blk_below h1 hb, h2.below hb h2.lt, h3.below hb⟩
theorem Rdr.grown {w w1 : World} {p g : Nat} {X : List Sp} {t : List Nat} (h : Rdr w p g X t) {row : Option Nat} (hg : w.grownBy w1 row) (hr : ∀ k, row = some k → ∃ (cells : Array Value) (ty : Nat), w.heap[k]? = some (Obj.cells cells ty (0, 0)) ∧ ty ≠ 21) (hp : some p ≠ row) (hne : some g ≠ row) : Rdr w1 p g X t := by
  obtain ⟨v, tv, h1, h2, h3⟩ := h.out
  exact ⟨v, tv, blk_grown h1 hg hp, h2.grown hg hne, h3.grown hg hr⟩

/-! ### load -/
def LoadPost (p : Nat) (v : Value) (X : List Sp) (w : World) (e : Ending) (w' : World) : Prop :=
  e = .returned (.tuple #[]) ∧ ∃ tv, w'.heap[p]? = some (.cells #[v, tv] 114 (0, 0)) ∧ Rn w' tv (firstT X) ∧ w.grownBy w' (some p)
set_option maxRecDepth 100000 in
set_option maxHeartbeats 1000000 in
theorem load_calls (p g : Nat) (X : List Sp) (v tv : Value) (w : World) (hp : w.heap[p]? = some (.cells #[v, tv] 114 (0, 0))) (hX : Rd w v g X) (hT : ∀ s ∈ X, s.t.size ≤ 1048576 ∧ txtOk s.t = true) :
    Calls Tryd.prog 89 #[.pointer (some ⟨p, 0, none⟩)] w (LoadPost p v X w) := by
  have hs := blk_set hp 1 (.slice none 0 0)
  have hg := gb_set (World.grownBy.refl w (some p)) (g := p) 1 (.slice none 0 0)
  have k0 := blk_frozen hp 1
  have k1 := blk_cell hp 1
  have k2 := blk_cell hp 0
  have hpg : g ≠ p := by
    obtain ⟨cells, hc⟩ := hX.block
    exact blk_ne hc hp (by decide)
  have hpl := blk_lt hp
  have HS := Lib.hid hs
  have HG := Lib.hid hg
  clear hs hg hp
  cases X with
  | nil =>
    obtain ⟨A1, d1, rfl⟩ := hX.nil_form
    clear hX
    go_enter Tryd.func89, Tryd.ntmps89
    go_wp2
    go_end0
    exact ⟨rfl, _, HS.out, Rn.nil _, HG.out⟩
  | cons s X =>
    obtain ⟨o, c, rfl, hc1, hc2, d0, d1, d2, f1, htail, hset, hst⟩ := hX.head
    clear htail hset hst hX d0 d1 f1
    obtain ⟨h1, h2⟩ := hT s (by simp)
    obtain ⟨cap, obj, e1, e2, hconv, e3, e4⟩ := conv_runes (w.setCell ⟨p, 1, none⟩ (.slice none 0 0)) s.t h1 h2
    have r0 := blk_cell (blk_alloc (blk_drew HS.out) (.cells obj 21)) 1
    have r1 := blk_frozen (blk_alloc (blk_drew HS.out) (.cells obj 21)) 1
    have HE := Lib.hid (And.intro e3 e4)
    clear e3 e4
    go_enter Tryd.func89, Tryd.ntmps89
    go_wp2_with fail
    go_end0
    have h3 := blk_set HS.out 1 (.slice (some ⟨w.heap.size, 0, none⟩) (cps s.t).length cap)
    have h5 : ((w.setCell ⟨p, 1, none⟩ (.slice none 0 0)).setCell ⟨p, 1, none⟩ (.slice (some ⟨w.heap.size, 0, none⟩) (cps s.t).length cap)).heap.size = w.heap.size := by simp
    have h4 := blk_new ((w.setCell ⟨p, 1, none⟩ (.slice none 0 0)).setCell ⟨p, 1, none⟩ (.slice (some ⟨w.heap.size, 0, none⟩) (cps s.t).length cap)) (.cells obj 21)
    rw [h5] at h4
    refine ⟨rfl, _, blk_drew (blk_alloc h3 _), ⟨_, cap, rfl, e1, e2, fun _ => ⟨w.heap.size, 0, obj, rfl, blk_drew h4, fun j c hj => ?_⟩⟩, gb_below (gb_alloc (gb_set HG.out _ _) _) (below_drew (Below.refl _ _))⟩
    rw [Nat.zero_add]
    exact HE.out.2 j c hj

/-! ### kind, size -/
def kindOf : List Sp → Int
  | [] => 0
  | s :: _ => s.k
set_option maxHeartbeats 1000000 in
theorem kind_calls (p g : Nat) (X : List Sp) (t : List Nat) (w : World) (h : Rdr w p g X t) :
    Calls Tryd.prog 69 #[.pointer (some ⟨p, 0, none⟩)] w fun e w' => e = .returned (.int .i64 (kindOf X)) ∧ w = w' := by
  obtain ⟨v, tv, hp, hX, _⟩ := h.out
  have k2 := blk_cell hp 0
  clear h hp
  cases X with
  | nil =>
    obtain ⟨A1, d1, rfl⟩ := hX.nil_form
    clear hX
    go_enter Tryd.func69, Tryd.ntmps69
    go_wp2
    go_ret
    exact ⟨rfl, rfl⟩
  | cons s X =>
    obtain ⟨o, c, rfl, hc1, hc2, d0, d1, d2, f1, htail, hset, hst⟩ := hX.head
    clear htail hset hst hX d1 d2 f1
    go_enter Tryd.func69, Tryd.ntmps69
    go_wp2
    go_ret
    exact ⟨rfl, rfl⟩
set_option maxHeartbeats 1000000 in
theorem rsize_calls (p g : Nat) (s : Sp) (X : List Sp) (t : List Nat) (w : World) (h : Rdr w p g (s :: X) t) (h0 : 0 ≤ s.n) (h1 : s.n ≤ 1048576) (ht : t.length ≤ 1048576) :
    Calls Tryd.prog 71 #[.pointer (some ⟨p, 0, none⟩)] w fun e w' => e = .returned (.int .i64 (s.n + t.length)) ∧ Below w.heap.size w w' := by
  obtain ⟨v, tv, hp, hX, hR⟩ := h.out
  obtain ⟨A, ct, rfl, g1, g2, g3⟩ := hR.out
  have k2 := blk_cell hp 0
  have k3 := blk_cell hp 1
  clear h hp g3 hR
  obtain ⟨o, c, rfl, hc1, hc2, d0, d1, d2, f1, htail, hset, hst⟩ := hX.head
  clear htail hset hst hX d0 d2 f1
  obtain ⟨sk, sn, st⟩ := s
  simp only at d1 h0 h1 ⊢
  go_enter Tryd.func71, Tryd.ntmps71
  go_wp2
  go_quiet (fail)
  go_wp2
  go_ret
  exact ⟨rfl, pw_below_drewN (Below.refl _ _) _⟩

/-! ### take -/
def TakePost (p g : Nat) (r : Sp) (X : List Sp) (t : List Nat) (w : World) (e : Ending) (w' : World) : Prop :=
  e = .returned (.agg #[.int .i64 r.k, .int .i64 r.n, .string r.t]) ∧ Rdr w' p g X t ∧ ∃ w1, w.grownBy w1 (some g) ∧ w1.grownBy w' (some p)
theorem gb_new {w W V : World} {row : Option Nat} {n : Nat} (h : w.grownBy W row) (h2 : W.grownBy V (some n)) (hn : w.heap.size ≤ n) : w.grownBy V row :=
  ⟨h2.os.trans h.os, h2.tape.trans h.tape, h2.output.trans h.output, Nat.le_trans h.size h2.size, fun k hk hne => (h2.block k (Nat.lt_of_lt_of_le hk h.size) (fun e => by injection e with e; omega)).trans (h.block k hk hne)⟩
set_option maxRecDepth 100000 in
set_option maxHeartbeats 2000000 in
theorem take_put_part (p g : Nat) (s : Sp) (X : List Sp) (t : List Nat) (n : Nat) (w : World) (h : Rdr w p g (s :: X) t) (hk : s.k = 2) (hn0 : s.n = 0) (h0 : 0 < n) (h1 : n < t.length) (ht : t.length ≤ 1048576) (hg : ∀ c ∈ t, goodC c) :
    Calls Tryd.prog 70 #[.pointer (some ⟨p, 0, none⟩), .int .i64 n] w (TakePost p g ⟨2, 0, encB (t.take n)⟩ (s :: X) (t.drop n) w) := by
  obtain ⟨v, tv, hp, hX, hR⟩ := h.out
  obtain ⟨b, ob, ct, cells, rfl, g1, g2, hb, hc⟩ := hR.parts (by omega)
  have k0 := blk_frozen hp 1
  have k2 := blk_cell hp 0
  have k3 := blk_cell hp 1
  have hpl := blk_lt hp
  have hbl := blk_lt hb
  have hX' := hX
  have hgl := hX.lt
  have hpg := h.ne
  obtain ⟨o, c, rfl, hc1, hc2, d0, d1, d2, f1, htail, hset, hst⟩ := hX.head
  clear htail hset hst hX d2 f1
  obtain ⟨sk, sn, st⟩ := s
  simp only at hk hn0 d0 d1
  subst hk hn0
  have HP := Lib.hid hp
  have HX := Lib.hid hX'
  have HB := Lib.hid (And.intro hb hc)
  clear hp hX' h hR
  have hb2 := blk_alloc (blk_alloc hb (.cells #[Value.int .i64 0, .int .i64 0, .string ⟨#[]⟩] 26)) (.cells #[Value.int .i64 2, .int .i64 0, .string ⟨#[]⟩] 26)
  have cv := runes_string ((w.alloc (.cells #[Value.int .i64 0, .int .i64 0, .string ⟨#[]⟩] 26)).alloc (.cells #[Value.int .i64 2, .int .i64 0, .string ⟨#[]⟩] 26)).drew b ob cells t n ct hb2 hc (by omega) hg
  generalize encB (t.take n) = u at cv ⊢
  have n1 : n ≤ ct := by omega
  have n2 : n ≤ t.length := by omega
  clear hb hc hb2
  have n3 : ¬ ct = n := by omega
  go_enter Tryd.func70, Tryd.ntmps70
  go_wp2_with fail
  apply region_once (R := fun w' => w' = (((w.setCell ⟨p, 1, none⟩ (.slice (some ⟨b, ob + n, none⟩) (t.length - n) (ct - n))).alloc (.cells #[Value.int .i64 0, .int .i64 0, .string ⟨#[]⟩] 26)).alloc (.cells #[Value.int .i64 2, .int .i64 0, .string u] 26)).drew)
  · go_region_law (fail)
    all_goals exact ⟨rfl, rfl⟩
  rintro W hW
  have hW1 : Rdr W p g (⟨2, 0, st⟩ :: X) (t.drop n) := by
    rw [hW]
    refine ⟨_, _, blk_drew (blk_alloc (blk_alloc (blk_set HP.out 1 _) _) _), ((((HX.out.far (p := ⟨p, 1, none⟩) (fun e => hpg e.symm) _).alloc _).alloc _).drew), Rn.drop (b := b) (o := ob) (cells := cells) (blk_drew (blk_alloc (blk_alloc (blk_far HB.out.1 (p := ⟨p, 1, none⟩) (blk_ne HB.out.1 HP.out (by decide)) _) _) _)) HB.out.2 g1 g2 n n2 _ (fun _ => rfl)⟩
  have hpW := (by rw [hW]; exact blk_drew (blk_alloc (blk_alloc (blk_set HP.out 1 (.slice (some ⟨b, ob + n, none⟩) (t.length - n) (ct - n))) _) _) : W.heap[p]? = some (Obj.cells #[.slice (some ⟨g, o * 3, none⟩) (X.length + 1) c, .slice (some ⟨b, ob + n, none⟩) (t.length - n) (ct - n)] 114 (0, 0)))
  have hXW := (by rw [hW]; exact (((HX.out.far (p := ⟨p, 1, none⟩) (fun e => hpg e.symm) _).alloc _).alloc _).drew : Rd W (.slice (some ⟨g, o * 3, none⟩) (X.length + 1) c) g (⟨2, 0, st⟩ :: X))
  have hgr : w.grownBy W (some p) := by
    rw [hW]
    exact gb_below (gb_alloc (gb_alloc (gb_set (World.grownBy.refl _ _) _ _) _) _) (below_drew (Below.refl _ _))
  have hr0 : W.heap[w.heap.size]? = some (.cells #[Value.int .i64 0, .int .i64 0, .string ⟨#[]⟩] 26) := by
    rw [hW]
    have := blk_drew (blk_alloc (blk_new (w.setCell ⟨p, 1, none⟩ (.slice (some ⟨b, ob + n, none⟩) (t.length - n) (ct - n))) (.cells #[Value.int .i64 0, .int .i64 0, .string ⟨#[]⟩] 26)) (.cells #[Value.int .i64 2, .int .i64 0, .string u] 26))
    simpa using this
  have hr1 : W.heap[w.heap.size + 1]? = some (.cells #[Value.int .i64 2, .int .i64 0, .string u] 26) := by
    rw [hW]
    have := blk_drew (blk_new ((w.setCell ⟨p, 1, none⟩ (.slice (some ⟨b, ob + n, none⟩) (t.length - n) (ct - n))).alloc (.cells #[Value.int .i64 0, .int .i64 0, .string ⟨#[]⟩] 26)) (.cells #[Value.int .i64 2, .int .i64 0, .string u] 26))
    simpa using this
  clear hW k0 k2 k3 d0 d1 cv HP HX HB
  have sc := rsize_calls p g ⟨2, 0, st⟩ X (t.drop n) W hW1 (by show (0:Int) ≤ 0; omega) (by show (0:Int) ≤ _; omega) (by simp; omega)
  rw [show (⟨2, 0, st⟩ : Sp).n + ((t.drop n).length : Int) = ((t.length - n : Nat) : Int) by simp] at sc
  have n4 : (((t.length - n : Nat) : Int) == 0) = false := by simp; omega
  generalize t.length - n = m at sc n4
  go_wp2_with fail
  refine sc.mono ?_
  rintro e w2 ⟨rfl, hb2⟩
  have q0 := blk_below hr0 hb2
  have q1 := blk_below hr1 hb2
  have z0 := blk_cell q1 0
  have z1 := blk_cell q1 1
  have z2 := blk_cell q1 2
  have y0 := blk_cell q0 0
  have y1 := blk_cell q0 1
  have y2 := blk_cell q0 2
  have x0 := blk_frozen q0 0
  have x1 := blk_frozen q0 1
  have x2 := blk_frozen q0 2
  go_wp2_with fail
  have hG2 := gb_set (gb_set (gb_set (gb_below (World.grownBy.refl W (some w.heap.size)) hb2) 0 (.int .i64 2)) 1 (.int .i64 0)) 2 (.string u)
  have hRf := hW1.grown hG2 (fun k e => by injection e with e; subst e; exact ⟨_, _, hr0, by decide⟩) (by intro e; injection e with e; omega) (by intro e; injection e with e; omega)
  have hGf := gb_new hgr hG2 (Nat.le_refl _)
  refine bodyPost_ret (v := .agg #[.int .i64 2, .int .i64 0, .string u]) (by simp [results, Tryd.results70, go_sem, y0, y1, y2]) rfl ?_
  exact ⟨rfl, hRf, w, World.grownBy.refl _ _, hGf⟩

set_option maxRecDepth 100000 in
set_option maxHeartbeats 2000000 in
theorem take_put_all (p g : Nat) (s : Sp) (X : List Sp) (t : List Nat) (n : Nat) (w : World) (h : Rdr w p g (s :: X) t) (hk : s.k = 2) (hn0 : s.n = 0) (h0 : 0 < n) (h1 : n = t.length) (ht : t.length ≤ 1048576) (hg : ∀ c ∈ t, goodC c) (hT : ∀ s ∈ X, s.t.size ≤ 1048576 ∧ txtOk s.t = true) :
    Calls Tryd.prog 70 #[.pointer (some ⟨p, 0, none⟩), .int .i64 n] w (TakePost p g ⟨2, 0, encB (t.take n)⟩ X (firstT X) w) := by
  have H1 := Lib.hid h1
  have h1' : n ≤ t.length := by omega
  clear h1
  obtain ⟨v, tv, hp, hX, hR⟩ := h.out
  obtain ⟨b, ob, ct, cells, rfl, g1, g2, hb, hc⟩ := hR.parts (by omega)
  have k0 := blk_frozen hp 1
  have k2 := blk_cell hp 0
  have k3 := blk_cell hp 1
  have hpl := blk_lt hp
  have hbl := blk_lt hb
  have hX' := hX
  have hgl := hX.lt
  have hpg := h.ne
  obtain ⟨o, c, rfl, hc1, hc2, d0, d1, d2, f1, htail, hset, hst⟩ := hX.head
  clear htail hset hst hX d2 f1
  obtain ⟨sk, sn, st⟩ := s
  simp only at hk hn0 d0 d1
  subst hk hn0
  have HP := Lib.hid hp
  have HX := Lib.hid hX'
  have HB := Lib.hid (And.intro hb hc)
  clear hp hX' h hR
  have hb2 := blk_alloc (blk_alloc hb (.cells #[Value.int .i64 0, .int .i64 0, .string ⟨#[]⟩] 26)) (.cells #[Value.int .i64 2, .int .i64 0, .string ⟨#[]⟩] 26)
  have cv := runes_string ((w.alloc (.cells #[Value.int .i64 0, .int .i64 0, .string ⟨#[]⟩] 26)).alloc (.cells #[Value.int .i64 2, .int .i64 0, .string ⟨#[]⟩] 26)).drew b ob cells t n ct hb2 hc (by omega) hg
  generalize encB (t.take n) = u at cv ⊢
  have n1 : n ≤ ct := by omega
  have n2 : n ≤ t.length := by omega
  clear hb hc hb2
  go_enter Tryd.func70, Tryd.ntmps70
  go_wp2_with fail
  apply region_once (R := fun w' => w' = (((w.setCell ⟨p, 1, none⟩ (.slice (if ct = n then some ⟨b, ob, none⟩ else some ⟨b, ob + n, none⟩) (t.length - n) (ct - n))).alloc (.cells #[Value.int .i64 0, .int .i64 0, .string ⟨#[]⟩] 26)).alloc (.cells #[Value.int .i64 2, .int .i64 0, .string u] 26)).drew)
  · go_region_law (fail)
    all_goals exact ⟨rfl, rfl⟩
  rintro W hW
  have hW1 : Rdr W p g (⟨2, 0, st⟩ :: X) (t.drop n) := by
    rw [hW]
    refine ⟨_, _, blk_drew (blk_alloc (blk_alloc (blk_set HP.out 1 _) _) _), ((((HX.out.far (p := ⟨p, 1, none⟩) (fun e => hpg e.symm) _).alloc _).alloc _).drew), Rn.drop (b := b) (o := ob) (cells := cells) (blk_drew (blk_alloc (blk_alloc (blk_far HB.out.1 (p := ⟨p, 1, none⟩) (blk_ne HB.out.1 HP.out (by decide)) _) _) _)) HB.out.2 g1 g2 n n2 _ (fun hlt => by have := H1.out; omega)⟩
  have hpW := (by rw [hW]; exact blk_drew (blk_alloc (blk_alloc (blk_set HP.out 1 (.slice (if ct = n then some ⟨b, ob, none⟩ else some ⟨b, ob + n, none⟩) (t.length - n) (ct - n))) _) _) : W.heap[p]? = some (Obj.cells #[.slice (some ⟨g, o * 3, none⟩) (X.length + 1) c, .slice (if ct = n then some ⟨b, ob, none⟩ else some ⟨b, ob + n, none⟩) (t.length - n) (ct - n)] 114 (0, 0)))
  have hXW := (by rw [hW]; exact (((HX.out.far (p := ⟨p, 1, none⟩) (fun e => hpg e.symm) _).alloc _).alloc _).drew : Rd W (.slice (some ⟨g, o * 3, none⟩) (X.length + 1) c) g (⟨2, 0, st⟩ :: X))
  have hgr : w.grownBy W (some p) := by
    rw [hW]
    exact gb_below (gb_alloc (gb_alloc (gb_set (World.grownBy.refl _ _) _ _) _) _) (below_drew (Below.refl _ _))
  have hr0 : W.heap[w.heap.size]? = some (.cells #[Value.int .i64 0, .int .i64 0, .string ⟨#[]⟩] 26) := by
    rw [hW]
    have := blk_drew (blk_alloc (blk_new (w.setCell ⟨p, 1, none⟩ (.slice (if ct = n then some ⟨b, ob, none⟩ else some ⟨b, ob + n, none⟩) (t.length - n) (ct - n))) (.cells #[Value.int .i64 0, .int .i64 0, .string ⟨#[]⟩] 26)) (.cells #[Value.int .i64 2, .int .i64 0, .string u] 26))
    simpa using this
  have hr1 : W.heap[w.heap.size + 1]? = some (.cells #[Value.int .i64 2, .int .i64 0, .string u] 26) := by
    rw [hW]
    have := blk_drew (blk_new ((w.setCell ⟨p, 1, none⟩ (.slice (if ct = n then some ⟨b, ob, none⟩ else some ⟨b, ob + n, none⟩) (t.length - n) (ct - n))).alloc (.cells #[Value.int .i64 0, .int .i64 0, .string ⟨#[]⟩] 26)) (.cells #[Value.int .i64 2, .int .i64 0, .string u] 26))
    simpa using this
  clear hW k0 k2 k3 d0 d1 cv HP HX HB
  have sc := rsize_calls p g ⟨2, 0, st⟩ X (t.drop n) W hW1 (by show (0:Int) ≤ 0; omega) (by show (0:Int) ≤ _; omega) (by simp; omega)
  rw [show (⟨2, 0, st⟩ : Sp).n + ((t.drop n).length : Int) = 0 by rw [List.length_drop]; have := H1.out; show (0:Int) + _ = 0; omega] at sc
  clear n1 n2
  generalize (if ct = n then some (⟨b, ob, none⟩ : Addr) else some ⟨b, ob + n, none⟩) = Aq at hpW ⊢
  go_wp2_with fail
  refine sc.mono ?_
  rintro e w2 ⟨rfl, hb2⟩
  have q0 := blk_below hr0 hb2
  have q1 := blk_below hr1 hb2
  have hp2 := blk_below hpW hb2
  by_cases hcc : c = 1
  · subst hcc
    obtain rfl : X = [] := List.eq_nil_of_length_eq_zero (by omega)
    have hX3 := (hXW.below hb2 hXW.lt).tailAt (A := some ⟨g, o * 3, none⟩) (fun hlt => absurd hlt (by simp))
    have hX4 : Rd (w2.setCell ⟨p, 0, none⟩ (.slice (some ⟨g, o * 3, none⟩) (0) 0)) (.slice (some ⟨g, o * 3, none⟩) (0) 0) g ([]) := hX3.far (p := ⟨p, 0, none⟩) (fun e => hpg e.symm) (.slice (some ⟨g, o * 3, none⟩) (0) 0)
    have hp4 := blk_set hp2 0 (.slice (some ⟨g, o * 3, none⟩) (0) 0)
    have lc := load_calls p g ([]) _ _ _ hp4 hX4 hT
    have u0 := blk_cell hp2 0
    have u1 := blk_frozen hp2 0
    have q2 := blk_far q0 (p := ⟨p, 0, none⟩) (by show w.heap.size ≠ p; omega) (.slice (some ⟨g, o * 3, none⟩) (0) 0)
    have q3 := blk_far q1 (p := ⟨p, 0, none⟩) (by show w.heap.size + 1 ≠ p; omega) (.slice (some ⟨g, o * 3, none⟩) (0) 0)
    have hg2 := gb_set (gb_below hgr hb2) 0 (.slice (some ⟨g, o * 3, none⟩) (0) 0)
    have HX4 := Lib.hid hX4
    clear hX3 hX4 hXW hpW hp2 sc hp4 q0 q1 hW1
    go_wp2_with fail
    refine lc.mono ?_
    rintro e w3 ⟨rfl, tv3, hp5, hR5, hg5⟩
    have q0 := blk_grown q2 hg5 (by intro e; injection e with e; omega)
    have q1 := blk_grown q3 hg5 (by intro e; injection e with e; omega)
    have hW1 : Rdr w3 p g ([]) (firstT ([])) := ⟨_, tv3, hp5, HX4.out.grown hg5 (by intro e; injection e with e; exact hpg e.symm), hR5⟩
    have hg6 := World.grownBy.trans hg2 hg5
    have HW1 := Lib.hid hW1
    clear u0 u1 q2 q3 hg5 hg2 hR5 hp5 lc hW1
    have hr3 := q0
    have z0 := blk_cell q1 0
    have z1 := blk_cell q1 1
    have z2 := blk_cell q1 2
    have y0 := blk_cell q0 0
    have y1 := blk_cell q0 1
    have y2 := blk_cell q0 2
    have x0 := blk_frozen q0 0
    have x1 := blk_frozen q0 1
    have x2 := blk_frozen q0 2
    go_wp2_with fail
    have hG2 := gb_set (gb_set (gb_set (World.grownBy.refl w3 (some w.heap.size)) 0 (.int .i64 2)) 1 (.int .i64 0)) 2 (.string u)
    have hRf := HW1.out.grown hG2 (fun k e => by injection e with e; subst e; exact ⟨_, _, hr3, by decide⟩) (by intro e; injection e with e; omega) (by intro e; injection e with e; omega)
    have hGf := gb_new hg6 hG2 (Nat.le_refl _)
    refine bodyPost_ret (v := .agg #[.int .i64 2, .int .i64 0, .string u]) (by simp [results, Tryd.results70, go_sem, y0, y1, y2]) rfl ?_
    exact ⟨rfl, hRf, w, World.grownBy.refl _ _, hGf⟩
  · skip
    have hX3 := (hXW.below hb2 hXW.lt).tailAt (A := some ⟨g, o * 3 + 3, none⟩) (fun _ => by rw [Nat.add_mul])
    have hX4 : Rd (w2.setCell ⟨p, 0, none⟩ (.slice (some ⟨g, o * 3 + 3, none⟩) (X.length) (c - 1))) (.slice (some ⟨g, o * 3 + 3, none⟩) (X.length) (c - 1)) g (X) := hX3.far (p := ⟨p, 0, none⟩) (fun e => hpg e.symm) (.slice (some ⟨g, o * 3 + 3, none⟩) (X.length) (c - 1))
    have hp4 := blk_set hp2 0 (.slice (some ⟨g, o * 3 + 3, none⟩) (X.length) (c - 1))
    have lc := load_calls p g (X) _ _ _ hp4 hX4 hT
    have u0 := blk_cell hp2 0
    have u1 := blk_frozen hp2 0
    have q2 := blk_far q0 (p := ⟨p, 0, none⟩) (by show w.heap.size ≠ p; omega) (.slice (some ⟨g, o * 3 + 3, none⟩) (X.length) (c - 1))
    have q3 := blk_far q1 (p := ⟨p, 0, none⟩) (by show w.heap.size + 1 ≠ p; omega) (.slice (some ⟨g, o * 3 + 3, none⟩) (X.length) (c - 1))
    have hg2 := gb_set (gb_below hgr hb2) 0 (.slice (some ⟨g, o * 3 + 3, none⟩) (X.length) (c - 1))
    have HX4 := Lib.hid hX4
    clear hX3 hX4 hXW hpW hp2 sc hp4 q0 q1 hW1
    go_wp2_with fail
    refine lc.mono ?_
    rintro e w3 ⟨rfl, tv3, hp5, hR5, hg5⟩
    have q0 := blk_grown q2 hg5 (by intro e; injection e with e; omega)
    have q1 := blk_grown q3 hg5 (by intro e; injection e with e; omega)
    have hW1 : Rdr w3 p g (X) (firstT (X)) := ⟨_, tv3, hp5, HX4.out.grown hg5 (by intro e; injection e with e; exact hpg e.symm), hR5⟩
    have hg6 := World.grownBy.trans hg2 hg5
    have HW1 := Lib.hid hW1
    clear u0 u1 q2 q3 hg5 hg2 hR5 hp5 lc hW1
    have hr3 := q0
    have z0 := blk_cell q1 0
    have z1 := blk_cell q1 1
    have z2 := blk_cell q1 2
    have y0 := blk_cell q0 0
    have y1 := blk_cell q0 1
    have y2 := blk_cell q0 2
    have x0 := blk_frozen q0 0
    have x1 := blk_frozen q0 1
    have x2 := blk_frozen q0 2
    go_wp2_with fail
    have hG2 := gb_set (gb_set (gb_set (World.grownBy.refl w3 (some w.heap.size)) 0 (.int .i64 2)) 1 (.int .i64 0)) 2 (.string u)
    have hRf := HW1.out.grown hG2 (fun k e => by injection e with e; subst e; exact ⟨_, _, hr3, by decide⟩) (by intro e; injection e with e; omega) (by intro e; injection e with e; omega)
    have hGf := gb_new hg6 hG2 (Nat.le_refl _)
    refine bodyPost_ret (v := .agg #[.int .i64 2, .int .i64 0, .string u]) (by simp [results, Tryd.results70, go_sem, y0, y1, y2]) rfl ?_
    exact ⟨rfl, hRf, w, World.grownBy.refl _ _, hGf⟩

end Go.Proofs.YtmfpfipjhhfbhaaDoor

/- compose's reader: take, of what is kept or dropped. -/
namespace Go.Proofs.YtmfpfipjhhfbhaaDoor
open Go.RowKit Go.Proofs.YtmfpfipjhhfbhaaDoorW.PrintWords

set_option maxRecDepth 100000 in
set_option maxHeartbeats 2000000 in
theorem take_num_part (p g : Nat) (s : Sp) (X : List Sp) (n : Nat) (w : World) (h : Rdr w p g (s :: X) []) (hk : s.k ≠ 2) (h1 : (n : Int) < s.n) (hb : s.n ≤ 1048576) :
    Calls Tryd.prog 70 #[.pointer (some ⟨p, 0, none⟩), .int .i64 n] w (TakePost p g ⟨s.k, n, ⟨#[]⟩⟩ (⟨s.k, s.n - n, s.t⟩ :: X) [] w) := by
  obtain ⟨v, tv, hp, hX, hR⟩ := h.out
  have k0 := blk_frozen hp 0
  have k2 := blk_cell hp 0
  have hpl := blk_lt hp
  have hX' := hX
  have hgl := hX.lt
  have hpg := h.ne
  obtain ⟨o, c, rfl, hc1, hc2, d0, d1, d2, f1, htail, hset, hst⟩ := hX.head
  have hs2 := hset (s.n - n)
  clear htail hset hst hX d2
  obtain ⟨sk, sn, st⟩ := s
  simp only at hk h1 hb d0 d1 hs2
  have HP := Lib.hid hp
  have HX := Lib.hid hs2
  have HR := Lib.hid hR
  have hkb : (sk == 2) = false := by simpa using hk
  clear hp hX' h hR hs2 hk
  go_enter Tryd.func70, Tryd.ntmps70
  go_wp2_with fail
  obtain ⟨w1, hw1⟩ : ∃ w1, w1 = w.setCell ⟨g, o * 3 + 1, none⟩ (.int .i64 (sn - n)) := ⟨_, rfl⟩
  have hg1 : w.grownBy w1 (some g) := by rw [hw1]; exact gb_set (World.grownBy.refl _ _) _ _
  have hz1 : w1.heap.size = w.heap.size := by rw [hw1]; simp
  rw [← hw1]
  obtain ⟨W, hW⟩ : ∃ W, W = ((w1.alloc (.cells #[.int .i64 0, .int .i64 0, .string ⟨#[]⟩] 26)).alloc (.cells #[.int .i64 sk, .int .i64 n, .string ⟨#[]⟩] 26)) := ⟨_, rfl⟩
  rw [← hW]
  have hp1 : w1.heap[p]? = some (.cells #[.slice (some ⟨g, o * 3, none⟩) (X.length + 1) c, tv] 114 (0, 0)) := by rw [hw1]; exact blk_far HP.out (p := ⟨g, o * 3 + 1, none⟩) hpg _
  have hX1 : Rd w1 (.slice (some ⟨g, o * 3, none⟩) (X.length + 1) c) g (⟨sk, sn - n, st⟩ :: X) := by rw [hw1]; exact HX.out
  have hR1 : Rn w1 tv [] := ⟨HR.out.out.choose, HR.out.out.choose_spec.choose, HR.out.out.choose_spec.choose_spec.1, HR.out.out.choose_spec.choose_spec.2.1, HR.out.out.choose_spec.choose_spec.2.2.1, fun h => absurd h (by simp)⟩
  have hBW : Below w1.heap.size w1 W := by rw [hW]; exact ((Below.refl _ _).alloc (Nat.le_refl _) _).alloc (by simp) _
  have hpW := blk_below hp1 hBW
  have hXW := hX1.below hBW hX1.lt
  have hW1 : Rdr W p g (⟨sk, sn - n, st⟩ :: X) [] := ⟨_, _, hpW, hXW, hR1.below hBW⟩
  have hgr : w1.grownBy W (some p) := grown_of_below hBW _
  have hr0 : W.heap[w.heap.size]? = some (.cells #[Value.int .i64 0, .int .i64 0, .string ⟨#[]⟩] 26) := by
    rw [hW, ← hz1]
    exact blk_alloc (blk_new w1 _) _
  have hr1 : W.heap[w.heap.size + 1]? = some (.cells #[.int .i64 sk, .int .i64 n, .string ⟨#[]⟩] 26) := by
    rw [hW, ← hz1]
    have := blk_new (w1.alloc (.cells #[.int .i64 0, .int .i64 0, .string ⟨#[]⟩] 26)) (.cells #[.int .i64 sk, .int .i64 n, .string ⟨#[]⟩] 26)
    simpa using this
  have sc := rsize_calls p g ⟨sk, sn - n, st⟩ X [] W hW1 (by show (0:Int) ≤ sn - n; omega) (by show sn - n ≤ _; omega) (by simp)
  have HZ1 := Lib.hid hz1
  have hz2 : w1.heap.size ≤ w.heap.size := by omega
  clear hW hw1 hz1 k0 k2 f1 d0 d1 HP HX HR hp1 hX1 hR1 hBW hkb
  rw [show (⟨sk, sn - n, st⟩ : Sp).n + (([] : List Nat).length : Int) = sn - n by simp] at sc
  have n4 : ((sn - n) == 0) = false := by simp; omega
  clear hXW hpW
  refine sc.mono ?_
  rintro e w2 ⟨rfl, hb2⟩
  have q0 := blk_below hr0 hb2
  have q1 := blk_below hr1 hb2
  have z0 := blk_cell q1 0
  have z1 := blk_cell q1 1
  have z2 := blk_cell q1 2
  have y0 := blk_cell q0 0
  have y1 := blk_cell q0 1
  have y2 := blk_cell q0 2
  have x0 := blk_frozen q0 0
  have x1 := blk_frozen q0 1
  have x2 := blk_frozen q0 2
  go_wp2_with fail
  have hG2 := gb_set (gb_set (gb_set (gb_below (World.grownBy.refl W (some w.heap.size)) hb2) 0 (.int .i64 sk)) 1 (.int .i64 n)) 2 (.string ⟨#[]⟩)
  have hRf := hW1.grown hG2 (fun k e => by injection e with e; subst e; exact ⟨_, _, hr0, by decide⟩) (by intro e; injection e with e; omega) (by intro e; injection e with e; omega)
  have hGf := gb_new hgr hG2 hz2
  refine bodyPost_ret (v := .agg #[.int .i64 sk, .int .i64 n, .string ⟨#[]⟩]) (by simp [results, Tryd.results70, go_sem, y0, y1, y2]) rfl ?_
  exact ⟨rfl, hRf, w1, hg1, hGf⟩

set_option maxRecDepth 100000 in
set_option maxHeartbeats 2000000 in
theorem take_num_all (p g : Nat) (s : Sp) (X : List Sp) (n : Nat) (w : World) (h : Rdr w p g (s :: X) []) (hk : s.k ≠ 2) (h1' : (n : Int) = s.n) (hb : s.n ≤ 1048576) (hT : ∀ s ∈ X, s.t.size ≤ 1048576 ∧ txtOk s.t = true) :
    Calls Tryd.prog 70 #[.pointer (some ⟨p, 0, none⟩), .int .i64 n] w (TakePost p g ⟨s.k, n, ⟨#[]⟩⟩ X (firstT X) w) := by
  have H1 := Lib.hid h1'
  have h1 : (n : Int) ≤ s.n := by omega
  clear h1'
  obtain ⟨v, tv, hp, hX, hR⟩ := h.out
  have k0 := blk_frozen hp 0
  have k2 := blk_cell hp 0
  have hpl := blk_lt hp
  have hX' := hX
  have hgl := hX.lt
  have hpg := h.ne
  obtain ⟨o, c, rfl, hc1, hc2, d0, d1, d2, f1, htail, hset, hst⟩ := hX.head
  have hs2 := hset (s.n - n)
  clear htail hset hst hX d2
  obtain ⟨sk, sn, st⟩ := s
  simp only at hk h1 hb d0 d1 hs2
  have HP := Lib.hid hp
  have HX := Lib.hid hs2
  have HR := Lib.hid hR
  have hkb : (sk == 2) = false := by simpa using hk
  clear hp hX' h hR hs2 hk
  go_enter Tryd.func70, Tryd.ntmps70
  go_wp2_with fail
  obtain ⟨w1, hw1⟩ : ∃ w1, w1 = w.setCell ⟨g, o * 3 + 1, none⟩ (.int .i64 (sn - n)) := ⟨_, rfl⟩
  have hg1 : w.grownBy w1 (some g) := by rw [hw1]; exact gb_set (World.grownBy.refl _ _) _ _
  have hz1 : w1.heap.size = w.heap.size := by rw [hw1]; simp
  rw [← hw1]
  obtain ⟨W, hW⟩ : ∃ W, W = ((w1.alloc (.cells #[.int .i64 0, .int .i64 0, .string ⟨#[]⟩] 26)).alloc (.cells #[.int .i64 sk, .int .i64 n, .string ⟨#[]⟩] 26)) := ⟨_, rfl⟩
  rw [← hW]
  have hp1 : w1.heap[p]? = some (.cells #[.slice (some ⟨g, o * 3, none⟩) (X.length + 1) c, tv] 114 (0, 0)) := by rw [hw1]; exact blk_far HP.out (p := ⟨g, o * 3 + 1, none⟩) hpg _
  have hX1 : Rd w1 (.slice (some ⟨g, o * 3, none⟩) (X.length + 1) c) g (⟨sk, sn - n, st⟩ :: X) := by rw [hw1]; exact HX.out
  have hR1 : Rn w1 tv [] := ⟨HR.out.out.choose, HR.out.out.choose_spec.choose, HR.out.out.choose_spec.choose_spec.1, HR.out.out.choose_spec.choose_spec.2.1, HR.out.out.choose_spec.choose_spec.2.2.1, fun h => absurd h (by simp)⟩
  have hBW : Below w1.heap.size w1 W := by rw [hW]; exact ((Below.refl _ _).alloc (Nat.le_refl _) _).alloc (by simp) _
  have hpW := blk_below hp1 hBW
  have hXW := hX1.below hBW hX1.lt
  have hW1 : Rdr W p g (⟨sk, sn - n, st⟩ :: X) [] := ⟨_, _, hpW, hXW, hR1.below hBW⟩
  have hgr : w1.grownBy W (some p) := grown_of_below hBW _
  have hr0 : W.heap[w.heap.size]? = some (.cells #[Value.int .i64 0, .int .i64 0, .string ⟨#[]⟩] 26) := by
    rw [hW, ← hz1]
    exact blk_alloc (blk_new w1 _) _
  have hr1 : W.heap[w.heap.size + 1]? = some (.cells #[.int .i64 sk, .int .i64 n, .string ⟨#[]⟩] 26) := by
    rw [hW, ← hz1]
    have := blk_new (w1.alloc (.cells #[.int .i64 0, .int .i64 0, .string ⟨#[]⟩] 26)) (.cells #[.int .i64 sk, .int .i64 n, .string ⟨#[]⟩] 26)
    simpa using this
  have sc := rsize_calls p g ⟨sk, sn - n, st⟩ X [] W hW1 (by show (0:Int) ≤ sn - n; omega) (by show sn - n ≤ _; omega) (by simp)
  have HZ1 := Lib.hid hz1
  have hz2 : w1.heap.size ≤ w.heap.size := by omega
  clear hW hw1 hz1 k0 k2 f1 d0 d1 HP HX HR hp1 hX1 hR1 hBW hkb
  rw [show (⟨sk, sn - n, st⟩ : Sp).n + (([] : List Nat).length : Int) = 0 by have : (n : Int) = sn := H1.out; simp; omega] at sc
  refine sc.mono ?_
  rintro e w2 ⟨rfl, hb2⟩
  have q0 := blk_below hr0 hb2
  have q1 := blk_below hr1 hb2
  have hp2 := blk_below hpW hb2
  by_cases hcc : c = 1
  · subst hcc
    obtain rfl : X = [] := List.eq_nil_of_length_eq_zero (by omega)
    have hX3 := (hXW.below hb2 hXW.lt).tailAt (A := some ⟨g, o * 3, none⟩) (fun hlt => absurd hlt (by simp))
    have hX4 : Rd (w2.setCell ⟨p, 0, none⟩ (.slice (some ⟨g, o * 3, none⟩) (0) 0)) (.slice (some ⟨g, o * 3, none⟩) (0) 0) g ([]) := hX3.far (p := ⟨p, 0, none⟩) (fun e => hpg e.symm) (.slice (some ⟨g, o * 3, none⟩) (0) 0)
    have hp4 := blk_set hp2 0 (.slice (some ⟨g, o * 3, none⟩) (0) 0)
    have lc := load_calls p g ([]) _ _ _ hp4 hX4 hT
    have u0 := blk_cell hp2 0
    have u1 := blk_frozen hp2 0
    have q2 := blk_far q0 (p := ⟨p, 0, none⟩) (by show w.heap.size ≠ p; omega) (.slice (some ⟨g, o * 3, none⟩) (0) 0)
    have q3 := blk_far q1 (p := ⟨p, 0, none⟩) (by show w.heap.size + 1 ≠ p; omega) (.slice (some ⟨g, o * 3, none⟩) (0) 0)
    have hg2 := gb_set (gb_below hgr hb2) 0 (.slice (some ⟨g, o * 3, none⟩) (0) 0)
    have HX4 := Lib.hid hX4
    clear hX3 hX4 hXW hpW hp2 sc hp4 q0 q1 hW1
    go_wp2_with fail
    refine lc.mono ?_
    rintro e w3 ⟨rfl, tv3, hp5, hR5, hg5⟩
    have q0 := blk_grown q2 hg5 (by intro e; injection e with e; omega)
    have q1 := blk_grown q3 hg5 (by intro e; injection e with e; omega)
    have hW1 : Rdr w3 p g ([]) (firstT ([])) := ⟨_, tv3, hp5, HX4.out.grown hg5 (by intro e; injection e with e; exact hpg e.symm), hR5⟩
    have hg6 := World.grownBy.trans hg2 hg5
    have HW1 := Lib.hid hW1
    clear u0 u1 q2 q3 hg5 hg2 hR5 hp5 lc hW1
    have hr3 := q0
    have z0 := blk_cell q1 0
    have z1 := blk_cell q1 1
    have z2 := blk_cell q1 2
    have y0 := blk_cell q0 0
    have y1 := blk_cell q0 1
    have y2 := blk_cell q0 2
    have x0 := blk_frozen q0 0
    have x1 := blk_frozen q0 1
    have x2 := blk_frozen q0 2
    go_wp2_with fail
    have hG2 := gb_set (gb_set (gb_set (World.grownBy.refl w3 (some w.heap.size)) 0 (.int .i64 sk)) 1 (.int .i64 n)) 2 (.string ⟨#[]⟩)
    have hRf := HW1.out.grown hG2 (fun k e => by injection e with e; subst e; exact ⟨_, _, hr3, by decide⟩) (by intro e; injection e with e; omega) (by intro e; injection e with e; omega)
    have hGf := gb_new hg6 hG2 hz2
    refine bodyPost_ret (v := .agg #[.int .i64 sk, .int .i64 n, .string ⟨#[]⟩]) (by simp [results, Tryd.results70, go_sem, y0, y1, y2]) rfl ?_
    exact ⟨rfl, hRf, w1, hg1, hGf⟩
  · skip
    have hX3 := (hXW.below hb2 hXW.lt).tailAt (A := some ⟨g, o * 3 + 3, none⟩) (fun _ => by rw [Nat.add_mul])
    have hX4 : Rd (w2.setCell ⟨p, 0, none⟩ (.slice (some ⟨g, o * 3 + 3, none⟩) (X.length) (c - 1))) (.slice (some ⟨g, o * 3 + 3, none⟩) (X.length) (c - 1)) g (X) := hX3.far (p := ⟨p, 0, none⟩) (fun e => hpg e.symm) (.slice (some ⟨g, o * 3 + 3, none⟩) (X.length) (c - 1))
    have hp4 := blk_set hp2 0 (.slice (some ⟨g, o * 3 + 3, none⟩) (X.length) (c - 1))
    have lc := load_calls p g (X) _ _ _ hp4 hX4 hT
    have u0 := blk_cell hp2 0
    have u1 := blk_frozen hp2 0
    have q2 := blk_far q0 (p := ⟨p, 0, none⟩) (by show w.heap.size ≠ p; omega) (.slice (some ⟨g, o * 3 + 3, none⟩) (X.length) (c - 1))
    have q3 := blk_far q1 (p := ⟨p, 0, none⟩) (by show w.heap.size + 1 ≠ p; omega) (.slice (some ⟨g, o * 3 + 3, none⟩) (X.length) (c - 1))
    have hg2 := gb_set (gb_below hgr hb2) 0 (.slice (some ⟨g, o * 3 + 3, none⟩) (X.length) (c - 1))
    have HX4 := Lib.hid hX4
    clear hX3 hX4 hXW hpW hp2 sc hp4 q0 q1 hW1
    go_wp2_with fail
    refine lc.mono ?_
    rintro e w3 ⟨rfl, tv3, hp5, hR5, hg5⟩
    have q0 := blk_grown q2 hg5 (by intro e; injection e with e; omega)
    have q1 := blk_grown q3 hg5 (by intro e; injection e with e; omega)
    have hW1 : Rdr w3 p g (X) (firstT (X)) := ⟨_, tv3, hp5, HX4.out.grown hg5 (by intro e; injection e with e; exact hpg e.symm), hR5⟩
    have hg6 := World.grownBy.trans hg2 hg5
    have HW1 := Lib.hid hW1
    clear u0 u1 q2 q3 hg5 hg2 hR5 hp5 lc hW1
    have hr3 := q0
    have z0 := blk_cell q1 0
    have z1 := blk_cell q1 1
    have z2 := blk_cell q1 2
    have y0 := blk_cell q0 0
    have y1 := blk_cell q0 1
    have y2 := blk_cell q0 2
    have x0 := blk_frozen q0 0
    have x1 := blk_frozen q0 1
    have x2 := blk_frozen q0 2
    go_wp2_with fail
    have hG2 := gb_set (gb_set (gb_set (World.grownBy.refl w3 (some w.heap.size)) 0 (.int .i64 sk)) 1 (.int .i64 n)) 2 (.string ⟨#[]⟩)
    have hRf := HW1.out.grown hG2 (fun k e => by injection e with e; subst e; exact ⟨_, _, hr3, by decide⟩) (by intro e; injection e with e; omega) (by intro e; injection e with e; omega)
    have hGf := gb_new hg6 hG2 hz2
    refine bodyPost_ret (v := .agg #[.int .i64 sk, .int .i64 n, .string ⟨#[]⟩]) (by simp [results, Tryd.results70, go_sem, y0, y1, y2]) rfl ?_
    exact ⟨rfl, hRf, w1, hg1, hGf⟩

end Go.Proofs.YtmfpfipjhhfbhaaDoor

/- compose's newReader; what its readers hold, in steps. -/
namespace Go.Proofs.YtmfpfipjhhfbhaaDoor
open Go.RowKit Go.Proofs.YtmfpfipjhhfbhaaDoorW.PrintWords

def NewPost (xs : List Sp) (w : World) (e : Ending) (w' : World) : Prop :=
  ∃ p, e = .returned (.pointer (some ⟨p, 0, none⟩)) ∧ Rdr w' p w.heap.size (normS xs) (firstT (normS xs)) ∧ w.heap.size < p ∧ p < w'.heap.size ∧ Below w.heap.size w w'
set_option maxRecDepth 100000 in
set_option maxHeartbeats 1000000 in
theorem newReader_calls (A : Option Addr) (c : Nat) (xs : List Sp) (w : World) (hr : Kd.C kSp w A xs.length xs) (hm : xs.length ≤ 4194304) (hb : bytesL xs ≤ 4194304) (hT : ∀ s ∈ normS xs, s.t.size ≤ 1048576 ∧ txtOk s.t = true) :
    Calls Tryd.prog 68 #[.slice A xs.length c] w (NewPost xs w) := by
  have n1 := normOf_calls A c xs w hr (by omega) (by omega)
  clear hr
  go_enter Tryd.func68, Tryd.ntmps68
  go_wp2_with fail
  refine n1.mono ?_
  intro e w1 hN
  obtain ⟨v, rfl, hR, hb1⟩ := Rd.of_norm hN (by omega)
  clear hN n1
  have hlt := hR.lt
  obtain ⟨Av, cv, nX, rfl, hnX, HnX⟩ := hR.formN
  have hR2 := hR.alloc (.cells #[.slice Av nX cv, .slice none 0 0] 114)
  have hp2 := blk_new w1 (.cells #[.slice Av nX cv, .slice none 0 0] 114)
  have lc := load_calls w1.heap.size w.heap.size (normS xs) _ _ _ hp2 hR2 hT
  have HR2 := Lib.hid hR2
  clear hR hR2 hp2
  go_wp2_with fail
  refine lc.mono ?_
  rintro e w3 ⟨rfl, tv3, hp5, hR5, hg5⟩
  have hW : Rdr w3 w1.heap.size w.heap.size (normS xs) (firstT (normS xs)) := ⟨_, tv3, hp5, HR2.out.grown hg5 (by intro e; injection e with e; omega), hR5⟩
  have hpl := blk_lt hp5
  have hB : Below w.heap.size w w3 := ((hb1.alloc hb1.size _).grown hg5 (by simp; omega) (by simp; omega))
  clear lc hp5 hR5 hg5
  go_wp2_with fail
  go_ret
  exact ⟨w1.heap.size, rfl, hW, hlt, hpl, hB⟩

end Go.Proofs.YtmfpfipjhhfbhaaDoor
