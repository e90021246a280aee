/- Rows of spans as literals make them; rows as a law's walk keeps them from call to call. -/
import Derived.Test.YtmfpfipjhhfbhaaDoorMeet
import Derived.Test.YtmfpfipjhhfbhaaDoorSmall
namespace Go.Proofs.YtmfpfipjhhfbhaaDoor
open Go.Lib Go.RowKit Go.Proofs.YtmfpfipjhhfbhaaDoorW.PrintWords

/-- A row of spans as a literal makes it. -/
theorem lit_row (w : World) (xs : List Sp) : RowAt (w.alloc (.cells (spCells xs).toArray 26)) w.heap.size xs := ⟨heap_alloc_new _ _⟩
theorem lit_reads (w : World) (xs : List Sp) (h : xs.length ≤ 100) : Kd.C kSp (w.alloc (.cells (spCells xs).toArray 26)) (some ⟨w.heap.size, 0, none⟩) xs.length xs := by
  have := (lit_row w xs).reads (by omega) xs.length (Nat.le_refl _)
  rwa [List.take_length] at this
theorem enc120 : encB [120] = ⟨#[120]⟩ := by rfl
theorem enc121 : encB [121] = ⟨#[121]⟩ := by rfl
theorem cps_of {c : Nat} {t : ByteArray} (h : encB [c] = t) (hg : goodC c) : cps t = [c] := by rw [← h]; exact cps_enc _ (by simpa using hg)
theorem put_of {c : Nat} {t : ByteArray} (h : encB [c] = t) (hg : goodC c) : spMay ⟨2, 0, t⟩ = 0 := by rw [← h]; exact may_put (validD_encB _ (by simpa using hg))
theorem good120 : goodC 120 := by unfold goodC; omega
theorem good121 : goodC 121 := by unfold goodC; omega
theorem gives_reads {w w' : World} {v : Value} {xs : List Sp} (h : Gives w w' v xs) : ∃ A c, v = .slice A xs.length c ∧ Kd.C kSp w' A xs.length xs := by
  obtain ⟨A, c, h1, _, h2⟩ := Kd.R_reads h
  exact ⟨A, c, h1, h2⟩


/-- A row of spans, as an element of a row. -/
def kRow : Kd (List Sp) where
  sz := 1
  E := 26 :: kSp.E
  K := fun w xs cs => ∃ A c, cs = [.slice A xs.length c] ∧ Kd.C kSp w A xs.length xs
  M := fun w base ok xs cs => ∃ v, cs = [v] ∧ Kd.R kSp 26 w base ok v xs
  K_len := by
    rintro w x cs ⟨A, c, rfl, _⟩
    rfl
  K_one := by
    rintro w x cs ⟨A, c, rfl, _⟩ u hu
    rw [List.mem_singleton.1 hu]
    rfl
  K_below := by
    rintro w w1 x cs hb ⟨A, c, rfl, hr⟩
    exact ⟨A, c, rfl, Kd.C_below hr hb⟩
  K_of_M := by
    rintro w base ok x cs ⟨v, rfl, h⟩
    obtain ⟨A, c, rfl, _, hr⟩ := Kd.R_reads h
    exact ⟨A, c, rfl, hr⟩
  M_mono := by
    rintro w base ok ok' x cs hok ⟨v, rfl, h⟩
    exact ⟨v, rfl, Kd.R_mono h hok⟩
  M_bound := by
    rintro w base ok x cs ⟨v, rfl, h⟩
    exact ⟨v, rfl, Kd.R_bound h⟩
  M_move := by
    rintro w w1 base ok x cs hm ⟨v, rfl, h⟩
    exact ⟨v, rfl, Kd.R_move h hm⟩
  M_lower := by
    rintro w base base' ok x cs hb ⟨v, rfl, h⟩
    exact ⟨v, rfl, Kd.R_lower h hb⟩
/-- What a walk keeps from call to call: a row, a row of rows, a block that stays. -/
inductive Ent where
  | row (A : Option Addr) (xs : List Sp)
  | rows (A : Option Addr) (xss : List (List Sp))
  | blk (b : Nat) (o : Obj)
def Ent.holds (w : World) : Ent → Prop
  | .row A xs => Kd.C kSp w A xs.length xs
  | .rows A xss => Kd.C kRow w A xss.length xss
  | .blk b o => w.heap[b]? = some o
theorem Ent.later {w w1 : World} {x : Ent} (h : x.holds w) (hb : Below w.heap.size w w1) : x.holds w1 := by
  cases x with
  | row A xs => exact Kd.C_below h hb
  | rows A xss => exact Kd.C_below h hb
  | blk b o => exact blk_below h hb
/-- The rows of a walk: the world that it began in, the world that it is in, and where each row lies. -/
structure Env (w0 w : World) (l : List Ent) : Prop where
  bel : Below w0.heap.size w0 w
  laid : Laid w
  all : ∀ x ∈ l, x.holds w
theorem Env.start {w : World} (hL : Laid w) : Env w w [] := ⟨Below.refl _ _, hL, fun _ h => by cases h⟩
theorem Env.next {w0 w w1 : World} {l : List Ent} (h : Env w0 w l) (hb : Below w.heap.size w w1) : Env w0 w1 l :=
  ⟨h.bel.trans (hb.mono h.bel.size), h.laid.below hb, fun x hm => Ent.later (h.all x hm) hb⟩
theorem Env.ent {w0 w : World} {l : List Ent} (h : Env w0 w l) {x : Ent} (hx : x.holds w) : Env w0 w (x :: l) :=
  ⟨h.bel, h.laid, fun y hm => by
    rcases List.mem_cons.1 hm with rfl | e
    · exact hx
    · exact h.all y e⟩
theorem Env.add {w0 w : World} {l : List Ent} (h : Env w0 w l) {A : Option Addr} {xs : List Sp} (hC : Kd.C kSp w A xs.length xs) : Env w0 w (.row A xs :: l) := h.ent (x := .row A xs) hC
theorem Env.adds {w0 w : World} {l : List Ent} (h : Env w0 w l) {A : Option Addr} {xss : List (List Sp)} (hC : Kd.C kRow w A xss.length xss) : Env w0 w (.rows A xss :: l) := h.ent (x := .rows A xss) hC
theorem Env.box {w0 w : World} {l : List Ent} (h : Env w0 w l) {b : Nat} {o : Obj} (hC : w.heap[b]? = some o) : Env w0 w (.blk b o :: l) := h.ent (x := .blk b o) hC
theorem Env.row {w0 w : World} {l : List Ent} (h : Env w0 w l) (i : Nat) {A : Option Addr} {xs : List Sp} (hi : l[i]? = some (.row A xs)) : Kd.C kSp w A xs.length xs := h.all (.row A xs) (List.mem_of_getElem? hi)
theorem Env.rows {w0 w : World} {l : List Ent} (h : Env w0 w l) (i : Nat) {A : Option Addr} {xss : List (List Sp)} (hi : l[i]? = some (.rows A xss)) : Kd.C kRow w A xss.length xss := h.all (.rows A xss) (List.mem_of_getElem? hi)
theorem Env.blk {w0 w : World} {l : List Ent} (h : Env w0 w l) (i : Nat) {b : Nat} {o : Obj} (hi : l[i]? = some (.blk b o)) : w.heap[b]? = some o := h.all (.blk b o) (List.mem_of_getElem? hi)
theorem Env.alloc {w0 w : World} {l : List Ent} (h : Env w0 w l) (o : Obj) : Env w0 (w.alloc o) (.blk w.heap.size o :: l) := (h.next ((Below.refl _ _).alloc (Nat.le_refl _) _)).box (blk_new w o)
theorem Env.lit {w0 w : World} {l : List Ent} (h : Env w0 w l) (xs : List Sp) (hl : xs.length ≤ 100) : Env w0 (w.alloc (.cells (spCells xs).toArray 26)) (.row (some ⟨w.heap.size, 0, none⟩) xs :: l) :=
  (h.next ((Below.refl _ _).alloc (Nat.le_refl _) _)).add (lit_reads w xs hl)

/-- A row of rows as a literal (a call's last arguments) makes it. -/
theorem Env.lits {w0 w : World} {l : List Ent} (h : Env w0 w l) (vs : List (Option Addr × List Sp × Nat)) (hv : ∀ p ∈ vs, Ent.row p.1 p.2.1 ∈ l) (hl : vs.length ≤ 100) :
    Env w0 (w.alloc (.cells (vs.map fun p => Value.slice p.1 p.2.1.length p.2.2).toArray 27)) (.rows (some ⟨w.heap.size, 0, none⟩) (vs.map fun p => p.2.1) :: l) := by
  have h1 := h.next (w1 := w.alloc (.cells (vs.map fun p => Value.slice p.1 p.2.1.length p.2.2).toArray 27)) ((Below.refl _ _).alloc (Nat.le_refl _) _)
  refine h1.adds ⟨rfl, by simp; omega, fun _ => ⟨_, rfl, fun j xs hj => ?_⟩⟩
  rw [List.getElem?_map, Option.map_eq_some_iff] at hj
  obtain ⟨p, hp, rfl⟩ := hj
  refine ⟨[.slice p.1 p.2.1.length p.2.2], rfl, ⟨p.1, p.2.2, rfl, h1.all (.row p.1 p.2.1) (hv p (List.mem_of_getElem? hp))⟩, fun i u hu => ?_⟩
  rw [show j * kRow.sz = j from Nat.mul_one j, add_plain, blk_cell (blk_new _ _)]
  match i, hu with
  | 0, hu =>
    simp at hu
    subst hu
    simp [hp]
theorem Env.swap {w0 w : World} {l l' : List Ent} (h : Env w0 w l) (hs : ∀ x ∈ l', x ∈ l) : Env w0 w l' := ⟨h.bel, h.laid, fun x hx => h.all x (hs x hx)⟩

/-- A row of spans that may be, of few steps: l. -/
structure Rw (X : List Sp) (l : List At) (b : Nat) : Prop where
  valid : Valid X
  ato : atoms X = l
  good : GoodAs l
  few : l.length ≤ b
  len : X.length ≤ b
  byt : bytesL X ≤ 4 * b
theorem Rw.fw {X : List Sp} {l : List At} {b : Nat} (h : Rw X l b) : Few l b := ⟨h.good, h.few⟩
theorem Rw.of {l : List At} {b : Nat} (h : Few l b) (hb : b ≤ 262144) : Rw (ofA l) l b := by
  obtain ⟨h1, h2, h3, h4⟩ := few_ofA h hb
  exact ⟨h1, h2, h.good, h.len, h3, h4⟩
theorem Rw.norm {X : List Sp} {l : List At} {b : Nat} (h : Rw X l b) : normS X = ofA l := by rw [normS_atoms h.valid, h.ato]
theorem Rw.texts {X : List Sp} {l : List At} {b : Nat} (h : Rw X l b) (hb : b ≤ 262144) : TextsOk X := texts_ok (by have := h.byt; omega)
theorem Rw.ins {X : List Sp} {l : List At} {b : Nat} (h : Rw X l b) (hb : b ≤ 262144) : sumW spIn X = inA l := by rw [row_in h.valid (by rw [h.ato]; have := h.few; omega), h.ato]
theorem Rw.outs {X : List Sp} {l : List At} {b : Nat} (h : Rw X l b) (hb : b ≤ 262144) : sumW spOut X = outA l := by rw [row_out h.valid (by rw [h.ato]; have := h.few; omega), h.ato]
theorem Rw.fit2 {X Y : List Sp} {a s : List At} {b c : Nat} (hx : Rw X a b) (hy : Rw Y s c) (hio : inA a = inA s) (hb : b ≤ 262144) (hc : c ≤ 262144) : Fit2 X Y := by
  have h1 := in_le a
  have h2 := hx.few; have h3 := hx.len; have h4 := hx.byt; have h5 := hy.len; have h6 := hy.byt
  exact ⟨hx.valid, hy.valid, by rw [hx.ato, hy.ato]; exact hio, by rw [hx.ato]; omega, by omega, by omega, by omega, by omega⟩
theorem Rw.over {X Y : List Sp} {a s : List At} {b c : Nat} (hx : Rw X a b) (hy : Rw Y s c) (hio : inA a = inA s) (hb : b + c ≤ 262144) : Rw (ofA (overA a s)) (overA a s) (b + c) := Rw.of (few_over hx.fw hy.fw hio) hb
theorem Rw.under {X Y : List Sp} {a s : List At} {b c : Nat} (hx : Rw X a b) (hy : Rw Y s c) (hio : inA a = inA s) (hb : b + c ≤ 262144) : Rw (ofA (underA s a)) (underA s a) (b + c) := Rw.of (few_under hx.fw hy.fw hio) hb
theorem Rw.up {X : List Sp} {l : List At} {b c : Nat} (h : Rw X l b) (hb : b ≤ c) : Rw X l c := ⟨h.valid, h.ato, h.good, by have := h.few; omega, by have := h.len; omega, by have := h.byt; omega⟩

/-! ### the contracts, in steps -/
theorem over_rw {X Y : List Sp} {a s : List At} {b c : Nat} (hx : Rw X a b) (hy : Rw Y s c) (hio : inA a = inA s) (hb : b + c ≤ 262144) (A B : Option Addr) (ca cb : Nat) (w : World) (hL : Laid w) (h1 : Kd.C kSp w A X.length X) (h2 : Kd.C kSp w B Y.length Y) :
    Calls Tryd.prog 17 #[.slice A X.length ca, .slice B Y.length cb] w fun e w' => ∃ v, e = .returned (.tuple #[v, .int .i64 0]) ∧ Gives w w' v (ofA (overA a s)) ∧ Below w.heap.size w w' := by
  have h := over_ok A B ca cb X Y w hL h1 h2 (hx.fit2 hy hio (by omega) (by omega))
  rw [hx.ato, hy.ato] at h
  exact h
theorem under_rw {X Y : List Sp} {a s : List At} {b c : Nat} (hx : Rw X a b) (hy : Rw Y s c) (hio : inA a = inA s) (hb : b + c ≤ 262144) (A B : Option Addr) (ca cb : Nat) (w : World) (hL : Laid w) (h1 : Kd.C kSp w A X.length X) (h2 : Kd.C kSp w B Y.length Y) :
    Calls Tryd.prog 18 #[.slice A X.length ca, .slice B Y.length cb] w fun e w' => ∃ v, e = .returned (.tuple #[v, .int .i64 0]) ∧ Gives w w' v (ofA (underA a s)) ∧ Below w.heap.size w w' := by
  have h := under_ok A B ca cb X Y w hL h1 h2 (hx.fit2 hy hio (by omega) (by omega)) hL.size
  rw [hx.ato, hy.ato] at h
  exact h
theorem meet_rw {X Y : List Sp} {a s : List At} {b c : Nat} (hx : Rw X a b) (hy : Rw Y s c) (hio : inA a = inA s) (hb : b + c ≤ 262144) (A B : Option Addr) (ca cb : Nat) (w : World) (hL : Laid w) (h1 : Kd.C kSp w A X.length X) (h2 : Kd.C kSp w B Y.length Y) :
    Calls Tryd.prog 25 #[.slice A X.length ca, .slice B Y.length cb] w fun e w' => ∃ v u, e = .returned (.tuple #[v, u, .int .i64 0]) ∧ Gives w w' v (ofA (overA a s)) ∧ Gives w w' u (ofA (underA s a)) ∧ Below w.heap.size w w' := by
  have h := meet_ok A B ca cb X Y w hL h1 h2 (hx.fit2 hy hio (by omega) (by omega))
  rw [hx.ato, hy.ato] at h
  exact h
theorem norm_rw {X : List Sp} {a : List At} {b : Nat} (hx : Rw X a b) (hb : b ≤ 262144) (A : Option Addr) (ca : Nat) (w : World) (h1 : Kd.C kSp w A X.length X) :
    Calls Tryd.prog 21 #[.slice A X.length ca] w fun e w' => ∃ v, e = .returned v ∧ Gives w w' v (ofA a) ∧ Below w.heap.size w w' := by
  have h3 := hx.len; have h4 := hx.byt
  refine (normOf_calls A ca X w h1 (by omega) (by omega)).mono ?_
  intro e w' hN
  obtain ⟨v, rfl, hv, hb⟩ := norm_owned hN (by omega)
  rw [hx.norm] at hv
  exact ⟨v, rfl, hv, hb⟩

end Go.Proofs.YtmfpfipjhhfbhaaDoor

/- op.Keep; what a function's result is as a row that is read. -/
namespace Go.Proofs.YtmfpfipjhhfbhaaDoor
open Go.RowKit Go.Proofs.YtmfpfipjhhfbhaaDoorW.PrintWords

def keepS (n : Nat) : List Sp := if n = 0 then [] else [⟨1, n, ⟨#[]⟩⟩]
theorem keepS_atoms (n : Nat) : atoms (keepS n) = List.replicate n .keep := by
  unfold keepS
  split
  · rename_i h; rw [h]; rfl
  · rw [atoms_one]; simp [spAtoms]
theorem keepS_valid (n : Nat) (h : n ≤ 1048576) : Valid (keepS n) := by
  unfold keepS
  split
  · intro s hs; cases hs
  · intro s hs
    rw [List.mem_singleton.1 hs]
    exact may_keep (.inl rfl) h
theorem keepS_small (n : Nat) : (keepS n).length ≤ 1 ∧ bytesL (keepS n) = 0 := by
  unfold keepS
  split <;> exact ⟨by simp, rfl⟩
theorem keepS_norm (n : Nat) : normS (keepS n) = keepS n := by
  unfold keepS
  split
  · rfl
  · rename_i h
    have hf : full ⟨1, n, ⟨#[]⟩⟩ = true := by
      have : ((n : Int) == 0) = false := by simpa using h
      simp [full, spEmpty, this]
    simp [normS, hf, nstep]
theorem ofA_keeps (n : Nat) (h : n ≤ 1048576) : ofA (List.replicate n .keep) = keepS n := by
  rw [← keepS_atoms n, ← normS_atoms (keepS_valid n h), keepS_norm]
theorem gives_lit (w : World) (xs : List Sp) (h : xs.length ≤ 100) : Gives w (w.alloc (.cells (spCells xs).toArray 26)) (.slice (some ⟨w.heap.size, 0, none⟩) xs.length xs.length) xs := by
  have := (lit_row w xs).owned (n := xs.length) (base := w.heap.size) (by unfold maxLen; omega) (Nat.le_refl _) (Nat.le_refl _)
  rw [List.take_length] at this
  exact this
set_option maxHeartbeats 1000000 in
theorem opKeep_ok (n : Nat) (w : World) (h : n ≤ 1048576) :
    Calls Tryd.prog 34 #[.int .i64 n] w fun e w' => ∃ v, e = .returned (.tuple #[v, .int .i64 0]) ∧ Gives w w' v (keepS n) ∧ Below w.heap.size w w' := by
  by_cases h0 : n = 0
  · subst h0
    go_enter Tryd.func34, Tryd.ntmps34
    go_wp2
    refine bodyPost_ret (v := .tuple #[.slice none 0 0, .int .i64 0]) (by simp [results, Tryd.results34, go_sem]) rfl ⟨_, rfl, Kd.R_nil _ _ _ _ _, Below.refl _ _⟩
  · have hb : ((n : Int) == 0) = false := by simpa using h0
    have hk : keepS n = [⟨1, n, ⟨#[]⟩⟩] := if_neg h0
    have hg := gives_lit w [⟨1, n, ⟨#[]⟩⟩] (by simp)
    rw [hk]
    clear hk h0
    have HG := Lib.hid hg
    clear hg
    go_enter Tryd.func34, Tryd.ntmps34
    go_wp2
    refine bodyPost_ret (v := .tuple #[.slice (some ⟨w.heap.size, 0, none⟩) 1 1, .int .i64 0]) (by simp [results, Tryd.results34, go_sem]) rfl ⟨_, rfl, HG.out, (Below.refl _ _).alloc (Nat.le_refl _) _⟩
set_option maxHeartbeats 1000000 in
theorem opKeep_err (n : Int) (w : World) (h : n < 0 ∨ 1048576 < n) :
    Calls Tryd.prog 34 #[.int .i64 n] w fun e w' => e = .returned (.tuple #[.slice none 0 0, .int .i64 2]) ∧ w = w' := by
  rcases h with h | h
  · go_enter Tryd.func34, Tryd.ntmps34
    go_wp2
    exact bodyPost_ret (v := .tuple #[.slice none 0 0, .int .i64 2]) (by simp [results, Tryd.results34, go_sem]) rfl ⟨rfl, rfl⟩
  · go_enter Tryd.func34, Tryd.ntmps34
    go_wp2
    exact bodyPost_ret (v := .tuple #[.slice none 0 0, .int .i64 2]) (by simp [results, Tryd.results34, go_sem]) rfl ⟨rfl, rfl⟩

end Go.Proofs.YtmfpfipjhhfbhaaDoor
