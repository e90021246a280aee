/- A block of the call's own that holds spans: what is read of it, what a store, a make, a copy and a clear leave. -/
import Derived.Test.YtmfpfipjhhfbhaaDoorBase
import Derived.Laws.CopyOwn
namespace Go.Proofs.YtmfpfipjhhfbhaaDoor
open Go.RowKit Go.Proofs.YtmfpfipjhhfbhaaDoorW.PrintWords

/-! ### a block that holds spans -/
def spCells (ys : List Sp) : List Value := ys.flatMap fun s => [.int .i64 s.k, .int .i64 s.n, .string s.t]
theorem spCells_length : ∀ ys : List Sp, (spCells ys).length = ys.length * 3
  | [] => rfl
  | s :: ys => by
    have := spCells_length ys
    simp only [spCells, List.flatMap_cons, List.length_append, List.length_cons, List.length_nil] at this ⊢
    omega
theorem spCells_append (xs ys : List Sp) : spCells (xs ++ ys) = spCells xs ++ spCells ys := by simp [spCells]
theorem spCells_get : ∀ (ys : List Sp) (j : Nat) (s : Sp), ys[j]? = some s → (spCells ys)[j * 3]? = some (.int .i64 s.k) ∧ (spCells ys)[j * 3 + 1]? = some (.int .i64 s.n) ∧ (spCells ys)[j * 3 + 2]? = some (.string s.t)
  | [], j, s, h => by simp at h
  | y :: ys, 0, s, h => by simp at h; subst h; exact ⟨rfl, rfl, rfl⟩
  | y :: ys, j + 1, s, h => by
    have := spCells_get ys j s (by simpa using h)
    rw [show (j + 1) * 3 = j * 3 + 3 by omega]
    exact this
theorem spCells_set : ∀ (ys : List Sp) (j : Nat) (s : Sp), ys[j]? = some s →
    (∀ v, (spCells ys).set (j * 3) (.int .i64 v) = spCells (ys.set j ⟨v, s.n, s.t⟩)) ∧ (∀ v, (spCells ys).set (j * 3 + 1) (.int .i64 v) = spCells (ys.set j ⟨s.k, v, s.t⟩)) ∧ (∀ v, (spCells ys).set (j * 3 + 2) (.string v) = spCells (ys.set j ⟨s.k, s.n, v⟩))
  | [], j, s, h => by simp at h
  | y :: ys, 0, s, h => by simp at h; subst h; exact ⟨fun _ => rfl, fun _ => rfl, fun _ => rfl⟩
  | y :: ys, j + 1, s, h => by
    obtain ⟨h1, h2, h3⟩ := spCells_set ys j s (by simpa using h)
    rw [show (j + 1) * 3 = j * 3 + 3 by omega]
    refine ⟨fun v => ?_, fun v => ?_, fun v => ?_⟩
    · show Value.int .i64 y.k :: .int .i64 y.n :: .string y.t :: (spCells ys).set (j * 3) _ = _
      rw [h1 v]; rfl
    · show Value.int .i64 y.k :: .int .i64 y.n :: .string y.t :: (spCells ys).set (j * 3 + 1) _ = _
      rw [h2 v]; rfl
    · show Value.int .i64 y.k :: .int .i64 y.n :: .string y.t :: (spCells ys).set (j * 3 + 2) _ = _
      rw [h3 v]; rfl

/-- Block g holds just these spans. -/
structure RowAt (w : World) (g : Nat) (ys : List Sp) : Prop where
  out : w.heap[g]? = some (.cells (spCells ys).toArray 26 (0, 0))
theorem RowAt.lt {w : World} {g : Nat} {ys : List Sp} (h : RowAt w g ys) : g < w.heap.size := blk_lt h.out
theorem RowAt.cell {w : World} {g : Nat} {ys : List Sp} (h : RowAt w g ys) {j : Nat} {s : Sp} (hj : ys[j]? = some s) : w.cell? ⟨g, j * 3, none⟩ = some (.int .i64 s.k) ∧ w.cell? ⟨g, j * 3 + 1, none⟩ = some (.int .i64 s.n) ∧ w.cell? ⟨g, j * 3 + 2, none⟩ = some (.string s.t) := by
  obtain ⟨h0, h1, h2⟩ := spCells_get ys j s hj
  exact ⟨by rw [blk_cell h.out]; simpa using h0, by rw [blk_cell h.out]; simpa using h1, by rw [blk_cell h.out]; simpa using h2⟩
theorem RowAt.frozen {w : World} {g : Nat} {ys : List Sp} (h : RowAt w g ys) (i : Nat) : w.frozen? ⟨g, i, none⟩ = false := blk_frozen h.out i
theorem RowAt.set_k {w : World} {g : Nat} {ys : List Sp} (h : RowAt w g ys) {j : Nat} {s : Sp} (hj : ys[j]? = some s) (v : Int) : RowAt (w.setCell ⟨g, j * 3, none⟩ (.int .i64 v)) g (ys.set j ⟨v, s.n, s.t⟩) :=
  ⟨by rw [blk_set h.out]; simp [← (spCells_set ys j s hj).1 v]⟩
theorem RowAt.set_n {w : World} {g : Nat} {ys : List Sp} (h : RowAt w g ys) {j : Nat} {s : Sp} (hj : ys[j]? = some s) (v : Int) : RowAt (w.setCell ⟨g, j * 3 + 1, none⟩ (.int .i64 v)) g (ys.set j ⟨s.k, v, s.t⟩) :=
  ⟨by rw [blk_set h.out]; simp [← (spCells_set ys j s hj).2.1 v]⟩
theorem RowAt.set_t {w : World} {g : Nat} {ys : List Sp} (h : RowAt w g ys) {j : Nat} {s : Sp} (hj : ys[j]? = some s) (v : ByteArray) : RowAt (w.setCell ⟨g, j * 3 + 2, none⟩ (.string v)) g (ys.set j ⟨s.k, s.n, v⟩) :=
  ⟨by rw [blk_set h.out]; simp [← (spCells_set ys j s hj).2.2 v]⟩
theorem RowAt.set_all {w : World} {g : Nat} {ys : List Sp} (h : RowAt w g ys) {j : Nat} (hj : j < ys.length) (s : Sp) :
    RowAt (((w.setCell ⟨g, j * 3, none⟩ (.int .i64 s.k)).setCell ⟨g, j * 3 + 1, none⟩ (.int .i64 s.n)).setCell ⟨g, j * 3 + 2, none⟩ (.string s.t)) g (ys.set j s) := by
  have h1 := h.set_k (List.getElem?_eq_getElem hj) s.k
  have h2 := h1.set_n (j := j) (s := ⟨s.k, ys[j].n, ys[j].t⟩) (by simp [hj]) s.n
  have h3 := h2.set_t (j := j) (s := ⟨s.k, s.n, ys[j].t⟩) (by simp [hj]) s.t
  simpa using h3
theorem RowAt.move {w w1 : World} {g : Nat} {ys : List Sp} (h : RowAt w g ys) (hm : w1.heap[g]? = w.heap[g]?) : RowAt w1 g ys := ⟨hm.trans h.out⟩
theorem RowAt.below {w w1 : World} {g : Nat} {ys : List Sp} (h : RowAt w g ys) {B : Nat} (hb : Below B w w1) (hg : g < B) : RowAt w1 g ys := h.move (hb.block g hg)
theorem RowAt.alloc {w : World} {g : Nat} {ys : List Sp} (h : RowAt w g ys) (o : Obj) : RowAt (w.alloc o) g ys := h.move (heap_alloc_old w o h.lt)
theorem RowAt.far {w : World} {g : Nat} {ys : List Sp} (h : RowAt w g ys) {p : Addr} (hp : g ≠ p.block) (u : Value) : RowAt (w.setCell p u) g ys := ⟨blk_far h.out hp u⟩
/-- The row read from its begin on. -/
theorem RowAt.reads {w : World} {g : Nat} {ys : List Sp} (h : RowAt w g ys) (hl : ys.length ≤ 9223372036854775807) (n : Nat) (hn : n ≤ ys.length) : Kd.C kSp w (some ⟨g, 0, none⟩) n (ys.take n) := by
  refine ⟨by simp; omega, by omega, fun _ => ⟨_, rfl, fun j p hj => ⟨[.int .i64 p.k, .int .i64 p.n, .string p.t], rfl, kSp_mk _ _, fun i u hu => ?_⟩⟩⟩
  have hj' : ys[j]? = some p := by
    rw [List.getElem?_take] at hj
    split at hj
    · exact hj
    · cases hj
  obtain ⟨h0, h1, h2⟩ := h.cell hj'
  rw [show kSp.sz = 3 from rfl, add_plain]
  match i, hu with
  | 0, hu => simp at hu; subst hu; exact h0
  | 1, hu => simp at hu; subst hu; exact h1
  | 2, hu => simp at hu; subst hu; exact h2
/-- The row as one that is owned. -/
theorem RowAt.owned {w : World} {g : Nat} {ys : List Sp} (h : RowAt w g ys) (hl : ys.length ≤ maxLen) {base : Nat} (hb : base ≤ g) (n : Nat) (hn : n ≤ ys.length) : Kd.R kSp 26 w base (fun _ => True) (.slice (some ⟨g, 0, none⟩) n ys.length) (ys.take n) := by
  refine ⟨fun _ _ => trivial, spCells (ys.take n), ⟨?_, .inr ⟨g, ys.length, (spCells ys).toArray, ?_, hb, h.out, by simp; omega, hl, ?_, ?_⟩⟩, ?_, fun j p hj => ?_⟩
  · rw [spCells_length]; rfl
  · simp; omega
  · simp [spCells_length]; rfl
  · simp only [List.length_take, Nat.min_eq_left hn]
    conv => lhs; rw [← List.take_append_drop n ys]
    rw [spCells_append]
    show (spCells (ys.take n) ++ spCells (ys.drop n)).take (n * 3) = _
    rw [List.take_append_of_le_length (by rw [spCells_length]; simp; omega), List.take_of_length_le (by rw [spCells_length]; simp; omega)]
  · rw [spCells_length]; rfl
  · have hsp : ∀ (zs : List Sp) (j : Nat) (p : Sp), zs[j]? = some p → ((spCells zs).drop (j * 3)).take 3 = [.int .i64 p.k, .int .i64 p.n, .string p.t] := by
      intro zs
      induction zs with
      | nil => intro j p h; simp at h
      | cons z zs ih =>
        intro j p h
        cases j with
        | zero => simp at h; subst h; rfl
        | succ j =>
          rw [show (j + 1) * 3 = j * 3 + 3 by omega]
          exact ih j p (by simpa using h)
    have := hsp _ j p hj
    show kSp.M _ _ _ _ (((spCells (ys.take n)).drop (j * 3)).take 3)
    rw [this]
    exact kSp_mkM _ _ _ _


theorem gb_alloc {w w1 : World} {r : Option Nat} (h : w.grownBy w1 r) (o : Obj) : w.grownBy (w1.alloc o) r := World.grownBy.trans h (World.grownBy_alloc _ _ _)
theorem gb_below {w w1 w2 : World} {r : Option Nat} (h : w.grownBy w1 r) (hb : Below w1.heap.size w1 w2) : w.grownBy w2 r := World.grownBy.trans h (grown_of_below hb _)
theorem gb_set {w w1 : World} {g : Nat} (h : w.grownBy w1 (some g)) (i : Nat) (v : Value) : w.grownBy (w1.setCell ⟨g, i, none⟩ v) (some g) :=
  World.grownBy.trans h ⟨rfl, rfl, rfl, by simp [World.setCell], fun k _ hne => Below.heap_setCell _ _ _ _ (by simpa using hne)⟩
theorem take_set_snoc {α : Type} {ys : List α} {i : Nat} (s : α) (h : i < ys.length) : (ys.set i s).take (i + 1) = ys.take i ++ [s] := by
  rw [List.take_succ_eq_append_getElem (by simpa using h)]
  simp [List.take_set]
  rw [List.set_eq_of_length_le (by simp; omega)]

/-! ### make, copy, clear -/
theorem infoSp : (Tryd.prog.info? 26).map (fun i => (i.zero, i.size, i.bytes)) = some (some (.agg #[.int .i64 0, .int .i64 0, .string ⟨#[]⟩]), 3, 32) := by kernel_rfl
theorem made_sp : ∀ n : Nat, (madeCells #[.int .i64 0, .int .i64 0, .string ⟨#[]⟩] (n * 3)).toList = spCells (List.replicate n Sp.z) := by
  intro n
  apply List.ext_getElem?
  intro i
  rcases Nat.lt_or_ge i (n * 3) with hi | hi
  · have hj : i / 3 < n := by omega
    obtain ⟨h0, h1, h2⟩ := spCells_get (List.replicate n Sp.z) (i / 3) Sp.z (by simp [hj])
    have he : (madeCells #[.int .i64 0, .int .i64 0, .string ⟨#[]⟩] (n * 3)).toList[i]? = some (#[.int .i64 0, .int .i64 0, .string ⟨#[]⟩][i % 3]!) := by simp [madeCells, hi]
    rw [he]
    have hm : i % 3 = 0 ∨ i % 3 = 1 ∨ i % 3 = 2 := by omega
    rcases hm with hm | hm | hm
    · rw [hm, show i = i / 3 * 3 by omega, h0]; rfl
    · rw [hm, show i = i / 3 * 3 + 1 by omega, h1]; rfl
    · rw [hm, show i = i / 3 * 3 + 2 by omega, h2]; rfl
  · rw [List.getElem?_eq_none (by simp [size_madeCells]; omega), List.getElem?_eq_none (by rw [spCells_length]; simp; omega)]
theorem spCells_one (ys : List Sp) : ∀ u ∈ spCells ys, u.oneCell' = true := by
  intro u hu
  obtain ⟨s, _, hs⟩ := List.mem_flatMap.1 hu
  simp at hs
  rcases hs with rfl | rfl | rfl <;> rfl

theorem spCells_take (ys : List Sp) (i : Nat) (hi : i ≤ ys.length) : (spCells ys).take (i * 3) = spCells (ys.take i) := by
  conv => lhs; rw [← List.take_append_drop i ys]
  rw [spCells_append, List.take_append_of_le_length (by rw [spCells_length]; simp; omega), List.take_of_length_le (by rw [spCells_length]; simp; omega)]
theorem clear_cells (ys zs : List Sp) (i : Nat) (h : i + zs.length = ys.length) : ((spCells ys).toArray.toList.take (i * 3 + 0) ++ spCells zs ++ (spCells ys).toArray.toList.drop (i * 3 + 0 + (spCells zs).length)).toArray = (spCells (ys.take i ++ zs)).toArray := by
  rw [List.drop_of_length_le (by simp [spCells_length]; omega), spCells_append, List.append_nil, Nat.add_zero, List.toList_toArray, spCells_take ys i (by omega)]

section
variable {w : World} {ops : Array Oper} {rest : List Oper} {o : Oper} {a : Act} {Q : Exit → Act → World → Prop}
/-- make([]api.Span, n). -/
theorem wp_make_sp (hg : o.guard = none) (l c : Operand) (hop : o.op = .makeSlice 27 l c) (n : Nat) (hl : a.eval l = .int .i64 n) (hc : a.eval c = .int .i64 n) (hn : n ≤ 4398046511104)
    (h : ∀ w', RowAt w' w.heap.size (List.replicate n Sp.z) → w.grownBy w' none → w.heap.size < w'.heap.size → wpList Tryd.prog ops Q rest (a.put o.dst (.slice (some ⟨w.heap.size, 0, none⟩) n n)) w') :
    wpList Tryd.prog ops Q (o :: rest) a w := by
  obtain ⟨i, hi, hz0, hz1, hz2⟩ := info_parts infoSp
  refine wpList_make_full w hg l c 27 hop w.heap.size 26 i _ 3 Tryd.underlying27 hi hz0 hz1 .i64 .i64 n n n hl hc rfl rfl (by rw [hz2]; omega) (by simp only [maxLen]; omega) (Nat.le_refl _) ?_
  intro w' hown hgr
  have hro : RowAt w' w.heap.size (List.replicate n Sp.z) := by
    rcases hown.2 with ⟨h1, _⟩ | ⟨g, cap, cur, h1, _, hh, _, _, hs, ht⟩
    · cases h1
    · simp at h1
      obtain ⟨rfl, rfl⟩ := h1
      refine ⟨hh.trans ?_⟩
      have : cur.toList = spCells (List.replicate n Sp.z) := by
        rw [List.take_of_length_le (by simp [hs])] at ht
        rw [ht]
        exact made_sp n
      rw [← this]
  exact h w' hro hgr hro.lt
/-- copy(dst, src), a whole row. -/
theorem wp_copy_sp (hgd : o.guard = none) (d s : Operand) (ho : o.op = .call { callee := .builtin .copy, args := #[d, s], argTypes := #[27, 27] })
    (g : Nat) (zs xs : List Sp) (A : Option Addr) (n c : Nat) (hd : a.eval d = .slice (some ⟨g, 0, none⟩) n n) (hs : a.eval s = .slice A n c) (hr : RowAt w g zs) (hz : zs.length = n) (hx : Kd.C kSp w A n xs)
    (h : ∀ w', RowAt w' g xs → w.grownBy w' (some g) → wpList Tryd.prog ops Q rest (a.put o.dst (.int .i64 n)) w') :
    wpList Tryd.prog ops Q (o :: rest) a w := by
  refine wpList_plain hgd fun K hK => ?_
  have hxl : xs.length = n := hx.1
  obtain ⟨i, hi, _, hz1, _⟩ := info_parts infoSp
  have hcells : ∀ ad, A = some ad → ∀ j v, (spCells xs)[j]? = some v → w.cell? (ad.add j) = some v := by
    intro ad had j v hv
    have hjl := (List.getElem?_eq_some_iff.1 hv).1
    rw [spCells_length] at hjl
    obtain ⟨ad', e, hc⟩ := hx.2.2 (by omega)
    obtain rfl : ad = ad' := by rw [had] at e; exact Option.some.inj e
    obtain ⟨s', hs'⟩ : ∃ s', xs[j / 3]? = some s' := ⟨_, List.getElem?_eq_getElem (by omega)⟩
    obtain ⟨cs, _, hK', hcell⟩ := hc (j / 3) s' hs'
    obtain rfl := kSp_open hK'
    have hcell' : ∀ i u, ([.int .i64 s'.k, .int .i64 s'.n, .string s'.t] : List Value)[i]? = some u → w.cell? (ad.add (j / 3 * 3 + i)) = some u := hcell
    obtain ⟨h0, h1, h2⟩ := spCells_get xs (j / 3) s' hs'
    have hm : j % 3 = 0 ∨ j % 3 = 1 ∨ j % 3 = 2 := by omega
    rcases hm with hm | hm | hm
    · rw [show j = j / 3 * 3 + 0 by omega] at hv ⊢
      rw [Nat.add_zero, h0] at hv
      exact hcell' 0 v hv
    · rw [show j = j / 3 * 3 + 1 by omega] at hv ⊢
      rw [h1] at hv
      exact hcell' 1 v hv
    · rw [show j = j / 3 * 3 + 2 by omega] at hv ⊢
      rw [h2] at hv
      exact hcell' 2 v hv
  have hrun : (Builtin.copy_ #[27, 27] o.type #[.slice (some ⟨g, 0, none⟩) n n, .slice A n c]).run Tryd.prog w = .ok (.int .i64 n) (w.setRow g (spCells xs).toArray) := by
    have hst := run_storeCells_at Tryd.prog g 0 26 (spCells xs) 0 (spCells zs).toArray w hr.out (by simp [spCells_length]; omega) (spCells_one xs)
    have e0 : ((spCells zs).toArray.toList.take (0 + 0) ++ spCells xs ++ (spCells zs).toArray.toList.drop (0 + 0 + (spCells xs).length)).toArray = (spCells xs).toArray := by
      rw [List.drop_of_length_le (by simp [spCells_length]; omega)]; simp
    rw [e0] at hst
    cases A with
    | none =>
      obtain rfl : n = 0 := by
        rcases Nat.eq_zero_or_pos n with h0 | h0
        · exact h0
        · obtain ⟨ad, e, _⟩ := hx.2.2 h0
          cases e
      obtain rfl : xs = [] := List.eq_nil_of_length_eq_zero hxl
      simp only [spCells, List.flatMap_nil] at hst
      simp [Builtin.copy_, run_underlying Tryd.underlying27, Builtin.lenOf, Builtin.firstCells, sizeOf, typeInfo, hi, hst, goInt, spCells]
    | some ad =>
      have hf := run_firstCells_some (P := Tryd.prog) w i.size n ad n c (spCells xs) (by rw [spCells_length, hxl, hz1]) (hcells ad rfl)
      simp [Builtin.copy_, run_underlying Tryd.underlying27, Builtin.lenOf, sizeOf, typeInfo, hi, hf, hst, goInt]
  have hro : RowAt (w.setRow g (spCells xs).toArray) g xs := ⟨setRow_heap w g _ _ _ _ hr.out⟩
  have hgr : w.grownBy (w.setRow g (spCells xs).toArray) (some g) := ⟨rfl, rfl, rfl, by simp, fun k hk hne => setRow_other w g k _ (by simpa using hne)⟩
  unfold Oper.wp
  simp [execOp, ho, resolve, invoke, builtin, hd, hs, hrun, Result.andThen]
  exact hK _ _ (h _ hro hgr)
/-- clear(s[i:]), a row's end. -/
theorem wp_clear_sp (hgd : o.guard = none) (x : Operand) (ho : o.op = .call { callee := .builtin .clear, args := #[x], argTypes := #[27] })
    (g i n c : Nat) (ys : List Sp) (hx : a.eval x = .slice (some ⟨g, i * 3, none⟩) n c) (hr : RowAt w g ys) (hn : i + n = ys.length) (hn0 : 0 < n)
    (h : ∀ w', RowAt w' g (ys.take i ++ List.replicate n Sp.z) → w.grownBy w' (some g) → wpList Tryd.prog ops Q rest (a.put o.dst (.tuple #[])) w') :
    wpList Tryd.prog ops Q (o :: rest) a w := by
  refine wpList_plain hgd fun K hK => ?_
  obtain ⟨m, rfl⟩ : ∃ m, n = m + 1 := ⟨n - 1, by omega⟩
  have hv : (zeroValue 26).run Tryd.prog w = .ok (.agg #[.int .i64 0, .int .i64 0, .string ⟨#[]⟩]) w := by kernel_rfl
  have hzc : (Builtin.zeroCells (Value.agg #[.int .i64 0, .int .i64 0, .string ⟨#[]⟩]).cells (m + 1)).toList = spCells (List.replicate (m + 1) Sp.z) := made_sp (m + 1)
  have hst := run_storeCells_at Tryd.prog g (i * 3) 26 (spCells (List.replicate (m + 1) Sp.z)) 0 (spCells ys).toArray w hr.out (by simp [spCells_length]; omega) (spCells_one _)
  have e0 := clear_cells ys (List.replicate (m + 1) Sp.z) i (by simp; omega)
  rw [e0] at hst
  have hrun : (Builtin.clear_ #[27] o.type #[.slice (some ⟨g, i * 3, none⟩) (m + 1) c]).run Tryd.prog w = .ok (.tuple #[]) (w.setRow g (spCells (ys.take i ++ List.replicate (m + 1) Sp.z)).toArray) := by
    simp [Builtin.clear_, run_underlying Tryd.underlying27, hv, hzc, hst]
  have hro : RowAt (w.setRow g (spCells (ys.take i ++ List.replicate (m + 1) Sp.z)).toArray) g (ys.take i ++ List.replicate (m + 1) Sp.z) := ⟨setRow_heap w g _ _ _ _ hr.out⟩
  have hgr : w.grownBy (w.setRow g (spCells (ys.take i ++ List.replicate (m + 1) Sp.z)).toArray) (some g) := ⟨rfl, rfl, rfl, by simp, fun k hk hne => setRow_other w g k _ (by simpa using hne)⟩
  unfold Oper.wp
  simp [execOp, ho, resolve, invoke, builtin, hx, hrun, Result.andThen]
  exact hK _ _ (h _ hro hgr)
end

end Go.Proofs.YtmfpfipjhhfbhaaDoor
