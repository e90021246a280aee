/- epitomeref04.Fit. -/
import Derived.Test.YtmfpfipjhhfbhaaDoorRef01
import Derived.Test.YtmfpfipjhhfbhaaDoorOver
namespace Go.Proofs.YtmfpfipjhhfbhaaDoor
open Go.RowKit Go.Proofs.YtmfpfipjhhfbhaaDoorW.PrintWords

def fitK (s : Sp) : Int := 1 + s.k % 3
def fit1 (n : Int) (s : Sp) : Sp := if fitK s = 2 then ⟨2, 0, encB (fitC (s.t.extract 0 (min s.t.size 6)))⟩ else ⟨fitK s, min (s.n % 7) n, ⟨#[]⟩⟩
def fitGo (l : List Sp) (n : Int) : List Sp × Int := l.foldl (fun p s => (p.1 ++ [fit1 p.2 s], p.2 - (fit1 p.2 s).n)) ([], n)
def fitS (l : List Sp) (n : Int) : List Sp := if 0 < (fitGo (l.take 12) n).2 then (fitGo (l.take 12) n).1 ++ [⟨1, (fitGo (l.take 12) n).2, ⟨#[]⟩⟩] else (fitGo (l.take 12) n).1
theorem fitGo_snoc (l : List Sp) (n : Int) (s : Sp) : fitGo (l ++ [s]) n = ((fitGo l n).1 ++ [fit1 (fitGo l n).2 s], (fitGo l n).2 - (fit1 (fitGo l n).2 s).n) := by simp [fitGo, List.foldl_append]
theorem bz_encB (cs : List Nat) : (encB cs).size ≤ 4 * cs.length := by
  rw [← str_bz, strOfNums_size]; exact bz_length cs
theorem fit1_ok (n : Int) (s : Sp) (h0 : 0 ≤ n) (h1 : n ≤ 1048576) : spMay (fit1 n s) = 0 ∧ 0 ≤ (fit1 n s).n ∧ (fit1 n s).n ≤ n ∧ (inA (spAtoms (fit1 n s)) : Int) = (fit1 n s).n ∧ (fit1 n s).t.size ≤ 24 := by
  unfold fit1
  split
  · rename_i hk
    have hg := fitC_good (s.t.extract 0 (min s.t.size 6))
    refine ⟨may_put (validD_encB _ hg), Int.le_refl _, h0, ?_, ?_⟩
    · simp [spAtoms, inA_puts]
    · have := bz_encB (fitC (s.t.extract 0 (min s.t.size 6)))
      rw [fitC_length, ByteArray.size_extract] at this
      show (encB _).size ≤ 24
      omega
  · rename_i hk
    have hk2 : fitK s = 1 ∨ fitK s = 3 := by unfold fitK at hk ⊢; omega
    obtain ⟨m, hm⟩ : ∃ m : Nat, min (s.n % 7) n = m := ⟨(min (s.n % 7) n).toNat, by omega⟩
    rw [hm]
    refine ⟨may_keep hk2 (by omega), by show (0:Int) ≤ m; omega, by show (m:Int) ≤ n; omega, ?_, Nat.zero_le _⟩
    rcases hk2 with h | h
    · simp [spAtoms, h, inA_keeps]
    · simp [spAtoms, h, inA_drops]
theorem snoc_rec {α : Type} {P : List α → Prop} (nil : P []) (snoc : ∀ l s, P l → P (l ++ [s])) (l : List α) : P l := by
  have h : ∀ r : List α, P r.reverse := by
    intro r
    induction r with
    | nil => exact nil
    | cons x r ih => rw [List.reverse_cons]; exact snoc _ _ ih
  have := h l.reverse
  rwa [List.reverse_reverse] at this
theorem fitGo_ok (n : Int) (h0 : 0 ≤ n) (h1 : n ≤ 1048576) : ∀ l : List Sp, Valid (fitGo l n).1 ∧ 0 ≤ (fitGo l n).2 ∧ (inA (atoms (fitGo l n).1) : Int) + (fitGo l n).2 = n ∧ (fitGo l n).1.length = l.length ∧ bytesL (fitGo l n).1 ≤ 24 * l.length := by
  intro l
  induction l using snoc_rec with
  | nil => exact ⟨fun _ h => (by cases h), h0, by simp [fitGo, atoms, inA], rfl, Nat.le_refl _⟩
  | snoc l s ih =>
    obtain ⟨a1, a2, a3, a4, a5⟩ := ih
    obtain ⟨b1, b2, b3, b4, b5⟩ := fit1_ok (fitGo l n).2 s a2 (by omega)
    rw [fitGo_snoc]
    refine ⟨valid_snoc a1 b1, by show (0:Int) ≤ _ - _; omega, ?_, by simp [a4], ?_⟩
    · show ((inA (atoms (_ ++ _)) : Nat) : Int) + (_ - _) = n
      rw [atoms_append, atoms_one, inA_append]
      omega
    · rw [bytesL_snoc, List.length_append]
      simp only [List.length_singleton]
      omega
theorem fitS_ok (l : List Sp) (n : Int) (h0 : 0 ≤ n) (h1 : n ≤ 1048576) : Valid (fitS l n) ∧ (inA (atoms (fitS l n)) : Int) = n ∧ (fitS l n).length ≤ 13 ∧ bytesL (fitS l n) ≤ 288 := by
  obtain ⟨a1, a2, a3, a4, a5⟩ := fitGo_ok n h0 h1 (l.take 12)
  have hl : (l.take 12).length ≤ 12 := by rw [List.length_take]; omega
  unfold fitS
  split
  · rename_i hp
    obtain ⟨m, hm⟩ : ∃ m : Nat, (fitGo (l.take 12) n).2 = m := ⟨(fitGo (l.take 12) n).2.toNat, by omega⟩
    rw [hm]
    refine ⟨valid_snoc a1 (may_keep (.inl rfl) (by omega)), ?_, ?_, ?_⟩
    · rw [atoms_append, atoms_one, inA_append]
      have : inA (spAtoms ⟨1, m, ⟨#[]⟩⟩) = m := by simp [spAtoms, inA_keeps]
      omega
    · rw [List.length_append]; simp only [List.length_singleton]; omega
    · rw [bytesL_snoc]; show _ + 0 ≤ _; omega
  · exact ⟨a1, by omega, by omega, by omega⟩

theorem tm_cases (x m : Int) (hm : 0 < m) : x.tmod m = x % m ∨ x.tmod m = x % m - m := by
  rw [Int.tmod_eq_emod]
  split
  · exact .inl (by omega)
  · exact .inr (by omega)
theorem kind_fit (k : Int) : wrap64 (1 + (wrap64 (k.tmod 3 + 3)).tmod 3) = 1 + k % 3 := by
  have h1 : wrap64 (k.tmod 3 + 3) = k.tmod 3 + 3 := by
    rcases tm_cases k 3 (by omega) with h | h <;> rw [h] <;> unfold wrap64 <;> omega
  have h2 : (k.tmod 3 + 3).tmod 3 = k % 3 := by
    rcases tm_cases k 3 (by omega) with h | h
    · rw [h, Int.tmod_eq_emod_of_nonneg (by omega)]; omega
    · rw [h, Int.tmod_eq_emod_of_nonneg (by omega)]; omega
  rw [h1, h2]
  unfold wrap64; omega
theorem seven_fit (k : Int) : (wrap64 (k.tmod 7 + 7)).tmod 7 = k % 7 := by
  have h1 : wrap64 (k.tmod 7 + 7) = k.tmod 7 + 7 := by
    rcases tm_cases k 7 (by omega) with h | h <;> rw [h] <;> unfold wrap64 <;> omega
  rw [h1]
  rcases tm_cases k 7 (by omega) with h | h
  · rw [h, Int.tmod_eq_emod_of_nonneg (by omega)]; omega
  · rw [h, Int.tmod_eq_emod_of_nonneg (by omega)]; omega

section
variable {ops : Array Oper} {rest : List Oper} {o : Oper} {a : Act} {Q : Exit → Act → World → Prop}
/-- 'l = append(l, s)', l a row of the call's own. -/
theorem wp_push {base : Nat} {A : Option Addr} {cv : Nat} {out : List Sp} {w0 W : World} (hgd : o.guard = none) (s x : Operand) (ho : o.op = .call { callee := .builtin .append, args := #[s, x], argTypes := #[27, 27] })
    (p : Sp) (H : Kd.R kSp 26 W base (fun _ => True) (.slice A out.length cv) out) (HB : Below base w0 W)
    (hs : a.eval s = .slice A out.length cv) (hx : a.eval x = .slice (some ⟨W.heap.size, 0, none⟩) 1 1) (hl : out.length + 1 ≤ 4194304) (hbase : base ≤ w0.heap.size)
    (h : ∀ A1 c1 w1, Kd.R kSp 26 w1 base (fun _ => True) (.slice A1 (out.length + 1) c1) (out ++ [p]) → Below base w0 w1 → wpList Tryd.prog ops Q rest (a.put o.dst (.slice A1 (out.length + 1) c1)) w1) :
    wpList Tryd.prog ops Q (o :: rest) a (W.alloc (.cells #[.int .i64 p.k, .int .i64 p.n, .string p.t] 26)) := by
  have hz := HB.size
  refine Kd.R_append kSp (w0 := w0) (W := W) base hgd s x 27 26 _ 32 ho Tryd.underlying27 infoSp' rfl (by show 0 < 3; omega) (by omega) (.slice A out.length cv) out p [.int .i64 p.k, .int .i64 p.n, .string p.t] (fun _ => True) (fun _ => False) hs hx (kSp_mkM _ _ _ _) (fun k hk => hk.elim) (fun k hk => trivial) H HB (by omega) (by omega) ?_
  intro v1 w1 hr hb hg _
  obtain ⟨A1, d1, rfl⟩ := Kd.R_slice hr
  simp only [List.length_append, List.length_singleton] at hr ⊢
  exact h A1 d1 w1 hr hb
end

set_option maxRecDepth 100000 in
set_option maxHeartbeats 4000000 in
theorem fit_calls (A : Option Addr) (ca : Nat) (l : List Sp) (n : Int) (w : World) (hr : Kd.C kSp w A l.length l) (hT : ∀ s ∈ l, s.t.size ≤ 9223372036854775807) (h0 : 0 ≤ n) (h1 : n ≤ 1048576) :
    Calls Tryd.prog 22 #[.slice A l.length ca, .int .i64 n] w fun e w' => ∃ v, e = .returned v ∧ Kd.R kSp 26 w' w.heap.size (fun _ => True) v (fitS l n) ∧ Below w.heap.size w w' := by
  have hm := hr.2.1
  have HR := Aside0.mk hr
  clear hr
  go_enter Tryd.func22, Tryd.ntmps22
  go_wp2
  go_loopw [1, 5, 6] (fun nv v i wr => ∃ k : Nat, k ≤ l.length ∧ k ≤ 12 ∧ i = .int .i64 k ∧ nv = .int .i64 (fitGo (l.take k) n).2 ∧ Kd.R kSp 26 wr w.heap.size (fun _ => True) v (fitGo (l.take k) n).1 ∧ Below w.heap.size w wr) (fun _ _ i _ => 12 - (intOf i).toNat)
  case atStart =>
    refine ⟨0, Nat.zero_le _, Nat.zero_le _, rfl, rfl, ?_, (Below.refl _ _).alloc (Nat.le_refl _) _⟩
    have h := World.ownsRow_made (base := w.heap.size) (e := 26) (size := 3) w #[] 0 (Nat.le_refl _) (Nat.zero_le _) rfl
    exact ⟨fun _ _ => trivial, [], h, rfl, fun j p hj => by simp [fitGo] at hj⟩
  case round =>
    obtain ⟨k, hk, hk12, rfl, rfl, hO, hB⟩ := hrel
    rename_i wr
    have hz := hB.size
    obtain ⟨a1, a2, a3, a4, a5⟩ := fitGo_ok n h0 h1 (l.take k)
    have hlen : (l.take k).length = k := by rw [List.length_take]; omega
    obtain ⟨Av, cv, rfl⟩ := Kd.R_slice hO
    rw [hlen] at a4
    by_cases hlt : k < l.length ∧ k < 12
    · obtain ⟨hlt, hlt12⟩ := hlt
      obtain ⟨s, hs⟩ : ∃ s, l[k]? = some s := ⟨_, List.getElem?_eq_getElem hlt⟩
      obtain ⟨ad, rfl, c0, c1, c2⟩ := at_Sp (Kd.C_below HR.out hB) hs
      have hst := hT s (List.mem_of_getElem? hs)
      obtain ⟨b1, b2, b3, b4, b5⟩ := fit1_ok (fitGo (l.take k) n).2 s a2 (by omega)
      have hsn : Hid (fitGo (l.take (k + 1)) n = ((fitGo (l.take k) n).1 ++ [fit1 (fitGo (l.take k) n).2 s], (fitGo (l.take k) n).2 - (fit1 (fitGo (l.take k) n).2 s).n)) := by show _ = _; rw [take_snoc' hs, fitGo_snoc]
      clear a3 a5 hlen
      have hm2 : (fitGo (l.take k) n).2 ≤ 1048576 := by
        have := (fitGo_ok n h0 h1 (l.take k)).2.2.1
        omega
      generalize fitGo (l.take k) n = p at *
      obtain ⟨out, m⟩ := p
      simp only at a1 a2 a4 b1 b2 b3 b4 b5 hm2 hO hsn
      have hK : wrap64 (1 + (wrap64 (s.k.tmod 3 + 3)).tmod 3) = fitK s := kind_fit s.k
      have hl4 : out.length + 1 ≤ 4194304 := by rw [a4]; omega
      by_cases hk2 : fitK s = 2
      · have hkb : (fitK s == 2) = true := by simpa using hk2
        have hf : Hid (fit1 m s = ⟨2, 0, encB (fitC (s.t.extract 0 (min s.t.size 6)))⟩) := if_pos hk2
        obtain ⟨ad', he, d0, d1, d2⟩ := at_Sp (Kd.C_below HR.out (hB.alloc hz (.cells #[.int .i64 2, .int .i64 0, .string ⟨#[]⟩] 26))) hs
        obtain rfl : ad = ad' := Option.some.inj he
        clear hs
        have HO := Kd.R_alloc (Kd.R_bound hO) (.cells #[.int .i64 2, .int .i64 0, .string ⟨#[]⟩] 26)
        have BO := hB.alloc hz (.cells #[.int .i64 2, .int .i64 0, .string ⟨#[]⟩] 26)
        have HRo := heap_alloc_new wr (.cells #[.int .i64 2, .int .i64 0, .string ⟨#[]⟩] 26)
        rw [hf.out] at hsn
        go_wp2_with fail
        generalize wr.alloc (.cells #[.int .i64 2, .int .i64 0, .string ⟨#[]⟩] 26) = W at HO BO HRo d0 d1 d2 ⊢
        have hWl := blk_lt HRo
        have e2 := blk_cell HRo 2
        obtain ⟨q, hq⟩ : ∃ q, q = min s.t.size 6 := ⟨_, rfl⟩
        have hqi : min (s.t.size : Int) 6 = (q : Int) := by omega
        have hql : q ≤ s.t.size := by omega
        rw [← hq] at hsn
        have rc := refFit_calls (s.t.extract 0 q) W.drew (by rw [ByteArray.size_extract]; omega)
        clear hq
        clear hO hB c0 c1 c2
        generalize encB (fitC (s.t.extract 0 q)) = u at hsn rc
        go_region_law (go_simp; refine rc.mono ?_; rintro e w2 ⟨rfl, hb2⟩; have hq2 := (hb2.block wr.heap.size hWl).trans HRo; have z0 := blk_cell hq2 0; have z1 := blk_cell hq2 1; have z2 := blk_cell hq2 2; have z3 := blk_frozen hq2 2)
        all_goals (
          have hS := blk_set hq2 2 (.string u)
          have HO2 := Kd.R_mono (Kd.R_far (p := ⟨wr.heap.size, 2, none⟩) (Kd.R_below (Kd.R_drew HO) hb2) (fun k hk => by have := hk.2.2.1; show k ≠ wr.heap.size; omega) (.string u)) (fun _ _ => trivial : ∀ k, _ → True)
          have BO2 := ((below_drew BO).trans (hb2.mono (by have := BO.size; exact this))).setCell (p := ⟨wr.heap.size, 2, none⟩) hz (.string u)
          generalize w2.setCell ⟨wr.heap.size, 2, none⟩ (.string u) = V at HO2 BO2 hS ⊢
          have y0 := blk_cell hS 0
          have y1 := blk_cell hS 1
          have y2 := blk_cell hS 2
          clear z0 z1 z2 z3 d0 d1 d2 e2 rc
          go_wp2_with (at_builtin; go_loud (refine wp_push (base := w.heap.size) (w0 := w) rfl (.tmp 62) (.tmp 64) rfl ⟨2, 0, u⟩ HO2 BO2 (by simp [Act.eval, a4]) (by simp [Act.eval]) hl4 (Nat.le_refl _) ?_); intro A1 e1 w3 hO3 hB3)
          go_roundw
          case rel => exact ⟨k + 1, by omega, by omega, by go_num, by first | (rw [hsn.out]; done) | (rw [hsn.out]; simp), by have h := hO3; rw [a4] at h; rw [hsn.out]; exact h, hB3⟩
          case measure => simp [intOf]; omega)
      · have hkb : (fitK s == 2) = false := by simpa using hk2
        have hf : Hid (fit1 m s = ⟨fitK s, min (s.n % 7) m, ⟨#[]⟩⟩) := if_neg hk2
        have hN : (wrap64 (s.n.tmod 7 + 7)).tmod 7 = s.n % 7 := seven_fit s.n
        obtain ⟨v, hv⟩ : ∃ v, min (s.n % 7) m = v := ⟨_, rfl⟩
        have hv0 : 0 ≤ v := by omega
        have hv1 : v ≤ m := by omega
        rw [hv] at hf
        obtain ⟨ad', he, d0, d1, d2⟩ := at_Sp (Kd.C_below HR.out (hB.alloc hz (.cells #[.int .i64 (fitK s), .int .i64 0, .string ⟨#[]⟩] 26))) hs
        obtain rfl : ad = ad' := Option.some.inj he
        have HO := Kd.R_alloc hO (.cells #[.int .i64 (fitK s), .int .i64 v, .string ⟨#[]⟩] 26)
        have BO := hB.alloc hz (.cells #[.int .i64 (fitK s), .int .i64 v, .string ⟨#[]⟩] 26)
        clear hs hk2
        rw [hf.out] at hsn
        go_wp2_with (at_builtin; go_loud (refine wp_push (base := w.heap.size) (w0 := w) rfl (.tmp 62) (.tmp 64) rfl ⟨fitK s, v, ⟨#[]⟩⟩ HO BO rfl (by simp [Act.eval]) hl4 (Nat.le_refl _) ?_); intro A1 e1 w3 hO3 hB3)
        go_roundw
        case rel => exact ⟨k + 1, by omega, by omega, by go_num, by first | (rw [hsn.out]; done) | (rw [hsn.out]; go_num), by have h := hO3; rw [a4] at h; rw [hsn.out]; exact h, hB3⟩
        case measure => simp [intOf]; omega
    · have htk : l.take k = l.take 12 := by
        rcases Nat.lt_or_ge k l.length with h | h
        · have : k = 12 := by omega
          rw [this]
        · rw [List.take_of_length_le h, List.take_of_length_le (by omega)]
      have hfs : Hid (fitS l n = if 0 < (fitGo (l.take k) n).2 then (fitGo (l.take k) n).1 ++ [⟨1, (fitGo (l.take k) n).2, ⟨#[]⟩⟩] else (fitGo (l.take k) n).1) := by show _ = _; rw [htk]; rfl
      clear a3 a5 hlen htk a1
      generalize fitGo (l.take k) n = p at *
      obtain ⟨out, m⟩ := p
      simp only at a2 a4 hO hfs
      have hl4 : out.length + 1 ≤ 4194304 := by rw [a4]; omega
      have hgo : (k < l.length ∧ ¬ k < 12) ∨ ¬ k < l.length := by omega
      clear hlt
      rcases hgo with ⟨g1, g2⟩ | g1
      all_goals (
        by_cases hm0 : 0 < m
        · rw [if_pos hm0] at hfs
          go_wp2_with (at_builtin; go_loud (refine wp_push (base := w.heap.size) (w0 := w) rfl (.tmp 68) (.tmp 71) rfl ⟨1, m, ⟨#[]⟩⟩ hO hB (by simp [Act.eval, a4]) (by simp [Act.eval]) hl4 (Nat.le_refl _) ?_); intro A1 e1 w3 hO3 hB3)
          go_ret
          exact ⟨_, rfl, by rw [hfs.out]; have h := hO3; rw [a4] at h; exact h, hB3⟩
        · rw [if_neg hm0] at hfs
          go_wp2_with fail
          go_ret
          exact ⟨_, rfl, by rw [hfs.out]; have h := hO; rw [a4] at h; exact h, hB⟩)

end Go.Proofs.YtmfpfipjhhfbhaaDoor
