/- epitomeref04.Chain: a chain of operations that may be. -/
import Derived.Test.YtmfpfipjhhfbhaaDoorRef03
import Derived.Test.YtmfpfipjhhfbhaaDoorFuse
namespace Go.Proofs.YtmfpfipjhhfbhaaDoor
open Go.RowKit Go.Proofs.YtmfpfipjhhfbhaaDoorW.PrintWords

def chGo (l : List (List Sp)) (n : Int) : List (List Sp) × Int := l.foldl (fun p x => (p.1 ++ [fitS x p.2], sumW spOut (fitS x p.2))) ([], n)
/-- What Chain makes. -/
def chainS (l : List (List Sp)) (n : Int) : List (List Sp) := (chGo (l.take 20) n).1
theorem chGo_snoc (l : List (List Sp)) (n : Int) (x : List Sp) : chGo (l ++ [x]) n = ((chGo l n).1 ++ [fitS x (chGo l n).2], sumW spOut (fitS x (chGo l n).2)) := by simp [chGo, List.foldl_append]
theorem fit_rw2 (xs : List Sp) (m : Nat) (hm : m ≤ 100000) : Rw (fitS xs m) (atoms (fitS xs m)) (m + 288) ∧ inA (atoms (fitS xs m)) = m ∧ outA (atoms (fitS xs m)) ≤ m + 288 := by
  obtain ⟨a1, a2, a3, a4⟩ := fitS_ok xs m (by omega) (by omega)
  have hin : inA (atoms (fitS xs m)) = m := by omega
  have hl := atoms_length_le a1
  have ho := out_le' (atoms (fitS xs m))
  exact ⟨⟨a1, rfl, good_atoms a1, by omega, by omega, by omega⟩, hin, by omega⟩
theorem Bnd.up {L : List (List Sp)} {b c : Nat} (h : Bnd L b) (hb : b ≤ c) : Bnd L c := ⟨fun X hX => (h.row X hX).up hb⟩
theorem Bnd.snoc {L : List (List Sp)} {b : Nat} {X : List Sp} (h : Bnd L b) (hX : Rw X (atoms X) b) : Bnd (L ++ [X]) b := ⟨fun Y hY => by
  rcases List.mem_append.1 hY with h1 | h1
  · exact h.row Y h1
  · rw [List.mem_singleton.1 h1]; exact hX⟩
set_option maxRecDepth 10000 in
theorem chGo_ok (m : Nat) (hm : m ≤ 1000) : ∀ l : List (List Sp), l.length ≤ 20 → Chn m (chGo l m).1 ∧ Bnd (chGo l m).1 (m + 288 * l.length) ∧ (chGo l m).1.length = l.length ∧ (chGo l m).2 = endN m (chGo l m).1 ∧ endN m (chGo l m).1 ≤ m + 288 * l.length := by
  intro l
  induction l using snoc_rec with
  | nil => exact fun _ => ⟨trivial, ⟨fun X hX => by cases hX⟩, rfl, rfl, by show m ≤ _; omega⟩
  | snoc l x ih =>
    intro hl
    rw [List.length_append, List.length_singleton] at hl
    obtain ⟨i1, i2, i3, i4, i5⟩ := ih (by omega)
    rw [chGo_snoc]
    rw [i4]
    generalize hq : endN m (chGo l m).1 = q at *
    obtain ⟨f1, f2, f3⟩ := fit_rw2 x q (by omega)
    have hout : sumW spOut (fitS x q) = outA (atoms (fitS x q)) := f1.outs (by omega)
    simp only
    refine ⟨(chn_append _ _ _).2 ⟨i1, by rw [hq]; exact ⟨f2, trivial⟩⟩, (i2.up (by simp; omega)).snoc (f1.up (by simp; omega)), by simp [i3], by rw [endN_snoc, hout], ?_⟩
    rw [endN_snoc, List.length_append, List.length_singleton]
    omega
theorem chainS_ok (l : List (List Sp)) (m : Nat) (hm : m ≤ 1000) : Chn m (chainS l m) ∧ Bnd (chainS l m) (m + 5760) ∧ (chainS l m).length ≤ 20 ∧ endN m (chainS l m) ≤ m + 5760 := by
  have hl : (l.take 20).length ≤ 20 := by rw [List.length_take]; omega
  obtain ⟨h1, h2, h3, _, h5⟩ := chGo_ok m hm (l.take 20) hl
  exact ⟨h1, h2.up (by omega), by unfold chainS; omega, by unfold chainS; omega⟩

theorem info_row : (Tryd.prog.info? 27).map (fun i => (i.zero, i.size, i.bytes)) = some (some (.slice none 0 0), kRow.sz, 24) := by kernel_rfl
section
variable {ops : Array Oper} {rest : List Oper} {o : Oper} {a : Act} {Q : Exit → Act → World → Prop}
/-- 'l = append(l, s)', l a row of rows of the call's own, s a row of its own, too. -/
theorem wp_pushR {base : Nat} {A : Option Addr} {cv : Nat} {out : List (List Sp)} {w0 W : World} (hgd : o.guard = none) (s x : Operand) (ho : o.op = .call { callee := .builtin .append, args := #[s, x], argTypes := #[53, 53] })
    (p : List Sp) (v : Value) (H : Kd.R kRow 27 W base (fun _ => True) (.slice A out.length cv) out) (hp : Kd.R kSp 26 W base (fun _ => True) v p) (HB : Below base w0 W)
    (hs : a.eval s = .slice A out.length cv) (hx : a.eval x = .slice (some ⟨W.heap.size, 0, none⟩) 1 1) (hl : out.length + 1 ≤ 4194304) (hbase : base ≤ w0.heap.size)
    (h : ∀ A1 c1 w1, Kd.R kRow 27 w1 base (fun _ => True) (.slice A1 (out.length + 1) c1) (out ++ [p]) → Kd.R kSp 26 w1 base (fun _ => True) v p → Below base w0 w1 → wpList Tryd.prog ops Q rest (a.put o.dst (.slice A1 (out.length + 1) c1)) w1) :
    wpList Tryd.prog ops Q (o :: rest) a (W.alloc (.cells #[v] 27)) := by
  have hz := HB.size
  have hty : ∀ q, q ∈ 26 :: kSp.E → q ≠ 27 := by decide
  have hap := Kd.R_apartR hp H hty
  refine Kd.R_append kRow (w0 := w0) (W := W) base hgd s x 53 27 _ 24 ho Tryd.underlying53 info_row rfl (by show 0 < 1; omega) (by omega) (.slice A out.length cv) out p [v] (fun _ => True) (fun k => True ∧ some k ≠ (Value.slice A out.length cv).ownBlock) hs hx ⟨v, rfl, hap⟩ (fun k hk => hk) (fun k hk => trivial) H HB (by omega) (by omega) ?_
  intro v1 w1 hr hb hg _
  obtain ⟨A1, d1, rfl⟩ := Kd.R_slice hr
  have hp2 := Kd.R_over hp H hty hg
  simp only [List.length_append, List.length_singleton] at hr ⊢
  exact h A1 d1 w1 hr hp2 hb
end

structure ChInv (l : List (List Sp)) (n : Nat) (w wr : World) (nv v i : Value) : Prop where
  out : ∃ k : Nat, k ≤ l.length ∧ k ≤ 20 ∧ i = .int .i64 k ∧ nv = .int .i64 (chGo (l.take k) n).2 ∧ Kd.R kRow 27 wr w.heap.size (fun _ => True) v (chGo (l.take k) n).1 ∧ Below w.heap.size w wr
set_option maxRecDepth 100000 in
set_option maxHeartbeats 1000000 in
theorem chain4_calls (A : Option Addr) (ca : Nat) (l : List (List Sp)) (n : Nat) (w : World) (hr : Kd.C kRow w A l.length l) (hT : ∀ X ∈ l, ∀ s ∈ X, s.t.size ≤ 9223372036854775807) (hn : n ≤ 1000) :
    Calls Tryd.prog 42 #[.slice A l.length ca, .int .i64 n] w fun e w' => ∃ v, e = .returned v ∧ Kd.R kRow 27 w' w.heap.size (fun _ => True) v (chainS l n) ∧ Below w.heap.size w w' := by
  have hm := hr.2.1
  have HR := Aside0.mk hr
  clear hr
  go_enter Tryd.func42, Tryd.ntmps42
  go_wp2
  go_loopw [1, 5, 6] (fun nv v i wr => ChInv l n w wr nv v i) (fun _ _ i _ => 20 - (intOf i).toNat)
  case atStart =>
    refine ⟨0, Nat.zero_le _, Nat.zero_le _, rfl, rfl, ?_, (Below.refl _ _).alloc (Nat.le_refl _) _⟩
    have h := World.ownsRow_made (base := w.heap.size) (e := 27) (size := 1) w #[] 0 (Nat.le_refl _) (Nat.zero_le _) rfl
    exact ⟨fun _ _ => trivial, [], h, rfl, fun j p hj => by simp [chGo] at hj⟩
  case round =>
    rename_i wr
    obtain ⟨k, hk, hk20, rfl, rfl, hO, hB⟩ := hrel.out
    clear hrel
    have hz := hB.size
    obtain ⟨Av, cv, rfl⟩ := Kd.R_slice hO
    have hlen : (l.take k).length = k := by rw [List.length_take]; omega
    obtain ⟨a1, a2, a3, a4, a5⟩ := chGo_ok n hn (l.take k) (by omega)
    by_cases hlt : k < l.length ∧ k < 20
    · obtain ⟨hlt, hlt20⟩ := hlt
      obtain ⟨x, hx⟩ : ∃ x, l[k]? = some x := ⟨_, List.getElem?_eq_getElem hlt⟩
      obtain ⟨ad, B, c, rfl, hcell, hC⟩ := at_row (Kd.C_below HR.out hB) hx
      have hsn : Hid (chGo (l.take (k + 1)) n = ((chGo (l.take k) n).1 ++ [fitS x (chGo (l.take k) n).2], sumW spOut (fitS x (chGo (l.take k) n).2))) := by show _ = _; rw [take_snoc' hx, chGo_snoc]
      have cF := fit_calls B c x (chGo (l.take k) n).2 wr hC (hT x (List.mem_of_getElem? hx)) (by rw [a4]; omega) (by rw [a4]; omega)
      have fr : Rw (fitS x (chGo (l.take k) n).2) (atoms (fitS x (chGo (l.take k) n).2)) 10000 := by
        rw [a4]; exact (fit_rw2 x _ (by omega)).1.up (by omega)
      have cO := fun A' c' W h => r4Out_calls A' c' (fitS x (chGo (l.take k) n).2) W (fun s hs => by
        have := bytes_le hs
        have := fr.byt
        omega) h
      have hl1 : (chGo (l.take k) n).1.length + 1 ≤ 4194304 := by omega
      clear a1 a2 a3 a4 a5 fr hx hC
      generalize fitS x (chGo (l.take k) n).2 = X at *
      generalize chGo (l.take k) n = p at *
      obtain ⟨out, m⟩ := p
      simp only at *
      have HO := Aside0.mk hO
      have CO := Lib.hid cO
      clear hO cO
      go_wp2_with fail
      refine cF.mono ?_
      rintro e w1 ⟨v, rfl, hv, hb⟩
      clear cF
      obtain ⟨Av2, cv2, rfl⟩ := Kd.R_slice hv
      have HV := Aside0.mk (Kd.R_lower hv hz)
      have HO1 := Aside0.mk (Kd.R_below HO.out hb)
      have B1 := hB.trans (hb.mono hz)
      clear HO hb hv
      go_wp2_with (at_builtin; go_loud (refine wp_pushR (base := w.heap.size) (w0 := w) rfl (.tmp 25) (.tmp 27) rfl X _ HO1.out HV.out B1 rfl rfl hl1 (Nat.le_refl _) ?_); intro A1 c1 w2 hO2 hV2 hB2)
      have hC2 := (Kd.R_reads' hV2).2.2
      have cc := CO.out Av2 cv2 w2 hC2
      have HO2 := Aside0.mk hO2
      clear hO2 hV2 HV HO1 B1 hC2
      go_wp2_with fail
      refine cc.mono ?_
      rintro e w3 ⟨rfl, hb⟩
      clear cc
      have hz2 := hB2.size
      go_wp2_with fail
      go_roundw
      case rel => exact ⟨k + 1, by omega, by omega, by go_num, by rw [hsn.out], by rw [hsn.out]; exact Kd.R_below HO2.out hb, hB2.trans (hb.mono hz2)⟩
      case measure => simp [intOf]; omega
    · have hend : Hid (chainS l n = (chGo (l.take k) n).1) := by
        show (chGo (l.take 20) n).1 = _
        rcases Nat.lt_or_ge k 20 with h | h
        · rw [List.take_of_length_le (show l.length ≤ 20 by omega), List.take_of_length_le (show l.length ≤ k by omega)]
        · rw [show k = 20 by omega]
      have hl2 : (chGo (l.take k) n).1.length = k := by rw [a3, hlen]
      have hnot : k < l.length → ¬ k < 20 := fun h1 h2 => hlt ⟨h1, h2⟩
      clear a1 a2 a3 a4 a5 hlen hlt
      generalize chGo (l.take k) n = p at *
      obtain ⟨out, m⟩ := p
      simp only at *
      have HO := Aside0.mk hO
      clear hO
      by_cases h1 : k < l.length
      · have h2 := hnot h1
        go_wp2
        go_ret
        exact ⟨_, rfl, by rw [hend.out]; exact HO.out, hB⟩
      · go_wp2
        go_ret
        exact ⟨_, rfl, by rw [hend.out]; exact HO.out, hB⟩

end Go.Proofs.YtmfpfipjhhfbhaaDoor
