/- The walk of FuseFirst. -/
import Derived.Test.YtmfpfipjhhfbhaaDoorHdr
namespace Go.Proofs.YtmfpfipjhhfbhaaDoor
open Go.RowKit Go.Proofs.YtmfpfipjhhfbhaaDoorW.PrintWords

theorem chnV_append : ∀ (L : List (List Sp)) (n b : Nat) (M : List (List Sp)), Chn n L → Bnd L b → b ≤ 262144 → chnV n (L ++ M) = chnV (endN n L) M
  | [], _, _, _, _, _, _ => rfl
  | X :: L, n, b, M, hc, hB, hb => by
    have h := hB.row X (by simp)
    have e : nextV n X = (((outA (atoms X) : Nat) : Int), 0) := by
      unfold nextV
      rw [if_neg (by rw [h.may hb]; decide), h.ins hb, h.outs hb, if_neg (by rw [hc.1]; simp)]
    show chnV n (X :: (L ++ M)) = chnV (endN (outA (atoms X)) L) M
    rw [chnV_cons, e]
    simp only
    rw [if_neg (by decide)]
    exact chnV_append L _ b M hc.2 ⟨fun Y hY => hB.row Y (List.mem_cons_of_mem _ hY)⟩ hb
def keep1 (n : Int) : List Sp := [⟨1, n, ⟨#[]⟩⟩]
def bad1 : List Sp := [⟨0, 0, ⟨#[]⟩⟩]
theorem bad_may : opMay bad1 = 1 := by rfl
theorem bad_texts : TextsOk bad1 := fun s hs => by
  rw [List.mem_singleton.1 hs]
  exact Nat.zero_le _
theorem keep1_texts (n : Int) : TextsOk (keep1 n) := fun s hs => by
  rw [List.mem_singleton.1 hs]
  exact Nat.zero_le _
theorem keep1_rw (n : Nat) (hn : n ≤ 10000) : Rw (keep1 n) (List.replicate n .keep) (n + 1) := by
  have h := rw_keep n (by omega) (rw_nil 0)
  rw [List.append_nil, Nat.zero_add] at h
  exact h
theorem nextV_bad (n : Nat) (hn : n ≤ 9999) (M : List (List Sp)) : chnV n (keep1 ((n : Int) + 1) :: M) = (0, 5) := by
  have h := keep1_rw (n + 1) (by omega)
  rw [chnV_cons]
  have e : nextV n (keep1 ((n : Int) + 1)) = (0, 5) := by
    unfold nextV
    rw [show ((n : Int) + 1) = ((n + 1 : Nat) : Int) by omega, if_neg (by rw [h.may (by omega)]; decide), h.ins (by omega), inA_keeps, if_pos (by omega)]
  rw [e]
  rfl

set_option maxRecDepth 100000 in
set_option maxHeartbeats 4000000 in
theorem lawFuseFirst_calls (A : Option Addr) (ca : Nat) (l : List (List Sp)) (n y : Int) (w : World) (hL : Laid w) (hx : Kd.C kRow w A l.length l) (hTx : ∀ X ∈ l, ∀ s ∈ X, s.t.size ≤ 9223372036854775807) (hn0 : 0 ≤ n) (_hn1 : n ≤ 255) (hy0 : 0 ≤ y) (_hy1 : y ≤ 255) :
    Calls Tryd.prog 13 #[.slice A l.length ca, .int .u8 n, .int .u8 y] w fun e w' => e = .returned (.bool true) ∧ Below w.heap.size w w' := by
  obtain ⟨m, hm⟩ : ∃ m : Nat, (m : Int) = n % 64 := ⟨(n % 64).toNat, by omega⟩
  have hm1 : m ≤ 63 := by omega
  have hmt : n.tmod 64 = m := by rw [Int.tmod_eq_emod_of_nonneg hn0]; exact hm.symm
  obtain ⟨hch, hB, hlen, _⟩ := chainS_ok l m (by omega)
  have hB := hB.up (c := 5823) (by omega)
  have e0 := (Env.start hL).adds hx
  have c1 := shown10_calls w hL
  have cW := fun W C => chain4_calls A ca l m W C hTx (by omega)
  generalize chainS l m = L at *
  obtain ⟨k, hk⟩ : ∃ k : Nat, (k : Int) = y % ((L.length : Int) + 1) := ⟨(y % ((L.length : Int) + 1)).toNat, by have := Int.emod_nonneg y (show (L.length : Int) + 1 ≠ 0 by omega); omega⟩
  have hk1 : k ≤ L.length := by have := Int.emod_lt_of_pos y (show (0 : Int) < (L.length : Int) + 1 by omega); omega
  have hkt : y.tmod ((L.length : Int) + 1) = k := by rw [Int.tmod_eq_emod_of_nonneg hy0]; exact hk.symm
  obtain ⟨p1, p2, _⟩ := fuse_parts m k L hch
  obtain ⟨q, hq⟩ : ∃ q, q = endN m (L.take k) := ⟨_, rfl⟩
  have hq1 : q ≤ 5823 := by rw [hq]; exact endN_le _ _ (hB.take k) (by omega)
  have lt1 : (L.take k).length = k := by rw [List.length_take]; omega
  have b1 : m + 1 + (L.take k).length * 5823 ≤ 122284 := by omega
  obtain ⟨r1, o1, i1⟩ := fuse_rw m (L.take k) 5823 (by omega) p1 (hB.take k) (by omega)
  have r1 := r1.up b1
  rw [← hq] at o1
  have hmay := r1.may (by omega)
  have hout := r1.outs (by omega)
  have htx := r1.texts (by omega)
  have kr := keep1_rw (q + 1) (by omega)
  have hcast : ((q + 1 : Nat) : Int) = (q : Int) + 1 := by omega
  rw [hcast] at kr
  have kmay := kr.may (by omega)
  have kin := kr.ins (by omega)
  have hk0 : Rw (keepS m) (List.replicate m .keep) (m + 1) := by
    obtain ⟨h2, h3⟩ := keepS_small m
    exact ⟨keepS_valid m (by omega), keepS_atoms m, good_keeps m, by simp, by omega, by omega⟩
  have cC := fun B cb W hW h => chain_ok m B cb (L.take k) 5823 W hW (by omega) h p1 (hB.take k) (by omega)
  rw [lt1, ← hq] at cC
  have hpre : ∀ M : List (List Sp), (L.take k ++ M).take k = L.take k := fun M => by rw [List.take_append_of_le_length (by omega), List.take_of_length_le (by omega)]
  have hat : ∀ (X : List Sp) (M : List (List Sp)), (L.take k ++ X :: M)[k]? = some X := fun X M => by rw [List.getElem?_append_right (by omega), lt1, Nat.sub_self]; rfl
  have cO := fun B cb W (hW : Laid W) h => fuse_err m B cb (L.take k ++ keep1 ((q : Int) + 1) :: bad1 :: L.drop k) 5823 (m + 1) k (keep1 ((q : Int) + 1)) 5 W hW (by omega) hk0 h (hat _ _) (by rw [hpre]; exact p1) (by rw [hpre]; exact hB.take k) (fun _ => by omega) (by decide) (fun A' C c' cx W hW h1 h2 => by
    rw [hpre] at h1 ⊢
    exact comp_err3 A' C c' cx _ _ W hW htx (keep1_texts _) h1 h2 hmay kmay (by rw [hout, o1, kin, inA_keeps]; omega))
  have cB := fun B cb W hW h => fuse_err m B cb (L.take k ++ [bad1]) 5823 (m + 1) k bad1 1 W hW (by omega) hk0 h (hat _ _) (by rw [hpre]; exact p1) (by rw [hpre]; exact hB.take k) (fun _ => by omega) (by decide) (fun A' C c' cx W hW h1 h2 => by
    rw [hpre] at h1 ⊢
    have h := comp_err2 A' C c' cx _ bad1 W hW htx bad_texts h1 h2 hmay (by rw [bad_may]; decide)
    rw [bad_may] at h
    exact h)
  have tL : ∀ X ∈ L, TextsOk X := fun X hX => (hB.row X hX).texts (by omega)
  have cV := fun B cb W hW h => chain_calls m B cb (L.take k ++ keep1 ((q : Int) + 1) :: bad1 :: L.drop k) W hW (by omega) (by omega) h (fun X hX => by
    rcases List.mem_append.1 hX with h | h
    · exact tL X (List.mem_of_mem_take h)
    · rcases List.mem_cons.1 h with rfl | h
      · exact keep1_texts _
      · rcases List.mem_cons.1 h with rfl | h
        · exact bad_texts
        · exact tL X (List.mem_of_mem_drop h))
  rw [chnV_append (L.take k) m 5823 _ p1 (hB.take k) (by omega), ← hq, nextV_bad q (by omega)] at cV
  have cO2 : ∀ (B : Option Addr) (cb nn : Nat) (us : List Hdr) (W : World) (a b : Option Addr × Nat), rowsOf us = L → (us.take k ++ [(a.1, keep1 ((q : Int) + 1), a.2)] ++ [(b.1, bad1, b.2)] ++ us.drop k).length = nn → Laid W → Kd.C kRow W B (rowsOf (us.take k ++ [(a.1, keep1 ((q : Int) + 1), a.2)] ++ [(b.1, bad1, b.2)] ++ us.drop k)).length (rowsOf (us.take k ++ [(a.1, keep1 ((q : Int) + 1), a.2)] ++ [(b.1, bad1, b.2)] ++ us.drop k)) →
      (Calls Tryd.prog 37 #[.int .i64 m, .slice B nn cb] W fun e w' => e = .returned (.tuple #[.slice none 0 0, .int .i64 5]) ∧ Below W.heap.size W w') := by
    intro B cb nn us W a b hu hn hW h
    have he : rowsOf (us.take k ++ [(a.1, keep1 ((q : Int) + 1), a.2)] ++ [(b.1, bad1, b.2)] ++ us.drop k) = L.take k ++ keep1 ((q : Int) + 1) :: bad1 :: L.drop k := by subst hu; simp [rowsOf, List.map_take, List.map_drop]
    have hn2 : (L.take k ++ keep1 ((q : Int) + 1) :: bad1 :: L.drop k).length = nn := by rw [← he, List.length_map]; exact hn
    rw [he] at h
    subst hn2
    exact cO B cb W hW h
  have cV2 : ∀ (B : Option Addr) (cb nn : Nat) (us : List Hdr) (W : World) (a b : Option Addr × Nat), rowsOf us = L → (us.take k ++ [(a.1, keep1 ((q : Int) + 1), a.2)] ++ [(b.1, bad1, b.2)] ++ us.drop k).length = nn → Laid W → Kd.C kRow W B (rowsOf (us.take k ++ [(a.1, keep1 ((q : Int) + 1), a.2)] ++ [(b.1, bad1, b.2)] ++ us.drop k)).length (rowsOf (us.take k ++ [(a.1, keep1 ((q : Int) + 1), a.2)] ++ [(b.1, bad1, b.2)] ++ us.drop k)) →
      (Calls Tryd.prog 40 #[.int .i64 m, .slice B nn cb] W fun e w' => e = .returned (.tuple #[.int .i64 0, .int .i64 5]) ∧ Below W.heap.size W w') := by
    intro B cb nn us W a b hu hn hW h
    have he : rowsOf (us.take k ++ [(a.1, keep1 ((q : Int) + 1), a.2)] ++ [(b.1, bad1, b.2)] ++ us.drop k) = L.take k ++ keep1 ((q : Int) + 1) :: bad1 :: L.drop k := by subst hu; simp [rowsOf, List.map_take, List.map_drop]
    have hn2 : (L.take k ++ keep1 ((q : Int) + 1) :: bad1 :: L.drop k).length = nn := by rw [← he, List.length_map]; exact hn
    rw [he] at h
    subst hn2
    exact cV B cb W hW h
  have cB2 : ∀ (B : Option Addr) (cb nn : Nat) (us : List Hdr) (W : World) (b : Option Addr × Nat), rowsOf us = L → (us.take k ++ [(b.1, bad1, b.2)]).length = nn → Laid W → Kd.C kRow W B (rowsOf (us.take k ++ [(b.1, bad1, b.2)])).length (rowsOf (us.take k ++ [(b.1, bad1, b.2)])) →
      (Calls Tryd.prog 37 #[.int .i64 m, .slice B nn cb] W fun e w' => e = .returned (.tuple #[.slice none 0 0, .int .i64 1]) ∧ Below W.heap.size W w') := by
    intro B cb nn us W b hu hn hW h
    have he : rowsOf (us.take k ++ [(b.1, bad1, b.2)]) = L.take k ++ [bad1] := by subst hu; simp [rowsOf, List.map_take]
    have hn2 : (L.take k ++ [bad1]).length = nn := by rw [← he, List.length_map]; exact hn
    rw [he] at h
    subst hn2
    exact cB B cb W hW h
  clear hx hch hB p1 p2 r1 o1 i1 b1 lt1 hk hpre hat hmay hout htx kr kmay kin hk0 tL hcast
  have G := Lib.hid (And.intro (And.intro cW cC) (And.intro cO2 (And.intro cB2 cV2)))
  clear cW cC cO cB cV cO2 cB2 cV2 hm hTx hq
  go_enter Tryd.func13, Tryd.ntmps13
  have cc := c1
  go_wp2_with fail
  refine cc.mono ?_
  rintro e w1 ⟨rfl, hb⟩
  clear cc
  have e1 := e0.next hb
  clear hb e0
  have cc := G.out.1.1 w1 (e1.rows 0 rfl)
  go_wp2_with fail
  refine cc.mono ?_
  rintro e w2 ⟨v, rfl, hv, hb⟩
  clear cc
  obtain ⟨AL, dL, rfl, hdL, hC⟩ := gives_rows hv
  have e2 := (e1.next hb).adds hC
  clear hv hC hb e1
  have cc := G.out.1.2 AL dL w2 e2.laid (rows_take (e2.rows 0 rfl) hk1)
  go_wp2_with fail
  refine cc.mono ?_
  rintro e w3 ⟨rfl, hb⟩
  clear cc
  have e3 := e2.next hb
  clear hb e2
  obtain ⟨us, hus, hUC, hU⟩ := rows_hdrs (e3.rows 0 rfl)
  have hul : L.length = us.length := by rw [← hus]; simp
  have HT := Lib.hid (hd_take hUC hul hk1)
  have HD := Lib.hid (hd_drop hUC hul hk1 hdL)
  have m1 := Mk.start w3
  have hn0 : Hid (([] : List Hdr).length = 0) := Lib.hid rfl
  have hun := Lib.hid hul
  have hu20 : us.length ≤ 20 := by omega
  have HU := Lib.hid (And.intro hus hU)
  clear hUC hus hU hul
  go_wp2_with (at_builtin; first
    | (refine wp_push1 rfl (.tmp 52) (.tmp 57) rfl (some ⟨w4.heap.size, 0, none⟩, keep1 ((q : Int) + 1), 1) m3 hn1 rfl rfl (by simp) (by omega) ?_; intro A2 d2 w5 n2 hn2 m4 hd2)
    | (refine wp_pushN rfl (.tmp 48) (.tmp 51) rfl m1 hn0 HT.out (by omega) rfl rfl (by omega) ?_; intro A1 d1 w4 n1 hn1 m2 hd1; have hb1 : n1 ≤ 20 := (by have := hn1.out; rw [List.nil_append, List.length_take] at this; omega); have m3 := m2.alloc #[.int .i64 1, .int .i64 ((q : Int) + 1), .string ⟨#[]⟩]))
  have hb2 : n2 ≤ 40 := by have := hn2.out; have := hn1.out; simp at *; omega
  have m5 := m4.alloc #[.int .i64 0, .int .i64 0, .string ⟨#[]⟩]
  clear m1 m2 m3
  go_region_law (first
    | (refine step_pushN rfl (.tmp 63) (.tmp 66) rfl m6 hn3 HD.out (by omega) rfl rfl (by omega) ?_; intro A4 d4 w7 n4 hn4 m7 hd4)
    | (first
        | (refine step_push1D rfl (.tmp 59) (.tmp 62) rfl (some ⟨w5.heap.size, 0, none⟩, bad1, 1) m5 hn2 rfl rfl (by simp) (by omega) ?_)
        | (refine step_push1 rfl (.tmp 59) (.tmp 62) rfl (some ⟨w5.heap.size, 0, none⟩, bad1, 1) m5 hn2 rfl rfl (by simp) (by omega) ?_)
       intro A3 d3 w6 n3 hn3 m6 hd3
       have hb3 : n3 ≤ 60 := (by have := hn3.out; have := hn2.out; simp at *; omega)))
  all_goals (
    clear m4 m5 m6 hd1 hd2 hd3 hd4 hb1 hb2 hb3
    simp only [List.nil_append] at m7
    have hn5 : Hid ((us.take k ++ [((some ⟨w4.heap.size, 0, none⟩ : Option Addr), keep1 ((q : Int) + 1), 1)] ++ [((some ⟨w5.heap.size, 0, none⟩ : Option Addr), bad1, 1)] ++ us.drop k).length = n4) := Lib.hid (by have := hn4.out; rw [List.nil_append] at this; exact this)
    clear hn1 hn2 hn3 hn4
    generalize hAK : (if dL = k then AL else Option.map (fun x => x.add k) AL) = AK at *
    clear hAK
    have r1 := m7.reads hn5 (fun p hp => by
      simp only [List.mem_append, List.mem_singleton] at hp
      rcases hp with ((h | rfl) | rfl) | h
      · exact .inl (HU.out.2 p (List.mem_of_mem_take h))
      · exact .inr ⟨w4.heap.size, rfl, by simp [keep1, spCells], by show 1 ≤ 100; omega⟩
      · exact .inr ⟨w5.heap.size, rfl, by simp [bad1, spCells], by show 1 ≤ 100; omega⟩
      · exact .inl (HU.out.2 p (List.mem_of_mem_drop h)))
    have e4 := (e3.next m7.bel).adds r1
    have HT2 := Lib.hid (Kd.C_below HT.out m7.bel)
    have HU2 := Lib.hid (And.intro HU.out.1 (fun p hp => Kd.C_below (HU.out.2 p hp) m7.bel : ∀ p ∈ us, Kd.C kSp w7 p.1 p.2.1.length p.2.1))
    clear m7 r1 e3 HT HU HD
    have m1 := Mk.start w7
    go_wp2_with (at_builtin; first
      | (refine wp_push1 rfl (.tmp 72) (.tmp 75) rfl (some ⟨w8.heap.size, 0, none⟩, bad1, 1) m3 hn1 rfl rfl (by simp) (by omega) ?_; intro A9 d9 w9 n9 hn9 m9 hd9)
      | (refine wp_pushN rfl (.tmp 68) (.tmp 71) rfl m1 hn0 HT2.out (by omega) rfl rfl (by omega) ?_; intro A8 d8 w8 n1 hn1 m2 hd1; have hb1 : n1 ≤ 20 := (by have := hn1.out; rw [List.nil_append, List.length_take] at this; omega); have m3 := m2.alloc #[.int .i64 0, .int .i64 0, .string ⟨#[]⟩]))
    have hn9 : Hid ((us.take k ++ [((some ⟨w8.heap.size, 0, none⟩ : Option Addr), bad1, 1)]).length = n9) := Lib.hid (by have := hn9.out; rw [List.nil_append] at this; exact this)
    simp only [List.nil_append] at m9
    have r2 := m9.reads hn9 (fun p hp => by
      simp only [List.mem_append, List.mem_singleton] at hp
      rcases hp with h | rfl
      · exact .inl (HU2.out.2 p (List.mem_of_mem_take h))
      · exact .inr ⟨w8.heap.size, rfl, by simp [bad1, spCells], by show 1 ≤ 100; omega⟩)
    have e5 := (e4.next m9.bel).adds r2
    have k1 := fun W hW h => G.out.2.1 A4 d4 n4 us W (some ⟨w4.heap.size, 0, none⟩, 1) (some ⟨w5.heap.size, 0, none⟩, 1) HU2.out.1 hn5.out hW h
    have k2 := fun W hW h => G.out.2.2.2 A4 d4 n4 us W (some ⟨w4.heap.size, 0, none⟩, 1) (some ⟨w5.heap.size, 0, none⟩, 1) HU2.out.1 hn5.out hW h
    have k3 := fun W hW h => G.out.2.2.1 A9 d9 n9 us W (some ⟨w8.heap.size, 0, none⟩, 1) HU2.out.1 hn9.out hW h
    have K := Lib.hid (And.intro k1 (And.intro k2 k3))
    clear m1 m2 m3 m9 r2 e4 HT2 HU2 hn9 hn5 hd9 hb1 hd1 hn1 k1 k2 k3 G hn0
    have cc := K.out.1 w9 e5.laid (e5.rows 1 rfl)
    go_wp2_with fail
    refine cc.mono ?_
    rintro e w10 ⟨rfl, hb⟩
    clear cc
    have e6 := e5.next hb
    clear hb e5
    have cc := K.out.2.1 w10 e6.laid (e6.rows 1 rfl)
    go_wp2_with fail
    refine cc.mono ?_
    rintro e w11 ⟨rfl, hb⟩
    clear cc
    have e7 := e6.next hb
    clear hb e6
    have cc := K.out.2.2 w11 e7.laid (e7.rows 0 rfl)
    go_wp2_with fail
    refine cc.mono ?_
    rintro e w12 ⟨rfl, hb⟩
    clear cc
    have e8 := e7.next hb
    clear hb e7
    go_wp2_with fail
    go_ret
    exact ⟨rfl, e8.bel⟩)

end Go.Proofs.YtmfpfipjhhfbhaaDoor
