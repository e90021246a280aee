/- The walk of UnderTie. -/
import Derived.Test.YtmfpfipjhhfbhaaDoorShown12
import Derived.Test.YtmfpfipjhhfbhaaDoorRefFit
namespace Go.Proofs.YtmfpfipjhhfbhaaDoor
open Go.RowKit Go.Proofs.YtmfpfipjhhfbhaaDoorW.PrintWords

/-- Some are kept, a text is put, some are kept. -/
def lit3 (a : Int) (t : ByteArray) (d : Int) : List Sp := [⟨1, a, ⟨#[]⟩⟩, ⟨2, 0, t⟩, ⟨1, d, ⟨#[]⟩⟩]
theorem lit3_cells (a : Int) (t : ByteArray) (d : Int) : (#[.int .i64 1, .int .i64 a, .string ⟨#[]⟩, .int .i64 2, .int .i64 0, .string t, .int .i64 1, .int .i64 d, .string ⟨#[]⟩] : Array Value) = (spCells (lit3 a t d)).toArray := rfl
def seq3 (a : Nat) (cs : List Nat) (d : Nat) : List At := List.replicate a .keep ++ cs.map .put ++ List.replicate d .keep
theorem rw_lit3 (a d : Int) (cs : List Nat) (b : Nat) (ha : 0 ≤ a) (hd : 0 ≤ d) (hg : ∀ c ∈ cs, goodC c) (hb : a.toNat + cs.length + d.toNat + 3 ≤ b) (hb2 : b ≤ 262144) : Rw (lit3 a (encB cs) d) (seq3 a.toNat cs d.toNat) b := by
  obtain ⟨m, rfl⟩ : ∃ m : Nat, a = m := ⟨a.toNat, by omega⟩
  obtain ⟨n, rfl⟩ : ∃ n : Nat, d = n := ⟨d.toNat, by omega⟩
  simp only [Int.toNat_natCast] at hb ⊢
  have hv : Valid (lit3 m (encB cs) n) := by
    intro s hs
    simp [lit3] at hs
    rcases hs with rfl | rfl | rfl
    · exact may_keep (.inl rfl) (by omega)
    · exact may_put (validD_encB _ hg)
    · exact may_keep (.inl rfl) (by omega)
  have ha : atoms (lit3 m (encB cs) n) = seq3 m cs n := by
    simp [lit3, atoms, spAtoms, seq3, cps_enc _ hg]
  refine ⟨hv, ha, by rw [← ha]; exact good_atoms hv, by simp [seq3]; omega, by simp [lit3]; omega, ?_⟩
  have h1 : (encB cs).size ≤ 4 * cs.length := by rw [encB_size]; exact (encL_length cs).2
  show 0 + ((encB cs).size + (0 + 0)) ≤ _
  omega
theorem over_seq (k d : Nat) (cv cu : List Nat) : overA (seq3 k cv d) (seq3 k cu d) = seq3 (k + cu.length) cv d := by
  unfold seq3
  have h := over_both .keep trivial .keep trivial k 0 0 (cv.map .put ++ List.replicate d .keep) (cu.map .put ++ List.replicate d .keep)
  have hn : NP (List.replicate d At.keep) := by cases d <;> trivial
  have h2 := over_both .keep trivial .keep trivial d 0 0 [] []
  simp only [Nat.add_zero, List.replicate_zero, List.nil_append, List.append_nil, only, over_nn] at h h2
  rw [List.append_assoc, List.append_assoc, h, over_puts, over_aputs _ _ _ hn, h2, ← List.append_assoc, List.replicate_append_replicate, List.append_assoc]
theorem under_seq (k d : Nat) (cu cv : List Nat) : underA (seq3 k cu d) (seq3 k cv d) = seq3 k cu (cv.length + d) := by
  unfold seq3
  have h := under_both .keep trivial .keep trivial k 0 0 (cu.map .put ++ List.replicate d .keep) (cv.map .put ++ List.replicate d .keep)
  have hn : NP (List.replicate d At.keep) := by cases d <;> trivial
  have h2 := under_both .keep trivial .keep trivial d 0 0 [] []
  simp only [Nat.add_zero, List.replicate_zero, List.nil_append, List.append_nil, only, under_nn] at h h2
  rw [List.append_assoc, List.append_assoc, h, under_puts, under_aputs _ _ _ hn, h2, List.append_assoc, List.replicate_append_replicate]
theorem in_seq (a d : Nat) (cs : List Nat) : inA (seq3 a cs d) = a + d := by
  unfold seq3
  rw [inA_append, inA_append, inA_keeps, inA_keeps, inA_puts]; omega
theorem cutText (s : ByteArray) (n : Nat) : ∃ cs, fitC (s.extract 0 (min s.size n)) = cs ∧ cs.length ≤ n ∧ ∀ c ∈ cs, goodC c :=
  ⟨_, rfl, by rw [fitC_length, ByteArray.size_extract]; omega, fitC_good _⟩
theorem count_enc (cs : List Nat) (hg : ∀ c ∈ cs, goodC c) : txtCount (encB cs) = cs.length := by
  rw [txtCount_cps (validD_encB _ hg), cps_enc _ hg]

set_option maxRecDepth 100000 in
set_option maxHeartbeats 4000000 in
theorem lawUnderTie_calls (s t : ByteArray) (x y : Int) (w : World) (hL : Laid w) (hs : s.size ≤ 9223372036854775807) (ht : t.size ≤ 9223372036854775807) (hx0 : 0 ≤ x) (_hx1 : x ≤ 255) (hy0 : 0 ≤ y) (_hy1 : y ≤ 255) :
    Calls Tryd.prog 3 #[.string s, .string t, .agg #[.int .u8 x, .int .u8 y]] w fun e w' => e = .returned (.bool true) ∧ Below w.heap.size w w' := by
  obtain ⟨m, hm⟩ : ∃ m, m = x % 64 := ⟨_, rfl⟩
  have hm0 : 0 ≤ m := by omega
  have hm1 : m ≤ 63 := by omega
  have hmt : x.tmod 64 = m := by rw [Int.tmod_eq_emod_of_nonneg hx0]; exact hm.symm
  obtain ⟨k, hk⟩ : ∃ k, k = y % (m + 1) := ⟨_, rfl⟩
  have hk0 : 0 ≤ k := by rw [hk]; exact Int.emod_nonneg _ (by omega)
  have hk1 : k ≤ m := by have := Int.emod_lt_of_pos y (show 0 < m + 1 by omega); omega
  have hkt : y.tmod (m + 1) = k := by rw [Int.tmod_eq_emod_of_nonneg hy0]; exact hk.symm
  obtain ⟨p, hp⟩ : ∃ p, p = min s.size 20 := ⟨_, rfl⟩
  obtain ⟨q, hq⟩ : ∃ q, q = min t.size 20 := ⟨_, rfl⟩
  obtain ⟨cu, hcu, hlu, hgu⟩ := cutText s 20
  obtain ⟨cv, hcv, hlv, hgv⟩ := cutText t 20
  rw [← hp] at hcu
  rw [← hq] at hcv
  have e1 := Env.start hL
  have c1 := shown12_calls w hL
  have c2 := fun W => refFit_calls (s.extract 0 p) W (by rw [ByteArray.size_extract]; omega)
  have c3 := fun W => refFit_calls (t.extract 0 q) W (by rw [ByteArray.size_extract]; omega)
  rw [hcu] at c2
  rw [hcv] at c3
  have hpi : min (s.size : Int) 20 = p := by omega
  have hqi : min (t.size : Int) 20 = q := by omega
  have hpl : p ≤ s.size := by omega
  have hql : q ≤ t.size := by omega
  have C2 := Lib.hid c2
  have C3 := Lib.hid c3
  have rX := rw_lit3 k (m - k) cu 200 hk0 (by omega) hgu (by omega) (by omega)
  have rY := rw_lit3 k (m - k) cv 200 hk0 (by omega) hgv (by omega) (by omega)
  have rP := rw_lit3 (k + cu.length) (m - k) cv 200 (by omega) (by omega) hgv (by omega) (by omega)
  have rQ := rw_lit3 k (cv.length + m - k) cu 200 hk0 (by omega) hgu (by omega) (by omega)
  have hab : seq3 (k + cu.length).toNat cv (m - k).toNat = overA (seq3 k.toNat cv (m - k).toNat) (seq3 k.toNat cu (m - k).toNat) := by
    rw [over_seq, show (k + cu.length).toNat = k.toNat + cu.length by omega]
  have hba : seq3 k.toNat cu (cv.length + m - k).toNat = underA (seq3 k.toNat cu (m - k).toNat) (seq3 k.toNat cv (m - k).toNat) := by
    rw [under_seq, show (cv.length + m - k).toNat = cv.length + (m - k).toNat by omega]
  rw [hab] at rP
  rw [hba] at rQ
  have cO := fun A B ca cb W hW h1 h2 => over_rw rY rX (by rw [in_seq, in_seq]) (by omega) A B ca cb W hW h1 h2
  have cU := fun A B ca cb W hW h1 h2 => under_rw rX rY (by rw [in_seq, in_seq]) (by omega) A B ca cb W hW h1 h2
  have cP := fun A ca W h1 => norm_rw rP (by omega) A ca W h1
  have cQ := fun A ca W h1 => norm_rw rQ (by omega) A ca W h1
  have cu' := fun W hW => count_calls (encB cu) W hW (by rw [encB_size]; have := (encL_length cu).2; omega)
  have cv' := fun W hW => count_calls (encB cv) W hW (by rw [encB_size]; have := (encL_length cv).2; omega)
  rw [count_enc _ hgu] at cu'
  rw [count_enc _ hgv] at cv'
  generalize ofA (overA (seq3 k.toNat cv (m - k).toNat) (seq3 k.toNat cu (m - k).toNat)) = O at cO cP
  generalize ofA (underA (seq3 k.toNat cu (m - k).toNat) (seq3 k.toNat cv (m - k).toNat)) = U at cU cQ
  generalize encB cu = u at *
  generalize encB cv = v at *
  generalize cu.length = nu at *
  generalize cv.length = nv at *
  have G := Lib.hid (And.intro (And.intro cO cU) (And.intro (And.intro cP cQ) (And.intro cu' cv')))
  clear c2 c3 hcu hcv hp hq hm hk rX rY rP rQ hab hba cO cU cP cQ cu' cv' hgu hgv
  go_enter Tryd.func3, Tryd.ntmps3
  go_wp2_with fail
  have hb0 : Below w.heap.size w (w.alloc (.cells #[.int .u8 x, .int .u8 y] 22)) := (Below.refl _ _).alloc (Nat.le_refl _) _
  have e2 := e1.next hb0
  have q0 := blk_new w (.cells #[.int .u8 x, .int .u8 y] 22)
  clear e1 hb0 c1
  refine (shown12_calls _ e2.laid).mono ?_
  rintro e w1 ⟨rfl, hb⟩
  have q1 := blk_below q0 hb
  have e3 := e2.next hb
  have z0 := blk_cell q1 0
  have z1 := blk_cell q1 1
  clear e2 q0 hb
  go_wp2_with fail
  clear z0 z1 q1
  have cc := C2.out w1
  go_wp2_with fail
  refine cc.mono ?_
  rintro e w2 ⟨rfl, hb⟩
  clear cc
  have e4 := e3.next hb
  clear hb e3
  have cc := C3.out w2
  go_wp2_with fail
  refine cc.mono ?_
  rintro e w3 ⟨rfl, hb⟩
  clear cc
  have e5 := e4.next hb
  clear hb e4
  have e6 := (e5.lit (lit3 k u (m - k)) (by show 3 ≤ 100; omega)).lit (lit3 k v (m - k)) (by show 3 ≤ 100; omega)
  rw [show (w3.alloc (.cells (spCells (lit3 k u (m - k))).toArray 26)).heap.size = w3.heap.size + 1 by simp] at e6
  have cc := G.out.1.1 _ _ 3 3 _ e6.laid (e6.row 0 rfl) (e6.row 1 rfl)
  go_wp2_with fail
  rw [lit3_cells, lit3_cells]
  refine cc.mono ?_
  rintro e w4 ⟨vO, rfl, hv, hb⟩
  clear cc
  obtain ⟨AO, cO, rfl, hC⟩ := gives_reads hv
  have e7 := (e6.next hb).add hC
  clear hv hC hb e6
  have cc := G.out.1.2 _ _ 3 3 w4 e7.laid (e7.row 2 rfl) (e7.row 1 rfl)
  go_wp2_with fail
  refine cc.mono ?_
  rintro e w5 ⟨v, rfl, hv, hb⟩
  clear cc
  obtain ⟨AU, cU, rfl, hC⟩ := gives_reads hv
  have e8 := (e7.next hb).add hC
  clear hv hC hb e7
  have cc := G.out.2.2.1 w5 e8.laid
  go_wp2_with fail
  refine cc.mono ?_
  rintro e w6 ⟨rfl, hb⟩
  clear cc
  have e9 := e8.next hb
  clear hb e8
  have e10 := e9.lit (lit3 (k + nu) v (m - k)) (by show 3 ≤ 100; omega)
  have cc := G.out.2.2.2 _ e10.laid
  go_wp2_with fail
  rw [lit3_cells]
  refine cc.mono ?_
  rintro e w7 ⟨rfl, hb⟩
  clear cc
  have e11 := e10.next hb
  clear hb e9 e10
  have e12 := e11.lit (lit3 k u (nv + m - k)) (by show 3 ≤ 100; omega)
  have cc := G.out.2.1.1 _ 3 _ (e12.row 1 rfl)
  go_wp2_with fail
  rw [lit3_cells]
  refine cc.mono ?_
  rintro e w8 ⟨v, rfl, hv, hb⟩
  clear cc
  obtain ⟨A1, d1, rfl, hC⟩ := gives_reads hv
  have e13 := (e12.next hb).add hC
  clear hv hC hb e12 e11
  have cc := same_calls AO A1 cO d1 O w8 (e13.row 4 rfl) (e13.row 0 rfl)
  go_wp2_with fail
  refine cc.mono ?_
  rintro e w9 ⟨rfl, hb⟩
  clear cc
  have e14 := e13.next hb
  clear hb e13
  have cc := G.out.2.1.2 _ 3 w9 (e14.row 1 rfl)
  go_wp2_with fail
  refine cc.mono ?_
  rintro e w10 ⟨v, rfl, hv, hb⟩
  clear cc
  obtain ⟨A2, d2, rfl, hC⟩ := gives_reads hv
  have e15 := (e14.next hb).add hC
  clear hv hC hb e14
  have cc := same_calls AU A2 cU d2 U w10 (e15.row 4 rfl) (e15.row 0 rfl)
  go_wp2_with fail
  refine cc.mono ?_
  rintro e w11 ⟨rfl, hb⟩
  clear cc
  have e16 := e15.next hb
  clear hb e15
  go_wp2_with fail
  go_ret
  exact ⟨rfl, e16.bel⟩

end Go.Proofs.YtmfpfipjhhfbhaaDoor
