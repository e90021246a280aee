/- epitomelaw11.shown is true. -/
import Derived.Test.YtmfpfipjhhfbhaaDoorOne
import Derived.Test.YtmfpfipjhhfbhaaDoorSpans11
namespace Go.Proofs.YtmfpfipjhhfbhaaDoor
open Go.Lib Go.RowKit Go.Proofs.YtmfpfipjhhfbhaaDoorW.PrintWords

def b11a : ByteArray := ⟨#[107, 49, 121, 49, 107, 50]⟩
def b11s : ByteArray := ⟨#[107, 49, 100, 49, 120, 49, 107, 49]⟩
def b11t : ByteArray := ⟨#[107, 49, 120, 49, 100, 49, 107, 49]⟩
def b11q : ByteArray := ⟨#[107, 50, 121, 49, 107, 49]⟩
def r11a : List Sp := [⟨1, 1, ⟨#[]⟩⟩, ⟨2, 0, ⟨#[121]⟩⟩, ⟨1, 2, ⟨#[]⟩⟩]
def r11s : List Sp := [⟨1, 1, ⟨#[]⟩⟩, ⟨3, 1, ⟨#[]⟩⟩, ⟨2, 0, ⟨#[120]⟩⟩, ⟨1, 1, ⟨#[]⟩⟩]
def r11t : List Sp := [⟨1, 1, ⟨#[]⟩⟩, ⟨2, 0, ⟨#[120]⟩⟩, ⟨3, 1, ⟨#[]⟩⟩, ⟨1, 1, ⟨#[]⟩⟩]
def r11q : List Sp := [⟨1, 2, ⟨#[]⟩⟩, ⟨2, 0, ⟨#[121]⟩⟩, ⟨1, 1, ⟨#[]⟩⟩]
theorem e11a : spansS b11a 3 = r11a := by rfl
theorem e11s : spansS b11s 4 = r11s := by rfl
theorem e11t : spansS b11t 4 = r11t := by rfl
theorem e11q : spansS b11q 3 = r11q := by rfl
theorem g121 : ∀ c ∈ [121], goodC c := fun c h => by rw [List.mem_singleton.1 h]; exact good121
theorem g120 : ∀ c ∈ [120], goodC c := fun c h => by rw [List.mem_singleton.1 h]; exact good120
theorem w11a : Rw r11a [.keep, .put 121, .keep, .keep] 20 := (rw_keep 1 (by omega) (rw_put [121] g121 (rw_keep 2 (by omega) (rw_nil 1)))).up (by decide)
theorem w11s : Rw r11s [.keep, .drop, .put 120, .keep] 20 := (rw_keep 1 (by omega) (rw_drop 1 (by omega) (rw_put [120] g120 (rw_keep 1 (by omega) (rw_nil 1))))).up (by decide)
theorem w11t : Rw r11t [.keep, .put 120, .drop, .keep] 20 := (rw_keep 1 (by omega) (rw_put [120] g120 (rw_drop 1 (by omega) (rw_keep 1 (by omega) (rw_nil 1))))).up (by decide)
theorem w11q : Rw r11q [.keep, .keep, .put 121, .keep] 20 := (rw_keep 2 (by omega) (rw_put [121] g121 (rw_keep 1 (by omega) (rw_nil 1)))).up (by decide)
theorem f1 : full ⟨1, 1, ⟨#[]⟩⟩ = true := by simp [full, spEmpty]
theorem f2 : full ⟨1, 2, ⟨#[]⟩⟩ = true := by simp [full, spEmpty]
theorem f121 : full ⟨2, 0, ⟨#[121]⟩⟩ = true := by simp [full, spEmpty, Lib.toList_data]
theorem o11a : overA [.keep, .put 121, .keep, .keep] [.keep, .drop, .put 120, .keep] = [.keep, .put 121, .keep, .keep] := by
  rw [over_xk .keep trivial, over_aput 121 [.keep, .keep] [.drop, .put 120, .keep] trivial, over_xd .keep trivial, over_sput, over_xk .keep trivial, over_nn]
theorem o11b : overA [.keep, .put 121, .keep, .keep] [.keep, .put 120, .drop, .keep] = [.keep, .keep, .put 121, .keep] := by
  rw [over_xk .keep trivial, over_sput, over_aput 121 [.keep, .keep] [.drop, .keep] trivial, over_xd .keep trivial, over_xk .keep trivial, over_nn]
theorem n11a : ofA (overA [.keep, .put 121, .keep, .keep] [.keep, .drop, .put 120, .keep]) = r11a := by
  rw [o11a]; exact alt2_of (X := r11a) ⟨f1, by decide, f121, by decide, f2⟩ w11a
theorem n11b : ofA (overA [.keep, .put 121, .keep, .keep] [.keep, .put 120, .drop, .keep]) = r11q := by
  rw [o11b]; exact alt2_of (X := r11q) ⟨f2, by decide, f121, by decide, f1⟩ w11q

set_option maxRecDepth 100000 in
set_option maxHeartbeats 1000000 in
theorem shown11_calls (w : World) (hL : Laid w) : Calls Tryd.prog 30 #[] w fun e w' => e = .returned (.bool true) ∧ Below w.heap.size w w' := by
  have s1 := fun W => spans_calls b11a 3 W (by rfl) (by omega) (by decide)
  have s2 := fun W => spans_calls b11s 4 W (by rfl) (by omega) (by decide)
  have s3 := fun W => spans_calls b11t 4 W (by rfl) (by omega) (by decide)
  have s4 := fun W => spans_calls b11q 3 W (by rfl) (by omega) (by decide)
  have c1 := fun A B ca cb W hW h1 h2 => over_rw w11a w11s (by rfl) (by omega) A B ca cb W hW h1 h2
  have c2 := fun A B ca cb W hW h1 h2 => over_rw w11a w11t (by rfl) (by omega) A B ca cb W hW h1 h2
  rw [e11a] at s1
  rw [e11s] at s2
  rw [e11t] at s3
  rw [e11q] at s4
  rw [n11a] at c1
  rw [n11b] at c2
  unfold b11a at s1
  unfold b11s at s2
  unfold b11t at s3
  unfold b11q at s4
  have e1 := Env.start hL
  have G := Lib.hid (And.intro (And.intro s1 s2) (And.intro (And.intro s3 s4) (And.intro c1 c2)))
  clear s1 s2 s3 s4 c1 c2
  generalize r11a = P at *
  generalize r11s = S at *
  generalize r11t = T at *
  generalize r11q = Q at *
  go_enter Tryd.func30, Tryd.ntmps30
  have cc := G.out.1.1 w
  go_wp2_with fail
  refine cc.mono ?_
  rintro e w1 ⟨v, rfl, hv, hb⟩
  clear cc
  obtain ⟨A1, d1, rfl, hC⟩ := gives_reads hv
  have e2 := (e1.next hb).add hC
  clear hv hC hb e1
  have cc := G.out.1.2 w1
  go_wp2_with fail
  refine cc.mono ?_
  rintro e w2 ⟨v, rfl, hv, hb⟩
  clear cc
  obtain ⟨A2, d2, rfl, hC⟩ := gives_reads hv
  have e3 := (e2.next hb).add hC
  clear hv hC hb e2
  have cc := G.out.2.2.1 A1 A2 d1 d2 w2 e3.laid (e3.row 1 rfl) (e3.row 0 rfl)
  go_wp2_with fail
  refine cc.mono ?_
  rintro e w3 ⟨v, rfl, hv, hb⟩
  clear cc
  obtain ⟨A3, d3, rfl, hC⟩ := gives_reads hv
  have e4 := (e3.next hb).add hC
  clear hv hC hb e3
  have cc := G.out.1.1 w3
  go_wp2_with fail
  refine cc.mono ?_
  rintro e w4 ⟨v, rfl, hv, hb⟩
  clear cc
  obtain ⟨A4, d4, rfl, hC⟩ := gives_reads hv
  have e5 := (e4.next hb).add hC
  clear hv hC hb e4
  have cc := G.out.2.1.1 w4
  go_wp2_with fail
  refine cc.mono ?_
  rintro e w5 ⟨v, rfl, hv, hb⟩
  clear cc
  obtain ⟨A5, d5, rfl, hC⟩ := gives_reads hv
  have e6 := (e5.next hb).add hC
  clear hv hC hb e5
  have cc := G.out.2.2.2 A4 A5 d4 d5 w5 e6.laid (e6.row 1 rfl) (e6.row 0 rfl)
  go_wp2_with fail
  refine cc.mono ?_
  rintro e w6 ⟨v, rfl, hv, hb⟩
  clear cc
  obtain ⟨A6, d6, rfl, hC⟩ := gives_reads hv
  have e7 := (e6.next hb).add hC
  clear hv hC hb e6
  have cc := G.out.1.1 w6
  go_wp2_with fail
  refine cc.mono ?_
  rintro e w7 ⟨v, rfl, hv, hb⟩
  clear cc
  obtain ⟨A7, d7, rfl, hC⟩ := gives_reads hv
  have e8 := (e7.next hb).add hC
  clear hv hC hb e7
  have cc := same_calls A3 A7 d3 d7 P w7 (e8.row 4 rfl) (e8.row 0 rfl)
  go_wp2_with fail
  refine cc.mono ?_
  rintro e w8 ⟨rfl, hb⟩
  clear cc
  have e9 := e8.next hb
  clear hb e8
  have cc := G.out.2.1.2 w8
  go_wp2_with fail
  refine cc.mono ?_
  rintro e w9 ⟨v, rfl, hv, hb⟩
  clear cc
  obtain ⟨A8, d8, rfl, hC⟩ := gives_reads hv
  have e10 := (e9.next hb).add hC
  clear hv hC hb e9
  have cc := same_calls A6 A8 d6 d8 Q w9 (e10.row 2 rfl) (e10.row 0 rfl)
  go_wp2_with fail
  refine cc.mono ?_
  rintro e w10 ⟨rfl, hb⟩
  clear cc
  have e11 := e10.next hb
  clear hb e10
  go_wp2_with fail
  go_ret
  exact ⟨rfl, e11.bel⟩

end Go.Proofs.YtmfpfipjhhfbhaaDoor
