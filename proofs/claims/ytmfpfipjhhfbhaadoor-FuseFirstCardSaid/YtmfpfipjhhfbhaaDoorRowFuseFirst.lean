/- For every input epitomelaw10.FuseFirst returns true, and its arguments read behind the call as they read before: the tied card Rows.FuseFirstCardSaid. Conditions: none beyond the card's own (the three listed package-level variables hold what the program's text lays). -/
import Derived.Test.YtmfpfipjhhfbhaaDoorDoor
import Derived.Test.YtmfpfipjhhfbhaaDoorLFuseFirst
import Derived.Test.YtmfpfipjhhfbhaaDoorCards
import Derived.Test.YtmfpfipjhhfbhaaDoorTie
import Derived.SevenTiedAt
import Derived.Test.YtmfpfipjhhfbhaaDoorOpen2
namespace Go.Proofs.YtmfpfipjhhfbhaaDoor
open Go.RowKit Go.ChangeShapes Go.WideShapes Go.ChangeAt

theorem fuseFirst_witness (os : Os) {H : Type} (enc : TypeId × Value → H) :
    (OpenSpec.ofChange Rows.fuseFirstSpec).preRow enc Tryd.prog Tryd.f13 Rows.fuseFirstRow.domain false Rows.fuseFirstRow.laid ((laidWorld os).forCall (fun _ _ => 0) ⟨#[], #[.slice none 0 0, .int .u8 0, .int .u8 0], []⟩).memory #[.slice none 0 0, .int .u8 0, .int .u8 0] := by
  have hw : (DataW.whole enc Tryd.prog ((laidWorld os).forCall (fun _ _ => 0) ⟨#[], #[.slice none 0 0, .int .u8 0, .int .u8 0], []⟩).memory Tryd.f13.params.toList (OpenSpec.ofChange Rows.fuseFirstSpec).vars false #[Value.slice none 0 0, .int .u8 0, .int .u8 0].toList 8).map (fun x => (x.1, x.2.1)) =
      some ([.nil, .lit (.int .u8 0), .lit (.int .u8 0)], []) := by kernel_rfl
  obtain ⟨⟨x1, x2, x3⟩, hx, hx1⟩ := Option.map_eq_some_iff.1 hw
  simp only [Prod.mk.injEq] at hx1
  obtain ⟨rfl, rfl⟩ := hx1
  exact OpenSpec.preRow_of_cond 8 hx (by kernel_rfl) (fun k hk => by cases hk) (by kernel_rfl) (laid_met os _)

theorem Tryd.laidOutK : laidOutB Tryd.prog = true := by kernel_rfl
set_option maxRecDepth 100000 in
set_option maxHeartbeats 2000000 in
theorem fuseFirst_lifted (os : Os) (started : os.Started) (H : Type) (enc : TypeId × Value → H) (F : Stop.Interp) :
    ReturnsInHanded {} Tryd.checked os 13 .any ((OpenSpec.ofChange Rows.fuseFirstSpec).preRow enc Tryd.prog Tryd.f13 Rows.fuseFirstRow.domain false Rows.fuseFirstRow.laid) (((OpenSpec.ofChange Rows.fuseFirstSpec).at F).post enc Tryd.prog Tryd.f13 false true false false) := by
  refine returnsInHanded_of_row (C := Tryd.checked) (s := OpenSpec.ofChange Rows.fuseFirstSpec) Tryd.ownK started (by kernel_rfl) Tryd.func13
    (witness_row_atRef (enc := enc) (C := Tryd.checked) false (laidWorld os) #[.slice none 0 0, .int .u8 0, .int .u8 0] rfl (by kernel_rfl) (by kernel_rfl) (by kernel_rfl) (fuseFirst_witness os enc)) ?_
  intro W base args ds gs before hval0 hW _ _ _ hL _ _
  have hval : ∀ (j : Nat) t v, Tryd.f13.params[j]? = some t → args[j]? = some v → Value.okWide Tryd.prog W .any base t v := hval0
  have hW' := hW
  obtain ⟨p, q, hA0, hV0, rfl, _, _⟩ := hW
  have hA : DataW.TrodAll enc Tryd.prog W 0 (fun _ => true) true Tryd.f13.params.toList args.toList ds p := hA0
  rw [Tryd.params13] at hA hval
  obtain ⟨v0, v1, v2, d0, d1, d2, p0, p1, p2, rfl, rfl, rfl, h0, h1, h2⟩ := trodAll_three hA
  obtain ⟨rfl, rfl⟩ := trodVars_none hV0
  have h0k := h0
  obtain ⟨A0, c0, x0, rfl, g0, t0⟩ := open_rowsSp (hval 0 53 _ rfl rfl) h0
  obtain ⟨n1, rfl, rfl, rfl, w1⟩ := open_int Tryd.underlying5 (hval 1 5 _ rfl rfl) h1
  have b1 : IntKind.u8.min ≤ n1 ∧ n1 ≤ IntKind.u8.max := by simpa [Lit.wf] using w1
  obtain ⟨n2, rfl, rfl, rfl, w2⟩ := open_int Tryd.underlying5 (hval 2 5 _ rfl rfl) h2
  have b2 : IntKind.u8.min ≤ n2 ∧ n2 ≤ IntKind.u8.max := by simpa [Lit.wf] using w2
  clear hA0 hV0 hval0
  have hLd : Laid W := of_laid (Lib.laidMet.reads hL (.head _)) (Lib.laidMet.reads hL (.tail _ (.head _))) (Lib.laidMet.reads hL (.tail _ (.tail _ (.head _))))
  refine (lawFuseFirst_calls A0 c0 x0 n1 n2 W hLd g0 t0 b1.1 b1.2 b2.1 b2.2).mono ?_
  rintro e W' ⟨rfl, bel⟩
  have e1 : ((OpenSpec.ofChange Rows.fuseFirstSpec).at F).fn H ([d0, .lit (.int .u8 n1), .lit (.int .u8 n2)] ++ []) = { results := [.lit (.bool true)], args := [d0, .lit (.int .u8 n1), .lit (.int .u8 n2)] } := rfl
  have hlt : ∀ x ∈ p0 ++ [] ++ [], x.block < W.heap.size := fun x hx => by simpa using hW'.lt x (by simpa using hx)
  have T0 := Below.trod Tryd.laidOutK (by kernel_rfl) (of_decide_eq_true (by kernel_rfl)) h0k bel (fun x hx => hlt x (by simp [hx]))
  refine ⟨_, rfl, _, _, _, [], p0 ++ ([] ++ ([])), [], hW', ?_, ?_, ?_, bel.frame _, fun h => by cases h⟩
  · rw [e1]; exact trodAll_mk1 (shut_bool Tryd.underlying4 _)
  · rw [e1]; exact trodAll_mk3 T0 (shut_int Tryd.underlying5 w1) (shut_int Tryd.underlying5 w2)
  · rw [e1]; rfl

theorem fuseFirst_holds : Rows.FuseFirstSaid :=
  OpenClaim.holds_of_cond 13 Tryd.f13 rfl rfl rfl rfl rfl rfl rfl ⟨rfl, rfl, rfl, rfl, rfl⟩ rfl rfl rfl rfl rfl (by kernel_rfl) Tryd.func13 (by kernel_rfl)
    (of_decide_eq_true (by kernel_rfl)) (by unfold Func.isWrapper; rw [if_neg (of_decide_eq_false (by kernel_rfl))]; exact ⟨rfl, rfl⟩)
    (fun os started H enc _ F0 => by rw [OpenClaim.pre_eq_preRow]; exact fuseFirst_lifted os started H enc F0)
theorem fuseFirst_card : Rows.FuseFirstCardSaid :=
  Claim7.holds_tied_plain_at .later [] [.data, .data, .pinned] true Rows.fuseFirstCard.stood.harness false
    fuseFirst_holds (fun _ h => by cases h) (by kernel_rfl) (fun _ h => by cases h) fuseFirst_row_tie rfl ⟨rfl, rfl⟩ (by kernel_rfl) rfl
    (fun f fn hf hfn => by
      obtain rfl : f = 13 := Option.some.inj ((show Tryd.prog.funcNamed Rows.fuseFirstRow.func = some 13 by kernel_rfl).symm.trans hf) |>.symm
      obtain rfl : fn = Tryd.f13 := (Option.some.inj (Tryd.func13.symm.trans hfn)).symm
      exact ⟨by kernel_rfl, fun j t ht => by
        rw [Tryd.params13] at ht
        have hm : t ∈ [53, 5, 5] := by simpa using Array.mem_of_getElem? ht
        have hall : ([53, 5, 5].all fun u => !Tryd.prog.wantsStandIn u) = true := by kernel_rfl
        exact (show Tryd.prog.wantsStandIn t = false by simpa using List.all_eq_true.1 hall t hm)⟩)
    (by kernel_rfl)
#print axioms fuseFirst_card

end Go.Proofs.YtmfpfipjhhfbhaaDoor
