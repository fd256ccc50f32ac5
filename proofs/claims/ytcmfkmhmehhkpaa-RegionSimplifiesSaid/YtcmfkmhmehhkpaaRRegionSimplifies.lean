/- The statement about RegionSimplifies, from its plain statement: for all arguments that the statement speaks of. -/
import Derived.Test.YtcmfkmhmehhkpaaRa
import Derived.Test.YtcmfkmhmehhkpaaMc
import Derived.Test.YtcmfkmhmehhkpaaRows
set_option linter.unusedVariables false
set_option linter.unusedSimpArgs false
namespace Go.Proofs.Ytcmfkmhmehhkpaa
open Go Go.Ai Go.Proofs Go.ChangeShapes Go.WideShapes Go.ChangeAt Go.RowKit Go.Lib
open Go.ChangeMaps (open_string shut_string)

theorem regionSimplifies_witness (os : Os) {H : Type} (enc : TypeId × Value → H) :
    (OpenSpec.ofChange Rows.regionSimplifiesSpec).preRow enc Try.prog Try.f5 Rows.regionSimplifiesRow.domain false Rows.regionSimplifiesRow.laid ((laidWorld os).forCall (fun _ _ => 0) ⟨#[], #[.agg #[.slice none 0 0, .bool false, .slice none 0 0]], []⟩).memory #[.agg #[.slice none 0 0, .bool false, .slice none 0 0]] := by
  have hw : (DataW.whole enc Try.prog ((laidWorld os).forCall (fun _ _ => 0) ⟨#[], #[.agg #[.slice none 0 0, .bool false, .slice none 0 0]], []⟩).memory Try.f5.params.toList (OpenSpec.ofChange Rows.regionSimplifiesSpec).vars false (#[.agg #[.slice none 0 0, .bool false, .slice none 0 0]] : Array Value).toList 8).map (fun x => (x.1, x.2.1)) =
      some ([.agg [.agg [.nil, .lit (.bool false)], .nil]], []) := by kernel_rfl
  obtain ⟨⟨x1, x2, x3⟩, hx, hx1⟩ := Option.map_eq_some_iff.1 hw
  simp only [Prod.mk.injEq] at hx1
  obtain ⟨rfl, rfl⟩ := hx1
  exact OpenSpec.preRow_of_cond 8 hx (by kernel_rfl) (fun k hk => by cases hk) (by kernel_rfl) (laid_met os _)

set_option maxRecDepth 100000 in
set_option maxHeartbeats 2000000 in
theorem regionSimplifies_lifted (os : Os) (started : os.Started) (H : Type) (enc : TypeId × Value → H) (F : Stop.Interp) :
    ReturnsInHanded {} Try.checked os 5 .any ((OpenSpec.ofChange Rows.regionSimplifiesSpec).preRow enc Try.prog Try.f5 Rows.regionSimplifiesRow.domain false Rows.regionSimplifiesRow.laid) (((OpenSpec.ofChange Rows.regionSimplifiesSpec).at F).post enc Try.prog Try.f5 false true false false) := by
  refine returnsInHanded_of_row (C := Try.checked) (s := OpenSpec.ofChange Rows.regionSimplifiesSpec) own started (by kernel_rfl) Try.func5
    (witness_row_atRef (enc := enc) (C := Try.checked) false (laidWorld os) #[.agg #[.slice none 0 0, .bool false, .slice none 0 0]] rfl (by kernel_rfl) (by kernel_rfl) (by kernel_rfl) (regionSimplifies_witness os enc)) ?_
  intro W base args ds gs before hval0 hW hcnd0 hcond0 hsz0 hL hsh _
  have hval : ∀ (j : Nat) t v, Try.f5.params[j]? = some t → args[j]? = some v → Value.okWide Try.prog W .any base t v := hval0
  have hsz1 : (DataW.weightsEach Try.prog (Try.f5.params.toList ++ (OpenSpec.ofChange Rows.regionSimplifiesSpec).bare.plain.varTypes Try.prog) (ds ++ gs)).all (fun x => decide (x ≤ reachBytes)) = true := hsz0
  rw [show Try.f5.params.toList ++ (OpenSpec.ofChange Rows.regionSimplifiesSpec).bare.plain.varTypes Try.prog = [27] from by kernel_rfl] at hsz1
  have hW' := hW
  obtain ⟨p, q, hA0, hV, rfl, hfz, hnd⟩ := hW
  have hA : DataW.TrodAll enc Try.prog W 0 (fun _ => true) true Try.f5.params.toList args.toList ds p := hA0
  rw [Try.params5] at hA hval
  obtain ⟨v0, vs0, d0, ds0, p0, q0, hargs0, rfl, rfl, h0, r0⟩ := trodAll_cons hA
  obtain ⟨rfl, rfl, rfl⟩ := trodAll_nil r0
  obtain rfl : args = #[v0] := by cases args; simp_all
  obtain ⟨rfl, rfl⟩ := trodVars_none hV
  have hszR : ∀ m ∈ DataW.weightsEach Try.prog [27] [d0], m ≤ 140737488351232 := fun m hm => of_decide_eq_true (List.all_eq_true.1 hsz1 m (by simpa using hm))
  obtain ⟨c0, rfl, hc0⟩ := okWide_struct Try.underlying27 (hval 0 27 v0 rfl rfl)
  have k0 := h0
  have lt0 : ∀ x ∈ p0, x.block < W.heap.size := by obtain ⟨m, hm⟩ := k0; exact DataW.trod_lt m _ _ _ hm
  obtain ⟨x0, hx0, hb0⟩ : ∃ x : ((.prod (.prod (.list .str) .bool) (.list (.prod (.list .str) .bool))) : Ty).den, Opens W (.prod (.prod (.list .str) .bool) (.list (.prod (.list .str) .bool))) c0.toList x ∧ Ty.wOK 140737488351232 (.prod (.prod (.list .str) .bool) (.list (.prod (.list .str) .bool))) x := by
    obtain ⟨fuel, hf⟩ := h0
    obtain ⟨x, g1, g2⟩ := trod_opensW 8 27 (.prod (.prod (.list .str) .bool) (.list (.prod (.list .str) .bool))) (by kernel_rfl) _ _ _ _ _ _ _ hf
    exact ⟨x, g1, g2 _ fun m hm => hszR m (by simp [DataW.weightsEach, hm])⟩
  have hpure := regionSimplifies_pure x0 hb0
  refine (law_calls law05_RegionSimplifies_ok hpure (maxLen_cell hsh) (fun w' hb => tG_stays (maxLen_cell hsh) hb) (relL_one (opens_agg hx0)) (callFunc_enter Try.func5 (by kernel_rfl) (by kernel_rfl))).mono fun e W' ⟨he, bel⟩ => ?_
  subst he
  have back0 := Below.trod laidOut (by kernel_rfl) (of_decide_eq_true (by kernel_rfl)) k0 bel lt0
  refine ⟨_, rfl, _, _, _, [], p0 ++ [], [], hW', ?_, ?_, ?_, bel.frame _, fun h => by cases h⟩
  · exact trodAll_mk1 (shut_bool Try.underlying4 _)
  · exact trodAll_cons_mk back0 trodAll_mk0
  · rfl

theorem regionSimplifies_holds : Rows.RegionSimplifiesSaid :=
  OpenClaim.holds_of_cond 5 Try.f5 rfl rfl rfl rfl rfl rfl rfl ⟨rfl, rfl, rfl, rfl, rfl⟩ rfl rfl rfl rfl rfl (by kernel_rfl) Try.func5 (by kernel_rfl)
    (of_decide_eq_true (by kernel_rfl)) (by unfold Func.isWrapper; rw [if_neg (of_decide_eq_false (by kernel_rfl))]; exact ⟨rfl, rfl⟩)
    (fun os started H enc _ F0 => by rw [OpenClaim.pre_eq_preRow]; exact regionSimplifies_lifted os started H enc F0)

end Go.Proofs.Ytcmfkmhmehhkpaa
