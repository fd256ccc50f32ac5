/- The statement about RegionParts, from its plain statement: for all arguments that the statement speaks of. -/
import Derived.Test.YtcmfkmhmehhkpaaRa
import Derived.Test.YtcmfkmhmehhkpaaMc
import Derived.Test.YtcmfkmhmehhkpaaRows
set_option linter.unusedVariables false
set_option linter.unusedSimpArgs false
namespace Go.Proofs.Ytcmfkmhmehhkpaa
open Go Go.Ai Go.Proofs Go.ChangeShapes Go.WideShapes Go.ChangeAt Go.RowKit Go.Lib
open Go.ChangeMaps (open_string shut_string)

theorem regionParts_witness (os : Os) {H : Type} (enc : TypeId × Value → H) :
    (OpenSpec.ofChange Rows.regionPartsSpec).preRow enc Try.prog Try.f8 Rows.regionPartsRow.domain false Rows.regionPartsRow.laid ((laidWorld os).forCall (fun _ _ => 0) ⟨#[], #[.agg #[.slice none 0 0, .bool false, .slice none 0 0], .agg #[.slice none 0 0, .bool false, .slice none 0 0]], []⟩).memory #[.agg #[.slice none 0 0, .bool false, .slice none 0 0], .agg #[.slice none 0 0, .bool false, .slice none 0 0]] := by
  have hw : (DataW.whole enc Try.prog ((laidWorld os).forCall (fun _ _ => 0) ⟨#[], #[.agg #[.slice none 0 0, .bool false, .slice none 0 0], .agg #[.slice none 0 0, .bool false, .slice none 0 0]], []⟩).memory Try.f8.params.toList (OpenSpec.ofChange Rows.regionPartsSpec).vars false (#[.agg #[.slice none 0 0, .bool false, .slice none 0 0], .agg #[.slice none 0 0, .bool false, .slice none 0 0]] : Array Value).toList 8).map (fun x => (x.1, x.2.1)) =
      some ([.agg [.agg [.nil, .lit (.bool false)], .nil], .agg [.agg [.nil, .lit (.bool false)], .nil]], []) := by kernel_rfl
  obtain ⟨⟨x1, x2, x3⟩, hx, hx1⟩ := Option.map_eq_some_iff.1 hw
  simp only [Prod.mk.injEq] at hx1
  obtain ⟨rfl, rfl⟩ := hx1
  exact OpenSpec.preRow_of_cond 8 hx (by kernel_rfl) (fun k hk => by cases hk) (by kernel_rfl) (laid_met os _)

set_option maxRecDepth 100000 in
set_option maxHeartbeats 2000000 in
theorem regionParts_lifted (os : Os) (started : os.Started) (H : Type) (enc : TypeId × Value → H) (F : Stop.Interp) :
    ReturnsInHanded {} Try.checked os 8 .any ((OpenSpec.ofChange Rows.regionPartsSpec).preRow enc Try.prog Try.f8 Rows.regionPartsRow.domain false Rows.regionPartsRow.laid) (((OpenSpec.ofChange Rows.regionPartsSpec).at F).post enc Try.prog Try.f8 false true false false) := by
  refine returnsInHanded_of_row (C := Try.checked) (s := OpenSpec.ofChange Rows.regionPartsSpec) own started (by kernel_rfl) Try.func8
    (witness_row_atRef (enc := enc) (C := Try.checked) false (laidWorld os) #[.agg #[.slice none 0 0, .bool false, .slice none 0 0], .agg #[.slice none 0 0, .bool false, .slice none 0 0]] rfl (by kernel_rfl) (by kernel_rfl) (by kernel_rfl) (regionParts_witness os enc)) ?_
  intro W base args ds gs before hval0 hW hcnd0 hcond0 hsz0 hL hsh _
  have hval : ∀ (j : Nat) t v, Try.f8.params[j]? = some t → args[j]? = some v → Value.okWide Try.prog W .any base t v := hval0
  have hsz1 : (DataW.weightsEach Try.prog (Try.f8.params.toList ++ (OpenSpec.ofChange Rows.regionPartsSpec).bare.plain.varTypes Try.prog) (ds ++ gs)).all (fun x => decide (x ≤ reachBytes)) = true := hsz0
  rw [show Try.f8.params.toList ++ (OpenSpec.ofChange Rows.regionPartsSpec).bare.plain.varTypes Try.prog = [27, 27] from by kernel_rfl] at hsz1
  have hW' := hW
  obtain ⟨p, q, hA0, hV, rfl, hfz, hnd⟩ := hW
  have hA : DataW.TrodAll enc Try.prog W 0 (fun _ => true) true Try.f8.params.toList args.toList ds p := hA0
  rw [Try.params8] at hA hval
  obtain ⟨v0, vs0, d0, ds0, p0, q0, hargs0, rfl, rfl, h0, r0⟩ := trodAll_cons hA
  obtain ⟨v1, vs1, d1, ds1, p1, q1, hargs1, rfl, rfl, h1, r1⟩ := trodAll_cons r0
  obtain ⟨rfl, rfl, rfl⟩ := trodAll_nil r1
  obtain rfl : args = #[v0, v1] := by cases args; simp_all
  obtain ⟨rfl, rfl⟩ := trodVars_none hV
  have hszR : ∀ m ∈ DataW.weightsEach Try.prog [27, 27] [d0, d1], m ≤ 140737488351232 := fun m hm => of_decide_eq_true (List.all_eq_true.1 hsz1 m (by simpa using hm))
  obtain ⟨c0, rfl, hc0⟩ := okWide_struct Try.underlying27 (hval 0 27 v0 rfl rfl)
  have k0 := h0
  have lt0 : ∀ x ∈ p0, x.block < W.heap.size := by obtain ⟨m, hm⟩ := k0; exact DataW.trod_lt m _ _ _ hm
  obtain ⟨x0, hx0, hb0⟩ : ∃ x : ((.prod (.prod (.list .str) .bool) (.list (.prod (.list .str) .bool))) : Ty).den, Opens W (.prod (.prod (.list .str) .bool) (.list (.prod (.list .str) .bool))) c0.toList x ∧ Ty.wOK 140737488351232 (.prod (.prod (.list .str) .bool) (.list (.prod (.list .str) .bool))) x := by
    obtain ⟨fuel, hf⟩ := h0
    obtain ⟨x, g1, g2⟩ := trod_opensW 8 27 (.prod (.prod (.list .str) .bool) (.list (.prod (.list .str) .bool))) (by kernel_rfl) _ _ _ _ _ _ _ hf
    exact ⟨x, g1, g2 _ fun m hm => hszR m (by simp [DataW.weightsEach, hm])⟩
  obtain ⟨c1, rfl, hc1⟩ := okWide_struct Try.underlying27 (hval 1 27 v1 rfl rfl)
  have k1 := h1
  have lt1 : ∀ x ∈ p1, x.block < W.heap.size := by obtain ⟨m, hm⟩ := k1; exact DataW.trod_lt m _ _ _ hm
  obtain ⟨x1, hx1, hb1⟩ : ∃ x : ((.prod (.prod (.list .str) .bool) (.list (.prod (.list .str) .bool))) : Ty).den, Opens W (.prod (.prod (.list .str) .bool) (.list (.prod (.list .str) .bool))) c1.toList x ∧ Ty.wOK 140737488351232 (.prod (.prod (.list .str) .bool) (.list (.prod (.list .str) .bool))) x := by
    obtain ⟨fuel, hf⟩ := h1
    obtain ⟨x, g1, g2⟩ := trod_opensW 8 27 (.prod (.prod (.list .str) .bool) (.list (.prod (.list .str) .bool))) (by kernel_rfl) _ _ _ _ _ _ _ hf
    exact ⟨x, g1, g2 _ fun m hm => hszR m (by simp [DataW.weightsEach, hm])⟩
  have hpure := regionParts_pure x0 x1 hb0 hb1
  refine (law_calls law05_RegionParts_ok hpure (maxLen_cell hsh) (fun w' hb => tG_stays (maxLen_cell hsh) hb) (relL_two (opens_agg hx0) (opens_agg hx1)) (callFunc_enter Try.func8 (by kernel_rfl) (by kernel_rfl))).mono fun e W' ⟨he, bel⟩ => ?_
  subst he
  have back0 := Below.trod laidOut (by kernel_rfl) (of_decide_eq_true (by kernel_rfl)) k0 bel lt0
  have back1 := Below.trod laidOut (by kernel_rfl) (of_decide_eq_true (by kernel_rfl)) k1 bel lt1
  refine ⟨_, rfl, _, _, _, [], p0 ++ (p1 ++ []), [], hW', ?_, ?_, ?_, bel.frame _, fun h => by cases h⟩
  · exact trodAll_mk1 (shut_bool Try.underlying4 _)
  · exact trodAll_cons_mk back0 (trodAll_cons_mk back1 trodAll_mk0)
  · rfl

theorem regionParts_holds : Rows.RegionPartsSaid :=
  OpenClaim.holds_of_cond 8 Try.f8 rfl rfl rfl rfl rfl rfl rfl ⟨rfl, rfl, rfl, rfl, rfl⟩ rfl rfl rfl rfl rfl (by kernel_rfl) Try.func8 (by kernel_rfl)
    (of_decide_eq_true (by kernel_rfl)) (by unfold Func.isWrapper; rw [if_neg (of_decide_eq_false (by kernel_rfl))]; exact ⟨rfl, rfl⟩)
    (fun os started H enc _ F0 => by rw [OpenClaim.pre_eq_preRow]; exact regionParts_lifted os started H enc F0)

end Go.Proofs.Ytcmfkmhmehhkpaa
