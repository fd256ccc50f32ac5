/- The statement about RegionMinusMeans, from its plain statement: for all arguments that the statement speaks of. -/
import Derived.Test.YtcmfkmhmehhkpaaDoorRa
import Derived.Test.YtcmfkmhmehhkpaaDoorMc
import Derived.Test.YtcmfkmhmehhkpaaDoorCards
import Derived.SevenTiedAt
set_option linter.unusedVariables false
set_option linter.unusedSimpArgs false
namespace Go.Proofs.YtcmfkmhmehhkpaaDoor
open Go Go.Ai Go.Proofs Go.ChangeShapes Go.WideShapes Go.ChangeAt Go.RowKit Go.Lib
open Go.ChangeMaps (open_string shut_string)

theorem regionMinusMeans_witness (os : Os) {H : Type} (enc : TypeId × Value → H) :
    (OpenSpec.ofChange Rows.regionMinusMeansSpec).preRow enc Tryd.prog Tryd.f8 Rows.regionMinusMeansRow.domain false Rows.regionMinusMeansRow.laid ((laidWorld os).forCall (fun _ _ => 0) ⟨#[], #[.agg #[.slice none 0 0, .bool false, .slice none 0 0], .agg #[.slice none 0 0, .bool false, .slice none 0 0], .string ⟨#[]⟩], []⟩).memory #[.agg #[.slice none 0 0, .bool false, .slice none 0 0], .agg #[.slice none 0 0, .bool false, .slice none 0 0], .string ⟨#[]⟩] := by
  have hw : (DataW.whole enc Tryd.prog ((laidWorld os).forCall (fun _ _ => 0) ⟨#[], #[.agg #[.slice none 0 0, .bool false, .slice none 0 0], .agg #[.slice none 0 0, .bool false, .slice none 0 0], .string ⟨#[]⟩], []⟩).memory Tryd.f8.params.toList (OpenSpec.ofChange Rows.regionMinusMeansSpec).vars false (#[.agg #[.slice none 0 0, .bool false, .slice none 0 0], .agg #[.slice none 0 0, .bool false, .slice none 0 0], .string ⟨#[]⟩] : Array Value).toList 8).map (fun x => (x.1, x.2.1)) =
      some ([.agg [.agg [.nil, .lit (.bool false)], .nil], .agg [.agg [.nil, .lit (.bool false)], .nil], .lit (.string [])], []) := by kernel_rfl
  obtain ⟨⟨x1, x2, x3⟩, hx, hx1⟩ := Option.map_eq_some_iff.1 hw
  simp only [Prod.mk.injEq] at hx1
  obtain ⟨rfl, rfl⟩ := hx1
  exact OpenSpec.preRow_of_cond 8 hx (by kernel_rfl) (fun k hk => by cases hk) (by kernel_rfl) (laid_met os _)

set_option maxRecDepth 100000 in
set_option maxHeartbeats 2000000 in
theorem regionMinusMeans_lifted (os : Os) (started : os.Started) (H : Type) (enc : TypeId × Value → H) (F : Stop.Interp) :
    ReturnsInHanded {} Tryd.checked os 8 .any ((OpenSpec.ofChange Rows.regionMinusMeansSpec).preRow enc Tryd.prog Tryd.f8 Rows.regionMinusMeansRow.domain false Rows.regionMinusMeansRow.laid) (((OpenSpec.ofChange Rows.regionMinusMeansSpec).at F).post enc Tryd.prog Tryd.f8 false true false false) := by
  refine returnsInHanded_of_row (C := Tryd.checked) (s := OpenSpec.ofChange Rows.regionMinusMeansSpec) own started (by kernel_rfl) Tryd.func8
    (witness_row_atRef (enc := enc) (C := Tryd.checked) false (laidWorld os) #[.agg #[.slice none 0 0, .bool false, .slice none 0 0], .agg #[.slice none 0 0, .bool false, .slice none 0 0], .string ⟨#[]⟩] rfl (by kernel_rfl) (by kernel_rfl) (by kernel_rfl) (regionMinusMeans_witness os enc)) ?_
  intro W base args ds gs before hval0 hW hcnd0 hcond0 hsz0 hL hsh _
  have hval : ∀ (j : Nat) t v, Tryd.f8.params[j]? = some t → args[j]? = some v → Value.okWide Tryd.prog W .any base t v := hval0
  have hsz1 : (DataW.weightsEach Tryd.prog (Tryd.f8.params.toList ++ (OpenSpec.ofChange Rows.regionMinusMeansSpec).bare.plain.varTypes Tryd.prog) (ds ++ gs)).all (fun x => decide (x ≤ reachBytes)) = true := hsz0
  rw [show Tryd.f8.params.toList ++ (OpenSpec.ofChange Rows.regionMinusMeansSpec).bare.plain.varTypes Tryd.prog = [29, 29, 9] from by kernel_rfl] at hsz1
  have hW' := hW
  obtain ⟨p, q, hA0, hV, rfl, hfz, hnd⟩ := hW
  have hA : DataW.TrodAll enc Tryd.prog W 0 (fun _ => true) true Tryd.f8.params.toList args.toList ds p := hA0
  rw [Tryd.params8] at hA hval
  obtain ⟨v0, vs0, d0, ds0, p0, q0, hargs0, rfl, rfl, h0, r0⟩ := trodAll_cons hA
  obtain ⟨v1, vs1, d1, ds1, p1, q1, hargs1, rfl, rfl, h1, r1⟩ := trodAll_cons r0
  obtain ⟨v2, vs2, d2, ds2, p2, q2, hargs2, rfl, rfl, h2, r2⟩ := trodAll_cons r1
  obtain ⟨rfl, rfl, rfl⟩ := trodAll_nil r2
  obtain rfl : args = #[v0, v1, v2] := by cases args; simp_all
  obtain ⟨rfl, rfl⟩ := trodVars_none hV
  have hszR : ∀ m ∈ DataW.weightsEach Tryd.prog [29, 29, 9] [d0, d1, d2], m ≤ 140737488351232 := fun m hm => of_decide_eq_true (List.all_eq_true.1 hsz1 m (by simpa using hm))
  obtain ⟨c0, rfl, hc0⟩ := okWide_struct Tryd.underlying29 (hval 0 29 v0 rfl rfl)
  have k0 := h0
  have lt0 : ∀ x ∈ p0, x.block < W.heap.size := by obtain ⟨m, hm⟩ := k0; exact DataW.trod_lt m _ _ _ hm
  obtain ⟨x0, hx0, hb0⟩ : ∃ x : ((.prod (.prod (.list .str) .bool) (.list (.prod (.list .str) .bool))) : Ty).den, Opens W (.prod (.prod (.list .str) .bool) (.list (.prod (.list .str) .bool))) c0.toList x ∧ Ty.wOK 140737488351232 (.prod (.prod (.list .str) .bool) (.list (.prod (.list .str) .bool))) x := by
    obtain ⟨fuel, hf⟩ := h0
    obtain ⟨x, g1, g2⟩ := trod_opensW 8 29 (.prod (.prod (.list .str) .bool) (.list (.prod (.list .str) .bool))) (by kernel_rfl) _ _ _ _ _ _ _ hf
    exact ⟨x, g1, g2 _ fun m hm => hszR m (by simp [DataW.weightsEach, hm])⟩
  obtain ⟨c1, rfl, hc1⟩ := okWide_struct Tryd.underlying29 (hval 1 29 v1 rfl rfl)
  have k1 := h1
  have lt1 : ∀ x ∈ p1, x.block < W.heap.size := by obtain ⟨m, hm⟩ := k1; exact DataW.trod_lt m _ _ _ hm
  obtain ⟨x1, hx1, hb1⟩ : ∃ x : ((.prod (.prod (.list .str) .bool) (.list (.prod (.list .str) .bool))) : Ty).den, Opens W (.prod (.prod (.list .str) .bool) (.list (.prod (.list .str) .bool))) c1.toList x ∧ Ty.wOK 140737488351232 (.prod (.prod (.list .str) .bool) (.list (.prod (.list .str) .bool))) x := by
    obtain ⟨fuel, hf⟩ := h1
    obtain ⟨x, g1, g2⟩ := trod_opensW 8 29 (.prod (.prod (.list .str) .bool) (.list (.prod (.list .str) .bool))) (by kernel_rfl) _ _ _ _ _ _ _ hf
    exact ⟨x, g1, g2 _ fun m hm => hszR m (by simp [DataW.weightsEach, hm])⟩
  obtain ⟨s2, rfl⟩ := okWide_string Tryd.underlying9 (hval 2 9 v2 rfl rfl)
  have k2 := h2
  have lt2 : ∀ x ∈ p2, x.block < W.heap.size := by obtain ⟨m, hm⟩ := k2; exact DataW.trod_lt m _ _ _ hm
  obtain ⟨x2, hx2, hb2⟩ : ∃ x : (.str : Ty).den, Opens W .str [Value.string s2] x ∧ Ty.wOK 140737488351232 .str x := by
    obtain ⟨fuel, hf⟩ := h2
    obtain ⟨x, g1, g2⟩ := trod_opensW 8 9 .str (by kernel_rfl) _ _ _ _ _ _ _ hf
    exact ⟨x, g1, g2 _ fun m hm => hszR m (by simp [DataW.weightsEach, hm])⟩
  have hpure := regionMinusMeans_pure x0 x1 x2 hb0 hb1 hb2
  refine (law_calls law05_RegionMinusMeans_ok hpure (maxLen_cell hsh) (fun w' hb => tG_stays (maxLen_cell hsh) hb) (relL_three (opens_agg hx0) (opens_agg hx1) (opens_one hx2 rfl)) (callFunc_enter Tryd.func8 (by kernel_rfl) (by kernel_rfl))).mono fun e W' ⟨he, bel⟩ => ?_
  subst he
  have back0 := Below.trod laidOut (by kernel_rfl) (of_decide_eq_true (by kernel_rfl)) k0 bel lt0
  have back1 := Below.trod laidOut (by kernel_rfl) (of_decide_eq_true (by kernel_rfl)) k1 bel lt1
  have back2 := Below.trod laidOut (by kernel_rfl) (of_decide_eq_true (by kernel_rfl)) k2 bel lt2
  refine ⟨_, rfl, _, _, _, [], p0 ++ (p1 ++ (p2 ++ [])), [], hW', ?_, ?_, ?_, bel.frame _, fun h => by cases h⟩
  · exact trodAll_mk1 (shut_bool Tryd.underlying4 _)
  · exact trodAll_cons_mk back0 (trodAll_cons_mk back1 (trodAll_cons_mk back2 trodAll_mk0))
  · rfl

theorem regionMinusMeans_holds : Rows.RegionMinusMeansSaid :=
  OpenClaim.holds_of_cond 8 Tryd.f8 rfl rfl rfl rfl rfl rfl rfl ⟨rfl, rfl, rfl, rfl, rfl⟩ rfl rfl rfl rfl rfl (by kernel_rfl) Tryd.func8 (by kernel_rfl)
    (of_decide_eq_true (by kernel_rfl)) (by unfold Func.isWrapper; rw [if_neg (of_decide_eq_false (by kernel_rfl))]; exact ⟨rfl, rfl⟩)
    (fun os started H enc _ F0 => by rw [OpenClaim.pre_eq_preRow]; exact regionMinusMeans_lifted os started H enc F0)

theorem regionMinusMeans_card : Rows.RegionMinusMeansCardSaid :=
  Claim7.holds_tied_plain_at .later [] [.data, .pinned] true (true, "c670125cf5138806d9f082110a52e1110a5ec06029bc4981f713dbc56151a580") false
    regionMinusMeans_holds (fun _ h => by cases h) (by kernel_rfl) (fun _ h => by cases h) regionMinusMeans_row_tie rfl ⟨rfl, rfl⟩ (by kernel_rfl) rfl
    (fun f fn hf hfn => by
      obtain rfl : f = 8 := Option.some.inj ((show Tryd.prog.funcNamed "stockyard/stockyardlaw05.RegionMinusMeans" = some 8 by kernel_rfl).symm.trans hf) |>.symm
      obtain rfl : fn = Tryd.f8 := (Option.some.inj (Tryd.func8.symm.trans hfn)).symm
      exact ⟨by kernel_rfl, fun j t ht => by
        rw [Tryd.params8] at ht
        have h3 : t ∈ ([29, 29, 9] : List Nat) := List.mem_of_getElem? (i := j) (by simpa using ht)
        simp only [List.mem_cons, List.not_mem_nil, or_false] at h3
        rcases h3 with rfl | rfl | rfl
        · exact (show Tryd.prog.wantsStandIn 29 = false by kernel_rfl)
        · exact (show Tryd.prog.wantsStandIn 29 = false by kernel_rfl)
        · exact (show Tryd.prog.wantsStandIn 9 = false by kernel_rfl)⟩)
    (by kernel_rfl)
end Go.Proofs.YtcmfkmhmehhkpaaDoor
