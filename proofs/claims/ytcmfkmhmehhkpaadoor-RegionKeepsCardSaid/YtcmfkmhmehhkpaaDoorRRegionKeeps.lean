/- The statement about RegionKeeps, from its plain statement: for all arguments that the statement speaks of. -/
import Derived.Test.YtcmfkmhmehhkpaaDoorRa
import Derived.Test.YtcmfkmhmehhkpaaDoorMc
import Derived.Test.YtcmfkmhmehhkpaaDoorCards
import Derived.SevenTiedAt
set_option linter.unusedVariables false
set_option linter.unusedSimpArgs false
namespace Go.Proofs.YtcmfkmhmehhkpaaDoor
open Go Go.Ai Go.Proofs Go.ChangeShapes Go.WideShapes Go.ChangeAt Go.RowKit Go.Lib
open Go.ChangeMaps (open_string shut_string)

theorem regionKeeps_witness (os : Os) {H : Type} (enc : TypeId × Value → H) :
    (OpenSpec.ofChange Rows.regionKeepsSpec).preRow enc Tryd.prog Tryd.f6 Rows.regionKeepsRow.domain false Rows.regionKeepsRow.laid ((laidWorld os).forCall (fun _ _ => 0) ⟨#[], #[.agg #[.slice none 0 0, .bool false, .slice none 0 0], .string ⟨#[]⟩], []⟩).memory #[.agg #[.slice none 0 0, .bool false, .slice none 0 0], .string ⟨#[]⟩] := by
  have hw : (DataW.whole enc Tryd.prog ((laidWorld os).forCall (fun _ _ => 0) ⟨#[], #[.agg #[.slice none 0 0, .bool false, .slice none 0 0], .string ⟨#[]⟩], []⟩).memory Tryd.f6.params.toList (OpenSpec.ofChange Rows.regionKeepsSpec).vars false (#[.agg #[.slice none 0 0, .bool false, .slice none 0 0], .string ⟨#[]⟩] : Array Value).toList 8).map (fun x => (x.1, x.2.1)) =
      some ([.agg [.agg [.nil, .lit (.bool false)], .nil], .lit (.string [])], []) := by kernel_rfl
  obtain ⟨⟨x1, x2, x3⟩, hx, hx1⟩ := Option.map_eq_some_iff.1 hw
  simp only [Prod.mk.injEq] at hx1
  obtain ⟨rfl, rfl⟩ := hx1
  exact OpenSpec.preRow_of_cond 8 hx (by kernel_rfl) (fun k hk => by cases hk) (by kernel_rfl) (laid_met os _)

set_option maxRecDepth 100000 in
set_option maxHeartbeats 2000000 in
theorem regionKeeps_lifted (os : Os) (started : os.Started) (H : Type) (enc : TypeId × Value → H) (F : Stop.Interp) :
    ReturnsInHanded {} Tryd.checked os 6 .any ((OpenSpec.ofChange Rows.regionKeepsSpec).preRow enc Tryd.prog Tryd.f6 Rows.regionKeepsRow.domain false Rows.regionKeepsRow.laid) (((OpenSpec.ofChange Rows.regionKeepsSpec).at F).post enc Tryd.prog Tryd.f6 false true false false) := by
  refine returnsInHanded_of_row (C := Tryd.checked) (s := OpenSpec.ofChange Rows.regionKeepsSpec) own started (by kernel_rfl) Tryd.func6
    (witness_row_atRef (enc := enc) (C := Tryd.checked) false (laidWorld os) #[.agg #[.slice none 0 0, .bool false, .slice none 0 0], .string ⟨#[]⟩] rfl (by kernel_rfl) (by kernel_rfl) (by kernel_rfl) (regionKeeps_witness os enc)) ?_
  intro W base args ds gs before hval0 hW hcnd0 hcond0 hsz0 hL hsh _
  have hval : ∀ (j : Nat) t v, Tryd.f6.params[j]? = some t → args[j]? = some v → Value.okWide Tryd.prog W .any base t v := hval0
  have hsz1 : (DataW.weightsEach Tryd.prog (Tryd.f6.params.toList ++ (OpenSpec.ofChange Rows.regionKeepsSpec).bare.plain.varTypes Tryd.prog) (ds ++ gs)).all (fun x => decide (x ≤ reachBytes)) = true := hsz0
  rw [show Tryd.f6.params.toList ++ (OpenSpec.ofChange Rows.regionKeepsSpec).bare.plain.varTypes Tryd.prog = [29, 9] from by kernel_rfl] at hsz1
  have hW' := hW
  obtain ⟨p, q, hA0, hV, rfl, hfz, hnd⟩ := hW
  have hA : DataW.TrodAll enc Tryd.prog W 0 (fun _ => true) true Tryd.f6.params.toList args.toList ds p := hA0
  rw [Tryd.params6] at hA hval
  obtain ⟨v0, vs0, d0, ds0, p0, q0, hargs0, rfl, rfl, h0, r0⟩ := trodAll_cons hA
  obtain ⟨v1, vs1, d1, ds1, p1, q1, hargs1, rfl, rfl, h1, r1⟩ := trodAll_cons r0
  obtain ⟨rfl, rfl, rfl⟩ := trodAll_nil r1
  obtain rfl : args = #[v0, v1] := by cases args; simp_all
  obtain ⟨rfl, rfl⟩ := trodVars_none hV
  have hszR : ∀ m ∈ DataW.weightsEach Tryd.prog [29, 9] [d0, d1], m ≤ 140737488351232 := fun m hm => of_decide_eq_true (List.all_eq_true.1 hsz1 m (by simpa using hm))
  obtain ⟨c0, rfl, hc0⟩ := okWide_struct Tryd.underlying29 (hval 0 29 v0 rfl rfl)
  have k0 := h0
  have lt0 : ∀ x ∈ p0, x.block < W.heap.size := by obtain ⟨m, hm⟩ := k0; exact DataW.trod_lt m _ _ _ hm
  obtain ⟨x0, hx0, hb0⟩ : ∃ x : ((.prod (.prod (.list .str) .bool) (.list (.prod (.list .str) .bool))) : Ty).den, Opens W (.prod (.prod (.list .str) .bool) (.list (.prod (.list .str) .bool))) c0.toList x ∧ Ty.wOK 140737488351232 (.prod (.prod (.list .str) .bool) (.list (.prod (.list .str) .bool))) x := by
    obtain ⟨fuel, hf⟩ := h0
    obtain ⟨x, g1, g2⟩ := trod_opensW 8 29 (.prod (.prod (.list .str) .bool) (.list (.prod (.list .str) .bool))) (by kernel_rfl) _ _ _ _ _ _ _ hf
    exact ⟨x, g1, g2 _ fun m hm => hszR m (by simp [DataW.weightsEach, hm])⟩
  obtain ⟨s1, rfl⟩ := okWide_string Tryd.underlying9 (hval 1 9 v1 rfl rfl)
  have k1 := h1
  have lt1 : ∀ x ∈ p1, x.block < W.heap.size := by obtain ⟨m, hm⟩ := k1; exact DataW.trod_lt m _ _ _ hm
  obtain ⟨x1, hx1, hb1⟩ : ∃ x : (.str : Ty).den, Opens W .str [Value.string s1] x ∧ Ty.wOK 140737488351232 .str x := by
    obtain ⟨fuel, hf⟩ := h1
    obtain ⟨x, g1, g2⟩ := trod_opensW 8 9 .str (by kernel_rfl) _ _ _ _ _ _ _ hf
    exact ⟨x, g1, g2 _ fun m hm => hszR m (by simp [DataW.weightsEach, hm])⟩
  have hpure := regionKeeps_pure x0 x1 hb0 hb1
  refine (law_calls law05_RegionKeeps_ok hpure (maxLen_cell hsh) (fun w' hb => tG_stays (maxLen_cell hsh) hb) (relL_two (opens_agg hx0) (opens_one hx1 rfl)) (callFunc_enter Tryd.func6 (by kernel_rfl) (by kernel_rfl))).mono fun e W' ⟨he, bel⟩ => ?_
  subst he
  have back0 := Below.trod laidOut (by kernel_rfl) (of_decide_eq_true (by kernel_rfl)) k0 bel lt0
  have back1 := Below.trod laidOut (by kernel_rfl) (of_decide_eq_true (by kernel_rfl)) k1 bel lt1
  refine ⟨_, rfl, _, _, _, [], p0 ++ (p1 ++ []), [], hW', ?_, ?_, ?_, bel.frame _, fun h => by cases h⟩
  · exact trodAll_mk1 (shut_bool Tryd.underlying4 _)
  · exact trodAll_cons_mk back0 (trodAll_cons_mk back1 trodAll_mk0)
  · rfl

theorem regionKeeps_holds : Rows.RegionKeepsSaid :=
  OpenClaim.holds_of_cond 6 Tryd.f6 rfl rfl rfl rfl rfl rfl rfl ⟨rfl, rfl, rfl, rfl, rfl⟩ rfl rfl rfl rfl rfl (by kernel_rfl) Tryd.func6 (by kernel_rfl)
    (of_decide_eq_true (by kernel_rfl)) (by unfold Func.isWrapper; rw [if_neg (of_decide_eq_false (by kernel_rfl))]; exact ⟨rfl, rfl⟩)
    (fun os started H enc _ F0 => by rw [OpenClaim.pre_eq_preRow]; exact regionKeeps_lifted os started H enc F0)

theorem regionKeeps_card : Rows.RegionKeepsCardSaid :=
  Claim7.holds_tied_plain_at .later [] [.data, .pinned] true (true, "c670125cf5138806d9f082110a52e1110a5ec06029bc4981f713dbc56151a580") false
    regionKeeps_holds (fun _ h => by cases h) (by kernel_rfl) (fun _ h => by cases h) regionKeeps_row_tie rfl ⟨rfl, rfl⟩ (by kernel_rfl) rfl
    (fun f fn hf hfn => by
      obtain rfl : f = 6 := Option.some.inj ((show Tryd.prog.funcNamed "stockyard/stockyardlaw05.RegionKeeps" = some 6 by kernel_rfl).symm.trans hf) |>.symm
      obtain rfl : fn = Tryd.f6 := (Option.some.inj (Tryd.func6.symm.trans hfn)).symm
      exact ⟨by kernel_rfl, fun j t ht => by
        rw [Tryd.params6] at ht
        have h3 : t ∈ ([29, 9] : List Nat) := List.mem_of_getElem? (i := j) (by simpa using ht)
        simp only [List.mem_cons, List.not_mem_nil, or_false] at h3
        rcases h3 with rfl | rfl
        · exact (show Tryd.prog.wantsStandIn 29 = false by kernel_rfl)
        · exact (show Tryd.prog.wantsStandIn 9 = false by kernel_rfl)⟩)
    (by kernel_rfl)
end Go.Proofs.YtcmfkmhmehhkpaaDoor
