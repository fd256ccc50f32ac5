/- The statement about RegionPoint, from its plain statement: for all arguments that the statement speaks of. -/
import Derived.Test.YtcmfkmhmehhkpaaDoorRa
import Derived.Test.YtcmfkmhmehhkpaaDoorMc
import Derived.Test.YtcmfkmhmehhkpaaDoorCards
import Derived.SevenTiedAt
set_option linter.unusedVariables false
set_option linter.unusedSimpArgs false
namespace Go.Proofs.YtcmfkmhmehhkpaaDoor
open Go Go.Ai Go.Proofs Go.ChangeShapes Go.WideShapes Go.ChangeAt Go.RowKit Go.Lib
open Go.ChangeMaps (open_string shut_string)

theorem regionPoint_witness (os : Os) {H : Type} (enc : TypeId × Value → H) :
    (Rows.OpenSpec.upto Rows.regionPointSpec).preRow enc Tryd.prog Tryd.f3 Rows.regionPointUptoRow.domain false Rows.regionPointUptoRow.laid ((laidWorld os).forCall (fun _ _ => 0) ⟨#[], #[.string ⟨#[]⟩, .slice none 0 0], []⟩).memory #[.string ⟨#[]⟩, .slice none 0 0] := by
  have hw : (DataW.whole enc Tryd.prog ((laidWorld os).forCall (fun _ _ => 0) ⟨#[], #[.string ⟨#[]⟩, .slice none 0 0], []⟩).memory Tryd.f3.params.toList (Rows.OpenSpec.upto Rows.regionPointSpec).vars false (#[.string ⟨#[]⟩, .slice none 0 0] : Array Value).toList 8).map (fun x => (x.1, x.2.1)) =
      some ([.lit (.string []), .nil], []) := by kernel_rfl
  obtain ⟨⟨x1, x2, x3⟩, hx, hx1⟩ := Option.map_eq_some_iff.1 hw
  simp only [Prod.mk.injEq] at hx1
  obtain ⟨rfl, rfl⟩ := hx1
  exact OpenSpec.preRow_of_cond 8 hx (by kernel_rfl) (fun k hk => by cases hk; kernel_rfl) (by kernel_rfl) (laid_met os _)

set_option maxRecDepth 100000 in
set_option maxHeartbeats 2000000 in
theorem regionPoint_lifted (os : Os) (started : os.Started) (H : Type) (enc : TypeId × Value → H) (F : Stop.Interp) :
    ReturnsInHanded {} Tryd.checked os 3 .any ((Rows.OpenSpec.upto Rows.regionPointSpec).preRow enc Tryd.prog Tryd.f3 Rows.regionPointUptoRow.domain false Rows.regionPointUptoRow.laid) (((Rows.OpenSpec.upto Rows.regionPointSpec).at F).post enc Tryd.prog Tryd.f3 false true false false) := by
  refine returnsInHanded_of_row (C := Tryd.checked) (s := Rows.OpenSpec.upto Rows.regionPointSpec) own started (by kernel_rfl) Tryd.func3
    (witness_row_atRef (enc := enc) (C := Tryd.checked) false (laidWorld os) #[.string ⟨#[]⟩, .slice none 0 0] rfl (by kernel_rfl) (by kernel_rfl) (by kernel_rfl) (regionPoint_witness os enc)) ?_
  intro W base args ds gs before hval0 hW hcnd0 hcond0 hsz0 hL hsh _
  have hval : ∀ (j : Nat) t v, Tryd.f3.params[j]? = some t → args[j]? = some v → Value.okWide Tryd.prog W .any base t v := hval0
  have hcond : Rows.uptoSmall H (ds ++ gs) = true := hcond0 _ rfl
  have hW' := hW
  obtain ⟨p, q, hA0, hV, rfl, hfz, hnd⟩ := hW
  have hA : DataW.TrodAll enc Tryd.prog W 0 (fun _ => true) true Tryd.f3.params.toList args.toList ds p := hA0
  rw [Tryd.params3] at hA hval
  obtain ⟨v0, vs0, d0, ds0, p0, q0, hargs0, rfl, rfl, h0, r0⟩ := trodAll_cons hA
  obtain ⟨v1, vs1, d1, ds1, p1, q1, hargs1, rfl, rfl, h1, r1⟩ := trodAll_cons r0
  obtain ⟨rfl, rfl, rfl⟩ := trodAll_nil r1
  obtain rfl : args = #[v0, v1] := by cases args; simp_all
  obtain ⟨rfl, rfl⟩ := trodVars_none hV
  obtain ⟨s0, rfl⟩ := okWide_string Tryd.underlying9 (hval 0 9 v0 rfl rfl)
  have k0 := h0
  have lt0 : ∀ x ∈ p0, x.block < W.heap.size := by obtain ⟨m, hm⟩ := k0; exact DataW.trod_lt m _ _ _ hm
  obtain ⟨x0, hx0, hb0⟩ : ∃ x : (.str : Ty).den, Opens W .str [Value.string s0] x ∧ Ty.bulk .str x ≤ bulk d0 := by
    obtain ⟨fuel, hf⟩ := h0
    exact trod_opens 8 9 .str (by kernel_rfl) _ _ _ _ _ _ _ hf
  obtain ⟨a1, len1, cap1, rfl⟩ := okWide_slice Tryd.underlying22 (hval 1 22 v1 rfl rfl)
  have k1 := h1
  have lt1 : ∀ x ∈ p1, x.block < W.heap.size := by obtain ⟨m, hm⟩ := k1; exact DataW.trod_lt m _ _ _ hm
  obtain ⟨x1, hx1, hb1⟩ : ∃ x : ((.list (.prod (.list .str) .bool)) : Ty).den, Opens W (.list (.prod (.list .str) .bool)) [Value.slice a1 len1 cap1] x ∧ Ty.bulk (.list (.prod (.list .str) .bool)) x ≤ bulk d1 := by
    obtain ⟨fuel, hf⟩ := h1
    exact trod_opens 8 22 (.list (.prod (.list .str) .bool)) (by kernel_rfl) _ _ _ _ _ _ _ hf
  have hbulk : bulkAll [d0, d1] ≤ 1048576 := by
    have h9 : decide (Rows.uptoBulkAll ([d0, d1] ++ []) ≤ 1048576) = true := hcond
    rw [uptoBulk_eq] at h9
    exact of_decide_eq_true h9
  simp only [bulkAll] at hbulk
  have hsum : Ty.bulk .str x0 + Ty.bulk (.list (.prod (.list .str) .bool)) x1 ≤ 1048576 := by omega
  have hpure := regionPoint_pure x0 x1 hsum
  refine (law_calls law05_RegionPoint_ok hpure (maxLen_cell hsh) (fun w' hb => tG_stays (maxLen_cell hsh) hb) (relL_two (opens_one hx0 rfl) (opens_one hx1 rfl)) (callFunc_enter Tryd.func3 (by kernel_rfl) (by kernel_rfl))).mono fun e W' ⟨he, bel⟩ => ?_
  subst he
  have back0 := Below.trod laidOut (by kernel_rfl) (of_decide_eq_true (by kernel_rfl)) k0 bel lt0
  have back1 := Below.trod laidOut (by kernel_rfl) (of_decide_eq_true (by kernel_rfl)) k1 bel lt1
  refine ⟨_, rfl, _, _, _, [], p0 ++ (p1 ++ []), [], hW', ?_, ?_, ?_, bel.frame _, fun h => by cases h⟩
  · exact trodAll_mk1 (shut_bool Tryd.underlying4 _)
  · exact trodAll_cons_mk back0 (trodAll_cons_mk back1 trodAll_mk0)
  · rfl

theorem regionPoint_holds : Rows.RegionPointUptoSaid :=
  OpenClaim.holds_of_cond 3 Tryd.f3 rfl rfl rfl rfl rfl rfl rfl ⟨rfl, rfl, rfl, rfl, rfl⟩ rfl rfl rfl rfl rfl (by kernel_rfl) Tryd.func3 (by kernel_rfl)
    (of_decide_eq_true (by kernel_rfl)) (by unfold Func.isWrapper; rw [if_neg (of_decide_eq_false (by kernel_rfl))]; exact ⟨rfl, rfl⟩)
    (fun os started H enc _ F0 => by rw [OpenClaim.pre_eq_preRow]; exact regionPoint_lifted os started H enc F0)

theorem regionPoint_card : Rows.RegionPointUptoCardSaid :=
  Claim7.holds_tied_plain_at .later [] [.data, .pinned] true (true, "c670125cf5138806d9f082110a52e1110a5ec06029bc4981f713dbc56151a580") false
    regionPoint_holds (fun _ h => by cases h) (by kernel_rfl) (fun _ h => by cases h) regionPointUpto_row_tie rfl ⟨rfl, rfl⟩ (by kernel_rfl) rfl
    (fun f fn hf hfn => by
      obtain rfl : f = 3 := Option.some.inj ((show Tryd.prog.funcNamed "stockyard/stockyardlaw05.RegionPoint" = some 3 by kernel_rfl).symm.trans hf) |>.symm
      obtain rfl : fn = Tryd.f3 := (Option.some.inj (Tryd.func3.symm.trans hfn)).symm
      exact ⟨by kernel_rfl, fun j t ht => by
        rw [Tryd.params3] at ht
        have h3 : t ∈ ([9, 22] : List Nat) := List.mem_of_getElem? (i := j) (by simpa using ht)
        simp only [List.mem_cons, List.not_mem_nil, or_false] at h3
        rcases h3 with rfl | rfl
        · exact (show Tryd.prog.wantsStandIn 9 = false by kernel_rfl)
        · exact (show Tryd.prog.wantsStandIn 22 = false by kernel_rfl)⟩)
    (by kernel_rfl)
end Go.Proofs.YtcmfkmhmehhkpaaDoor
