/- The functions of the program, printed as plain functions, each with the proof that it is what the program's code computes. -/
import Derived.Test.YtcmfkmhmehhkpaaGa
set_option linter.unusedVariables false
set_option maxRecDepth 100000
namespace Go.Proofs.Ytcmfkmhmehhkpaa
open Go Go.Ai Go.Proofs
/-- stockyard/stockyardref05.Length. -/
noncomputable def ref05_Length (x : Reg) : Option Int :=
  brK (!x.1.2)
  (bindK (ref05_full (x, (x.1.1.length : Int))) fun r1001 =>
  brK r1001
  (some 0)
  (some (x.1.1.length : Int)))
  (bindK (ref05_Length_L7_f ((x.1.1, x.1.2, x.2), (x.1.1.length : Int), x.2, (x.2.length : Int), 0)) fun o1002 =>
  sumK o1002 (fun y1003 =>
  bindK (ref05_Length_L12_f (y1003.1, y1003.2, (IntKind.wrap .i64 ((y1003.1.1.length : Int) + 1)))) fun o1005 =>
  sumK o1005 (fun y1006 =>
  some 0)
  (fun z1007 => sumK z1007 (fun y1008 =>
  some y1008)
  (fun z1009 => emptyK z1009)))
  (fun z1004 => emptyK z1004))

noncomputable def ref05_Length_sp : FSpec := ⟨30, (.agg (.prod (.prod (.list .str) .bool) (.list (.prod (.list .str) .bool)))), (.int .i64), ref05_Length⟩
noncomputable def ref05_Length_lo : List FSpec := [ref05_full_sp]
noncomputable def ref05_Length_L7_e : LEnt := ⟨7, ⟨54, 1, [1, 3, 26, 27, 28], (.pair (.box 0 (.pair (.list .str) (.pair .bool (.list (.prod (.list .str) .bool))))) (.pair (.int .i64) (.pair (.list (.prod (.list .str) .bool)) (.pair (.int .i64) (.int .i64)))))⟩, [((.exit 0), ⟨54, 1, [1, 3], (.pair (.box 0 (.pair (.list .str) (.pair .bool (.list (.prod (.list .str) .bool))))) (.int .i64))⟩)], ref05_Length_L7_f⟩
noncomputable def ref05_Length_L12_e : LEnt := ⟨12, ⟨54, 1, [1, 3, 6], (.pair (.box 0 (.pair (.list .str) (.pair .bool (.list (.prod (.list .str) .bool))))) (.pair (.int .i64) (.int .i64)))⟩, [((.exit 2), ⟨54, 0, [], .nil⟩), (.ret, ⟨54, 0, [2], (.int .i64)⟩)], ref05_Length_L12_f⟩
noncomputable def ref05_Length_ll : List LEnt := [ref05_Length_L7_e, ref05_Length_L12_e]
theorem ref05_Length_ook : OOK Try.prog tG (otab ref05_Length_lo) := ook_of (l := ref05_Length_lo) (by
    intro sp hsp
    simp only [ref05_Length_lo, List.mem_cons, List.not_mem_nil, or_false] at hsp
    rcases hsp with rfl
    · exact ref05_full_ok)
noncomputable def ref05_Length_c : Code := (Try.f30.body).getD .skip
theorem ref05_Length_L12_B_eq (n : Nat) (st : ref05_Length_L12_e.head.shape.den) : ref05_Length_L12 (n + 1) st = aexecK tT (otabK ref05_Length_lo) noX (itabK tT []) (ltabK ref05_Length_ll) (((loops ref05_Length_c)[1]?).getD .skip) (ref05_Length_L12_e.head.enc st) (lres ref05_Length_L12_e.head ref05_Length_L12_e.exits (ref05_Length_L12 n)) := by kernel_rfl
theorem ref05_Length_L12_lok : LOK Try.prog tG (ltab ref05_Length_ll) (((loops ref05_Length_c)[1]?).getD .skip) :=
  lok_of tT_ok ref05_Length_ook (iok_of tT_ok tP_mixed (l := []) (fun _ h => nomatch h)) tP_mixed (loopsOK_of (by
    have e : loops (((loops ref05_Length_c)[1]?).getD .skip) = [] := by kernel_rfl
    rw [e]
    intro a ha
    cases ha)) ref05_Length_L12_e (F := ref05_Length_L12) (fun st => List.length st.1.1 + List.length st.1.2.2 + Int.natAbs st.2.1 + Int.natAbs st.2.2 + 1000) (fun s => by kernel_rfl) (fun st => by kernel_rfl) (fun st => by kernel_rfl) (fun n st => (ref05_Length_L12_B_eq n st).trans (loopF_eq tT ref05_Length_lo noX [] ref05_Length_ll (((loops ref05_Length_c)[1]?).getD .skip) ref05_Length_L12_e.head ref05_Length_L12_e.exits (ref05_Length_L12 n) st).symm)
theorem ref05_Length_L7_B_eq (n : Nat) (st : ref05_Length_L7_e.head.shape.den) : ref05_Length_L7 (n + 1) st = aexecK tT (otabK ref05_Length_lo) noX (itabK tT []) (ltabK ref05_Length_ll) (((loops ref05_Length_c)[0]?).getD .skip) (ref05_Length_L7_e.head.enc st) (lres ref05_Length_L7_e.head ref05_Length_L7_e.exits (ref05_Length_L7 n)) := by kernel_rfl
theorem ref05_Length_L7_lok : LOK Try.prog tG (ltab ref05_Length_ll) (((loops ref05_Length_c)[0]?).getD .skip) :=
  lok_of tT_ok ref05_Length_ook (iok_of tT_ok tP_mixed (l := []) (fun _ h => nomatch h)) tP_mixed (loopsOK_of (by
    have e : loops (((loops ref05_Length_c)[0]?).getD .skip) = [] := by kernel_rfl
    rw [e]
    intro a ha
    cases ha)) ref05_Length_L7_e (F := ref05_Length_L7) (fun st => List.length st.1.1 + List.length st.1.2.2 + Int.natAbs st.2.1 + List.length st.2.2.1 + Int.natAbs st.2.2.2.1 + Int.natAbs st.2.2.2.2 + 1000) (fun s => by kernel_rfl) (fun st => by kernel_rfl) (fun st => by kernel_rfl) (fun n st => (ref05_Length_L7_B_eq n st).trans (loopF_eq tT ref05_Length_lo noX [] ref05_Length_ll (((loops ref05_Length_c)[0]?).getD .skip) ref05_Length_L7_e.head ref05_Length_L7_e.exits (ref05_Length_L7 n) st).symm)
theorem ref05_Length_h (x : ref05_Length_sp.arg.den) : ref05_Length_sp.f x = bodyF tT (otab ref05_Length_lo) noX (itab tT []) (ltab ref05_Length_ll) Try.f30 ref05_Length_sp.arg ref05_Length_sp.res x := by
  rw [bodyF_eq]
  kernel_rfl
theorem ref05_Length_ok : SpecOK Try.prog tG ref05_Length_sp :=
  spec_of_body (c := ref05_Length_c) tT_ok ref05_Length_ook (iok_of tT_ok tP_mixed (l := []) (fun _ h => nomatch h)) tP_mixed (fn := Try.f30) Try.func30 (by kernel_rfl) (by kernel_rfl) (loopsOK_of (by
    have e : loops ref05_Length_c = [((loops ref05_Length_c)[0]?).getD .skip, ((loops ref05_Length_c)[1]?).getD .skip] := by kernel_rfl
    rw [e]
    intro a ha
    simp only [List.mem_cons, List.not_mem_nil, or_false] at ha
    rcases ha with rfl | rfl
    · exact ref05_Length_L7_lok
    · exact ref05_Length_L12_lok)) (fun x => enc_closed x (by kernel_rfl)) (by kernel_rfl) (by kernel_rfl) ref05_Length_h


/-- stockyard/stockyardref05.Meet. -/
noncomputable def ref05_Meet (x : Reg × Reg) : Option (Reg × Bool × Int) :=
  bindK (ref05_Check x.1) fun r1001 =>
  brK (decide ((r1001 : Int) ≠ 0))
  (some (((([] : List ByteArray), false), ([] : List Pat)), false, r1001))
  (bindK (ref05_Check x.2) fun r1002 =>
  brK (decide ((r1002 : Int) ≠ 0))
  (some (((([] : List ByteArray), false), ([] : List Pat)), false, r1002))
  (bindK (ref03_Meet (x.1.1, x.2.1)) fun r1003 =>
  brK (!r1003.2)
  (some (((([] : List ByteArray), false), ([] : List Pat)), false, 0))
  (brK (fits 0 (List.length x.1.2) 32)
  (brK (fits (List.length x.1.2) (List.length x.2.2) 32)
  (bindK (ref05_Simplify (r1003.1, (x.1.2 ++ x.2.2))) fun r1004 =>
  brK (decide (((r1004.2.length : Int) : Int) > 64))
  (some (((([] : List ByteArray), false), ([] : List Pat)), false, 52))
  (bindK (ref05_Length r1004) fun r1005 =>
  brK (decide ((r1005 : Int) = 0))
  (some (((([] : List ByteArray), false), ([] : List Pat)), false, 0))
  (some (r1004, true, 0))))
  (none))
  (none))))

noncomputable def ref05_Meet_sp : FSpec := ⟨19, (.pair (.agg (.prod (.prod (.list .str) .bool) (.list (.prod (.list .str) .bool)))) (.agg (.prod (.prod (.list .str) .bool) (.list (.prod (.list .str) .bool))))), (.tup (.pair (.agg (.prod (.prod (.list .str) .bool) (.list (.prod (.list .str) .bool)))) (.pair .bool (.int .i64)))), ref05_Meet⟩
noncomputable def ref05_Meet_lo : List FSpec := [ref05_Check_sp, ref03_Meet_sp, ref05_Simplify_sp, ref05_Length_sp]
noncomputable def ref05_Meet_ll : List LEnt := []
theorem ref05_Meet_ook : OOK Try.prog tG (otab ref05_Meet_lo) := ook_of (l := ref05_Meet_lo) (by
    intro sp hsp
    simp only [ref05_Meet_lo, List.mem_cons, List.not_mem_nil, or_false] at hsp
    rcases hsp with rfl | rfl | rfl | rfl
    · exact ref05_Check_ok
    · exact ref03_Meet_ok
    · exact ref05_Simplify_ok
    · exact ref05_Length_ok)
noncomputable def ref05_Meet_c : Code := (Try.f19.body).getD .skip
theorem ref05_Meet_h (x : ref05_Meet_sp.arg.den) : ref05_Meet_sp.f x = bodyF tT (otab ref05_Meet_lo) noX (itab tT []) (ltab ref05_Meet_ll) Try.f19 ref05_Meet_sp.arg ref05_Meet_sp.res x := by
  rw [bodyF_eq]
  kernel_rfl
theorem ref05_Meet_ok : SpecOK Try.prog tG ref05_Meet_sp :=
  spec_of_body (c := ref05_Meet_c) tT_ok ref05_Meet_ook (iok_of tT_ok tP_mixed (l := []) (fun _ h => nomatch h)) tP_mixed (fn := Try.f19) Try.func19 (by kernel_rfl) (by kernel_rfl) (loopsOK_of (by
    have e : loops ref05_Meet_c = [] := by kernel_rfl
    rw [e]
    intro a ha
    cases ha)) (fun x => enc_closed x (by kernel_rfl)) (by kernel_rfl) (by kernel_rfl) ref05_Meet_h


/-- stockyard/stockyardlaw05.RegionMeets. -/
noncomputable def law05_RegionMeets (x : Reg × Reg) : Option Bool :=
  bindK (law05_small x.1) fun r1001 =>
  brK (!r1001)
  (bindK (law05_awake ()) fun r1002 =>
  some r1002)
  (bindK (law05_small x.2) fun r1003 =>
  brK (!r1003)
  (bindK (law05_awake ()) fun r1004 =>
  some r1004)
  (bindK (region_Meet x) fun r1005 =>
  bindK (ref05_Meet x) fun r1006 =>
  brK (r1005.2.1 == r1006.2.1)
  (brK (decide ((r1005.2.2 : Int) = r1006.2.2))
  (bindK (ref05_Same (r1005.1, r1006.1)) fun r1007 =>
  brK r1007
  (bindK (law05_awake ()) fun r1008 =>
  some r1008)
  (some false))
  (some false))
  (some false)))

noncomputable def law05_RegionMeets_sp : FSpec := ⟨6, (.pair (.agg (.prod (.prod (.list .str) .bool) (.list (.prod (.list .str) .bool)))) (.agg (.prod (.prod (.list .str) .bool) (.list (.prod (.list .str) .bool))))), .bool, law05_RegionMeets⟩
noncomputable def law05_RegionMeets_lo : List FSpec := [law05_small_sp, law05_awake_sp, region_Meet_sp, ref05_Meet_sp, ref05_Same_sp]
noncomputable def law05_RegionMeets_ll : List LEnt := []
theorem law05_RegionMeets_ook : OOK Try.prog tG (otab law05_RegionMeets_lo) := ook_of (l := law05_RegionMeets_lo) (by
    intro sp hsp
    simp only [law05_RegionMeets_lo, List.mem_cons, List.not_mem_nil, or_false] at hsp
    rcases hsp with rfl | rfl | rfl | rfl | rfl
    · exact law05_small_ok
    · exact law05_awake_ok
    · exact region_Meet_ok
    · exact ref05_Meet_ok
    · exact ref05_Same_ok)
noncomputable def law05_RegionMeets_c : Code := (Try.f6.body).getD .skip
theorem law05_RegionMeets_h (x : law05_RegionMeets_sp.arg.den) : law05_RegionMeets_sp.f x = bodyF tT (otab law05_RegionMeets_lo) noX (itab tT []) (ltab law05_RegionMeets_ll) Try.f6 law05_RegionMeets_sp.arg law05_RegionMeets_sp.res x := by
  rw [bodyF_eq]
  kernel_rfl
theorem law05_RegionMeets_ok : SpecOK Try.prog tG law05_RegionMeets_sp :=
  spec_of_body (c := law05_RegionMeets_c) tT_ok law05_RegionMeets_ook (iok_of tT_ok tP_mixed (l := []) (fun _ h => nomatch h)) tP_mixed (fn := Try.f6) Try.func6 (by kernel_rfl) (by kernel_rfl) (loopsOK_of (by
    have e : loops law05_RegionMeets_c = [] := by kernel_rfl
    rw [e]
    intro a ha
    cases ha)) (fun x => enc_closed x (by kernel_rfl)) (by kernel_rfl) (by kernel_rfl) law05_RegionMeets_h


/-- slices.Clone[[]stockyard/api.Pattern,stockyard/api.Pattern]. -/
noncomputable def slices_Clone (x : List Pat) : Option (List Pat) :=
  cloneF x
noncomputable def slices_Clone_sp : FSpec := ⟨44, (.list (.prod (.list .str) .bool)), (.own 0 24 (.prod (.list .str) .bool)), slices_Clone⟩
theorem slices_Clone_ok : SpecOK Try.prog tG slices_Clone_sp := (clone_fresh _).spec

/-- A round of the loop 13 of stockyard/region.Minus. -/
noncomputable def region_Minus_L13_B (rec : (((List ByteArray) × Bool × List Pat) × (List Reg) × (List Reg) × (List Pat) × (List Pat) × Int × Int) → Option ((List Reg) ⊕ (((List Reg) × Int) ⊕ Empty))) (st : ((List ByteArray) × Bool × List Pat) × (List Reg) × (List Reg) × (List Pat) × (List Pat) × Int × Int) : Option ((List Reg) ⊕ (((List Reg) × Int) ⊕ Empty)) :=
  brK (decide ((st.2.2.2.2.2.2 : Int) < st.2.2.2.2.2.1))
  (bindK (listAt st.2.2.2.2.1 st.2.2.2.2.2.2) fun e7 =>
  bindK (pattern_Meet ((st.1.1, st.1.2.1), e7)) fun r8 =>
  brK r8.2
  (brK (decide (0 ≤ (0 : Int) ∧ (0 : Int) ≤ st.2.2.2.2.2.2 ∧ st.2.2.2.2.2.2 ≤ (st.2.2.2.1.length : Int)))
  (bindK (slices_Concat ([st.1.2.2, (List.drop (Int.toNat 0) (List.take (Int.toNat st.2.2.2.2.2.2) st.2.2.2.1))] : List (List Pat))) fun r9 =>
  bindK (holes_Simple (r8.1, r9)) fun r10 =>
  bindK (holes_Length r10) fun r11 =>
  brK r11.2
  (brK (fits (List.length st.2.2.1) (List.length ([r10] : List Reg)) 56)
  (brK (!(decide (((r10.2.length : Int) : Int) ≤ 64)))
  (some (.inr (.inl (([] : List Reg), 52))))
  (rec (st.1, (st.2.2.1 ++ ([r10] : List Reg)), (st.2.2.1 ++ ([r10] : List Reg)), st.2.2.2.1, st.2.2.2.2.1, st.2.2.2.2.2.1, (IntKind.wrap .i64 (st.2.2.2.2.2.2 + 1)))))
  (none))
  (brK (!(decide (((r10.2.length : Int) : Int) ≤ 64)))
  (some (.inr (.inl (([] : List Reg), 52))))
  (rec (st.1, st.2.1, st.2.2.1, st.2.2.2.1, st.2.2.2.2.1, st.2.2.2.2.2.1, (IntKind.wrap .i64 (st.2.2.2.2.2.2 + 1))))))
  (none))
  (rec (st.1, st.2.1, st.2.2.1, st.2.2.2.1, st.2.2.2.2.1, st.2.2.2.2.2.1, (IntKind.wrap .i64 (st.2.2.2.2.2.2 + 1)))))
  (some (.inl st.2.1))

noncomputable def region_Minus_L13 : Nat → (((List ByteArray) × Bool × List Pat) × (List Reg) × (List Reg) × (List Pat) × (List Pat) × Int × Int) → Option ((List Reg) ⊕ (((List Reg) × Int) ⊕ Empty))
  | 0, _ => none
  | n + 1, st => region_Minus_L13_B (region_Minus_L13 n) st

noncomputable def region_Minus_L13_f (st : ((List ByteArray) × Bool × List Pat) × (List Reg) × (List Reg) × (List Pat) × (List Pat) × Int × Int) : Option ((List Reg) ⊕ (((List Reg) × Int) ⊕ Empty)) := region_Minus_L13 (List.length st.1.1 + List.length st.1.2.2 + List.length st.2.1 + List.length st.2.2.1 + List.length st.2.2.2.1 + List.length st.2.2.2.2.1 + Int.natAbs st.2.2.2.2.2.1 + Int.natAbs st.2.2.2.2.2.2 + 1000) st

/-- stockyard/region.Minus. -/
noncomputable def region_Minus (x : Reg × Reg) : Option ((List Reg) × Int) :=
  bindK (region_Check x.1) fun r1001 =>
  brK (decide ((r1001 : Int) ≠ 0))
  (some (([] : List Reg), r1001))
  (bindK (region_Check x.2) fun r1002 =>
  brK (decide ((r1002 : Int) ≠ 0))
  (some (([] : List Reg), r1002))
  (bindK (holes_Simple x.2) fun r1003 =>
  bindK (slices_Clone x.1.2) fun r1004 =>
  brK (fits (List.length r1004) (List.length ([x.2.1] : List Pat)) 32)
  (bindK (holes_Simple (x.1.1, (r1004 ++ ([x.2.1] : List Pat)))) fun r1005 =>
  bindK (holes_Length r1005) fun r1006 =>
  brK r1006.2
  (brK (fits 0 (List.length ([r1005] : List Reg)) 56)
  (brK (!(decide (((r1005.2.length : Int) : Int) ≤ 64)))
  (some (([] : List Reg), 52))
  (bindK (region_Minus_L13_f ((x.1.1.1, x.1.1.2, x.1.2), ([r1005] : List Reg), ([r1005] : List Reg), r1003.2, r1003.2, (r1003.2.length : Int), 0)) fun o1007 =>
  sumK o1007 (fun y1008 =>
  some (y1008, 0))
  (fun z1009 => sumK z1009 (fun y1010 =>
  some y1010)
  (fun z1011 => emptyK z1011))))
  (none))
  (brK (!(decide (((r1005.2.length : Int) : Int) ≤ 64)))
  (some (([] : List Reg), 52))
  (bindK (region_Minus_L13_f ((x.1.1.1, x.1.1.2, x.1.2), ([] : List Reg), ([] : List Reg), r1003.2, r1003.2, (r1003.2.length : Int), 0)) fun o1012 =>
  sumK o1012 (fun y1013 =>
  some (y1013, 0))
  (fun z1014 => sumK z1014 (fun y1015 =>
  some y1015)
  (fun z1016 => emptyK z1016)))))
  (none)))

noncomputable def region_Minus_sp : FSpec := ⟨20, (.pair (.agg (.prod (.prod (.list .str) .bool) (.list (.prod (.list .str) .bool)))) (.agg (.prod (.prod (.list .str) .bool) (.list (.prod (.list .str) .bool))))), (.tup (.pair (.list (.prod (.prod (.list .str) .bool) (.list (.prod (.list .str) .bool)))) (.int .i64))), region_Minus⟩
noncomputable def region_Minus_lo : List FSpec := [region_Check_sp, holes_Simple_sp, slices_Clone_sp, pattern_Meet_sp, slices_Concat_sp]
noncomputable def region_Minus_L13_e : LEnt := ⟨13, ⟨76, 3, [2, 8, 9, 10, 45, 46, 47], (.pair (.box 0 (.pair (.list .str) (.pair .bool (.list (.prod (.list .str) .bool))))) (.pair (.box 1 (.own 2 27 (.prod (.prod (.list .str) .bool) (.list (.prod (.list .str) .bool))))) (.pair (.fn 43 (.box 1 (.own 2 27 (.prod (.prod (.list .str) .bool) (.list (.prod (.list .str) .bool)))))) (.pair (.list (.prod (.list .str) .bool)) (.pair (.list (.prod (.list .str) .bool)) (.pair (.int .i64) (.int .i64)))))))⟩, [((.exit 0), ⟨76, 2, [8], (.box 0 (.own 1 27 (.prod (.prod (.list .str) .bool) (.list (.prod (.list .str) .bool)))))⟩), (.ret, ⟨76, 1, [4, 5], (.pair (.own 0 27 (.prod (.prod (.list .str) .bool) (.list (.prod (.list .str) .bool)))) (.int .i64))⟩)], region_Minus_L13_f⟩
noncomputable def region_Minus_ll : List LEnt := [region_Minus_L13_e]
theorem region_Minus_ook : OOK Try.prog tG (otab region_Minus_lo) := ook_of (l := region_Minus_lo) (by
    intro sp hsp
    simp only [region_Minus_lo, List.mem_cons, List.not_mem_nil, or_false] at hsp
    rcases hsp with rfl | rfl | rfl | rfl | rfl
    · exact region_Check_ok
    · exact holes_Simple_ok
    · exact slices_Clone_ok
    · exact pattern_Meet_ok
    · exact slices_Concat_ok)
def region_Minus_X : Oper → Bool := marks [43, 71] []
noncomputable def region_Minus_il43 : List FSpec := [holes_Length_sp]
noncomputable def region_Minus_il : List IEnt := [.inl 43 Try.f43 region_Minus_il43]
theorem region_Minus_iok : IOK Try.prog tG (itab tT region_Minus_il) := iok_of tT_ok tP_mixed (by
  intro e he
  simp only [region_Minus_il, List.mem_cons, List.not_mem_nil, or_false] at he
  rcases he with rfl
  · refine ⟨Try.func43, by kernel_rfl, ⟨(Try.f43.body).getD .skip, by kernel_rfl⟩, ?_⟩
    intro sp hsp
    simp only [region_Minus_il43, List.mem_cons, List.not_mem_nil, or_false] at hsp
    rcases hsp with rfl
    · exact holes_Length_ok)
noncomputable def region_Minus_c : Code := (Try.f20.body).getD .skip
theorem region_Minus_L13_B_eq (n : Nat) (st : region_Minus_L13_e.head.shape.den) : region_Minus_L13 (n + 1) st = aexecK tT (otabK region_Minus_lo) region_Minus_X (itabK tT region_Minus_il) (ltabK region_Minus_ll) (((loops region_Minus_c)[0]?).getD .skip) (region_Minus_L13_e.head.enc st) (lres region_Minus_L13_e.head region_Minus_L13_e.exits (region_Minus_L13 n)) := by kernel_rfl
theorem region_Minus_L13_lok : LOK Try.prog tG (ltab region_Minus_ll) (((loops region_Minus_c)[0]?).getD .skip) :=
  lok_of tT_ok region_Minus_ook region_Minus_iok tP_mixed (loopsOK_of (by
    have e : loops (((loops region_Minus_c)[0]?).getD .skip) = [] := by kernel_rfl
    rw [e]
    intro a ha
    cases ha)) region_Minus_L13_e (F := region_Minus_L13) (fun st => List.length st.1.1 + List.length st.1.2.2 + List.length st.2.1 + List.length st.2.2.1 + List.length st.2.2.2.1 + List.length st.2.2.2.2.1 + Int.natAbs st.2.2.2.2.2.1 + Int.natAbs st.2.2.2.2.2.2 + 1000) (fun s => by kernel_rfl) (fun st => by kernel_rfl) (fun st => by kernel_rfl) (fun n st => (region_Minus_L13_B_eq n st).trans (loopF_eq tT region_Minus_lo region_Minus_X region_Minus_il region_Minus_ll (((loops region_Minus_c)[0]?).getD .skip) region_Minus_L13_e.head region_Minus_L13_e.exits (region_Minus_L13 n) st).symm)
theorem region_Minus_h (x : region_Minus_sp.arg.den) : region_Minus_sp.f x = bodyF tT (otab region_Minus_lo) region_Minus_X (itab tT region_Minus_il) (ltab region_Minus_ll) Try.f20 region_Minus_sp.arg region_Minus_sp.res x := by
  rw [bodyF_eq]
  kernel_rfl
theorem region_Minus_ok : SpecOK Try.prog tG region_Minus_sp :=
  spec_of_body (c := region_Minus_c) tT_ok region_Minus_ook region_Minus_iok tP_mixed (fn := Try.f20) Try.func20 (by kernel_rfl) (by kernel_rfl) (loopsOK_of (by
    have e : loops region_Minus_c = [((loops region_Minus_c)[0]?).getD .skip] := by kernel_rfl
    rw [e]
    intro a ha
    simp only [List.mem_cons, List.not_mem_nil, or_false] at ha
    rcases ha with rfl
    · exact region_Minus_L13_lok)) (fun x => enc_closed x (by kernel_rfl)) (by kernel_rfl) (by kernel_rfl) region_Minus_h

/-- A round of the loop 10 of stockyard/stockyardref05.Minus. -/
noncomputable def ref05_Minus_L10_B (rec : (((List ByteArray) × Bool × List Pat) × ((List ByteArray) × Bool × List Pat) × (List Reg) × (List Pat) × Int × Int) → Option ((List Reg) ⊕ Empty)) (st : ((List ByteArray) × Bool × List Pat) × ((List ByteArray) × Bool × List Pat) × (List Reg) × (List Pat) × Int × Int) : Option ((List Reg) ⊕ Empty) :=
  brK (decide ((st.2.2.2.2.2 : Int) < st.2.2.2.2.1))
  (bindK (listAt st.2.2.2.1 st.2.2.2.2.2) fun e5 =>
  bindK (ref03_Meet ((st.1.1, st.1.2.1), e5)) fun r6 =>
  brK r6.2
  (brK (fits 0 (List.length st.1.2.2) 32)
  (brK (decide (0 ≤ (0 : Int) ∧ (0 : Int) ≤ st.2.2.2.2.2 ∧ st.2.2.2.2.2 ≤ (st.2.1.2.2.length : Int)))
  (brK (fits (List.length st.1.2.2) (List.length (List.drop (Int.toNat 0) (List.take (Int.toNat st.2.2.2.2.2) st.2.1.2.2))) 32)
  (bindK (ref05_Simplify (r6.1, (st.1.2.2 ++ (List.drop (Int.toNat 0) (List.take (Int.toNat st.2.2.2.2.2) st.2.1.2.2))))) fun r7 =>
  brK (fits (List.length st.2.2.1) (List.length ([r7] : List Reg)) 56)
  (rec (st.1, st.2.1, (st.2.2.1 ++ ([r7] : List Reg)), st.2.2.2.1, st.2.2.2.2.1, (IntKind.wrap .i64 (st.2.2.2.2.2 + 1))))
  (none))
  (none))
  (none))
  (none))
  (rec (st.1, st.2.1, st.2.2.1, st.2.2.2.1, st.2.2.2.2.1, (IntKind.wrap .i64 (st.2.2.2.2.2 + 1)))))
  (some (.inl st.2.2.1))

noncomputable def ref05_Minus_L10 : Nat → (((List ByteArray) × Bool × List Pat) × ((List ByteArray) × Bool × List Pat) × (List Reg) × (List Pat) × Int × Int) → Option ((List Reg) ⊕ Empty)
  | 0, _ => none
  | n + 1, st => ref05_Minus_L10_B (ref05_Minus_L10 n) st

noncomputable def ref05_Minus_L10_f (st : ((List ByteArray) × Bool × List Pat) × ((List ByteArray) × Bool × List Pat) × (List Reg) × (List Pat) × Int × Int) : Option ((List Reg) ⊕ Empty) := ref05_Minus_L10 (List.length st.1.1 + List.length st.1.2.2 + List.length st.2.1.1 + List.length st.2.1.2.2 + List.length st.2.2.1 + List.length st.2.2.2.1 + Int.natAbs st.2.2.2.2.1 + Int.natAbs st.2.2.2.2.2 + 1000) st

/-- A round of the loop 18 of stockyard/stockyardref05.Minus. -/
noncomputable def ref05_Minus_L18_B (rec : ((List Reg) × (List Reg) × Int × Int) → Option ((List Reg) ⊕ (((List Reg) × Int) ⊕ Empty))) (st : (List Reg) × (List Reg) × Int × Int) : Option ((List Reg) ⊕ (((List Reg) × Int) ⊕ Empty)) :=
  brK (decide ((st.2.2.2 : Int) < st.2.2.1))
  (bindK (listAt st.2.1 st.2.2.2) fun e11 =>
  brK (decide (((e11.2.length : Int) : Int) > 64))
  (some (.inr (.inl (([] : List Reg), 52))))
  (bindK (ref05_Length e11) fun r12 =>
  brK (decide ((r12 : Int) > 0))
  (brK (fits (List.length st.1) (List.length ([e11] : List Reg)) 56)
  (rec ((st.1 ++ ([e11] : List Reg)), st.2.1, st.2.2.1, (IntKind.wrap .i64 (st.2.2.2 + 1))))
  (none))
  (rec (st.1, st.2.1, st.2.2.1, (IntKind.wrap .i64 (st.2.2.2 + 1))))))
  (some (.inl st.1))

noncomputable def ref05_Minus_L18 : Nat → ((List Reg) × (List Reg) × Int × Int) → Option ((List Reg) ⊕ (((List Reg) × Int) ⊕ Empty))
  | 0, _ => none
  | n + 1, st => ref05_Minus_L18_B (ref05_Minus_L18 n) st

noncomputable def ref05_Minus_L18_f (st : (List Reg) × (List Reg) × Int × Int) : Option ((List Reg) ⊕ (((List Reg) × Int) ⊕ Empty)) := ref05_Minus_L18 (List.length st.1 + List.length st.2.1 + Int.natAbs st.2.2.1 + Int.natAbs st.2.2.2 + 1000) st

/-- stockyard/stockyardref05.Minus. -/
noncomputable def ref05_Minus (x : Reg × Reg) : Option ((List Reg) × Int) :=
  bindK (ref05_Check x.1) fun r1001 =>
  brK (decide ((r1001 : Int) ≠ 0))
  (some (([] : List Reg), r1001))
  (bindK (ref05_Check x.2) fun r1002 =>
  brK (decide ((r1002 : Int) ≠ 0))
  (some (([] : List Reg), r1002))
  (bindK (ref05_Simplify x.2) fun r1003 =>
  brK (fits 0 (List.length x.1.2) 32)
  (brK (fits (List.length x.1.2) (List.length ([r1003.1] : List Pat)) 32)
  (bindK (ref05_Simplify (x.1.1, (x.1.2 ++ ([r1003.1] : List Pat)))) fun r1004 =>
  bindK (ref05_Minus_L10_f ((x.1.1.1, x.1.1.2, x.1.2), (r1003.1.1, r1003.1.2, r1003.2), ([r1004] : List Reg), r1003.2, (r1003.2.length : Int), 0)) fun o1005 =>
  sumK o1005 (fun y1006 =>
  bindK (ref05_Minus_L18_f (([] : List Reg), y1006, (y1006.length : Int), 0)) fun o1008 =>
  sumK o1008 (fun y1009 =>
  some (y1009, 0))
  (fun z1010 => sumK z1010 (fun y1011 =>
  some y1011)
  (fun z1012 => emptyK z1012)))
  (fun z1007 => emptyK z1007))
  (none))
  (none)))

noncomputable def ref05_Minus_sp : FSpec := ⟨21, (.pair (.agg (.prod (.prod (.list .str) .bool) (.list (.prod (.list .str) .bool)))) (.agg (.prod (.prod (.list .str) .bool) (.list (.prod (.list .str) .bool))))), (.tup (.pair (.list (.prod (.prod (.list .str) .bool) (.list (.prod (.list .str) .bool)))) (.int .i64))), ref05_Minus⟩
noncomputable def ref05_Minus_lo : List FSpec := [ref05_Check_sp, ref05_Simplify_sp, ref03_Meet_sp, ref05_Length_sp]
noncomputable def ref05_Minus_L10_e : LEnt := ⟨10, ⟨91, 3, [2, 3, 8, 43, 44, 45], (.pair (.box 0 (.pair (.list .str) (.pair .bool (.list (.prod (.list .str) .bool))))) (.pair (.box 1 (.pair (.list .str) (.pair .bool (.list (.prod (.list .str) .bool))))) (.pair (.own 2 27 (.prod (.prod (.list .str) .bool) (.list (.prod (.list .str) .bool)))) (.pair (.list (.prod (.list .str) .bool)) (.pair (.int .i64) (.int .i64))))))⟩, [((.exit 0), ⟨91, 1, [8], (.own 0 27 (.prod (.prod (.list .str) .bool) (.list (.prod (.list .str) .bool))))⟩)], ref05_Minus_L10_f⟩
noncomputable def ref05_Minus_L18_e : LEnt := ⟨18, ⟨91, 2, [13, 72, 73, 74], (.pair (.own 0 27 (.prod (.prod (.list .str) .bool) (.list (.prod (.list .str) .bool)))) (.pair (.own 1 27 (.prod (.prod (.list .str) .bool) (.list (.prod (.list .str) .bool)))) (.pair (.int .i64) (.int .i64))))⟩, [((.exit 2), ⟨91, 1, [13], (.own 0 27 (.prod (.prod (.list .str) .bool) (.list (.prod (.list .str) .bool))))⟩), (.ret, ⟨91, 1, [4, 5], (.pair (.own 0 27 (.prod (.prod (.list .str) .bool) (.list (.prod (.list .str) .bool)))) (.int .i64))⟩)], ref05_Minus_L18_f⟩
noncomputable def ref05_Minus_ll : List LEnt := [ref05_Minus_L10_e, ref05_Minus_L18_e]
theorem ref05_Minus_ook : OOK Try.prog tG (otab ref05_Minus_lo) := ook_of (l := ref05_Minus_lo) (by
    intro sp hsp
    simp only [ref05_Minus_lo, List.mem_cons, List.not_mem_nil, or_false] at hsp
    rcases hsp with rfl | rfl | rfl | rfl
    · exact ref05_Check_ok
    · exact ref05_Simplify_ok
    · exact ref03_Meet_ok
    · exact ref05_Length_ok)
noncomputable def ref05_Minus_c : Code := (Try.f21.body).getD .skip
theorem ref05_Minus_L18_B_eq (n : Nat) (st : ref05_Minus_L18_e.head.shape.den) : ref05_Minus_L18 (n + 1) st = aexecK tT (otabK ref05_Minus_lo) noX (itabK tT []) (ltabK ref05_Minus_ll) (((loops ref05_Minus_c)[1]?).getD .skip) (ref05_Minus_L18_e.head.enc st) (lres ref05_Minus_L18_e.head ref05_Minus_L18_e.exits (ref05_Minus_L18 n)) := by kernel_rfl
theorem ref05_Minus_L18_lok : LOK Try.prog tG (ltab ref05_Minus_ll) (((loops ref05_Minus_c)[1]?).getD .skip) :=
  lok_of tT_ok ref05_Minus_ook (iok_of tT_ok tP_mixed (l := []) (fun _ h => nomatch h)) tP_mixed (loopsOK_of (by
    have e : loops (((loops ref05_Minus_c)[1]?).getD .skip) = [] := by kernel_rfl
    rw [e]
    intro a ha
    cases ha)) ref05_Minus_L18_e (F := ref05_Minus_L18) (fun st => List.length st.1 + List.length st.2.1 + Int.natAbs st.2.2.1 + Int.natAbs st.2.2.2 + 1000) (fun s => by kernel_rfl) (fun st => by kernel_rfl) (fun st => by kernel_rfl) (fun n st => (ref05_Minus_L18_B_eq n st).trans (loopF_eq tT ref05_Minus_lo noX [] ref05_Minus_ll (((loops ref05_Minus_c)[1]?).getD .skip) ref05_Minus_L18_e.head ref05_Minus_L18_e.exits (ref05_Minus_L18 n) st).symm)
theorem ref05_Minus_L10_B_eq (n : Nat) (st : ref05_Minus_L10_e.head.shape.den) : ref05_Minus_L10 (n + 1) st = aexecK tT (otabK ref05_Minus_lo) noX (itabK tT []) (ltabK ref05_Minus_ll) (((loops ref05_Minus_c)[0]?).getD .skip) (ref05_Minus_L10_e.head.enc st) (lres ref05_Minus_L10_e.head ref05_Minus_L10_e.exits (ref05_Minus_L10 n)) := by kernel_rfl
theorem ref05_Minus_L10_lok : LOK Try.prog tG (ltab ref05_Minus_ll) (((loops ref05_Minus_c)[0]?).getD .skip) :=
  lok_of tT_ok ref05_Minus_ook (iok_of tT_ok tP_mixed (l := []) (fun _ h => nomatch h)) tP_mixed (loopsOK_of (by
    have e : loops (((loops ref05_Minus_c)[0]?).getD .skip) = [] := by kernel_rfl
    rw [e]
    intro a ha
    cases ha)) ref05_Minus_L10_e (F := ref05_Minus_L10) (fun st => List.length st.1.1 + List.length st.1.2.2 + List.length st.2.1.1 + List.length st.2.1.2.2 + List.length st.2.2.1 + List.length st.2.2.2.1 + Int.natAbs st.2.2.2.2.1 + Int.natAbs st.2.2.2.2.2 + 1000) (fun s => by kernel_rfl) (fun st => by kernel_rfl) (fun st => by kernel_rfl) (fun n st => (ref05_Minus_L10_B_eq n st).trans (loopF_eq tT ref05_Minus_lo noX [] ref05_Minus_ll (((loops ref05_Minus_c)[0]?).getD .skip) ref05_Minus_L10_e.head ref05_Minus_L10_e.exits (ref05_Minus_L10 n) st).symm)
theorem ref05_Minus_h (x : ref05_Minus_sp.arg.den) : ref05_Minus_sp.f x = bodyF tT (otab ref05_Minus_lo) noX (itab tT []) (ltab ref05_Minus_ll) Try.f21 ref05_Minus_sp.arg ref05_Minus_sp.res x := by
  rw [bodyF_eq]
  kernel_rfl
theorem ref05_Minus_ok : SpecOK Try.prog tG ref05_Minus_sp :=
  spec_of_body (c := ref05_Minus_c) tT_ok ref05_Minus_ook (iok_of tT_ok tP_mixed (l := []) (fun _ h => nomatch h)) tP_mixed (fn := Try.f21) Try.func21 (by kernel_rfl) (by kernel_rfl) (loopsOK_of (by
    have e : loops ref05_Minus_c = [((loops ref05_Minus_c)[0]?).getD .skip, ((loops ref05_Minus_c)[1]?).getD .skip] := by kernel_rfl
    rw [e]
    intro a ha
    simp only [List.mem_cons, List.not_mem_nil, or_false] at ha
    rcases ha with rfl | rfl
    · exact ref05_Minus_L10_lok
    · exact ref05_Minus_L18_lok)) (fun x => enc_closed x (by kernel_rfl)) (by kernel_rfl) (by kernel_rfl) ref05_Minus_h

/-- A round of the loop 8 of stockyard/stockyardlaw05.RegionMinuses. -/
noncomputable def law05_RegionMinuses_L8_B (rec : ((List Reg) × (List Reg) × Int × Int) → Option (Unit ⊕ (Bool ⊕ Empty))) (st : (List Reg) × (List Reg) × Int × Int) : Option (Unit ⊕ (Bool ⊕ Empty)) :=
  brK (decide ((st.2.2.2 : Int) < st.2.2.1))
  (bindK (listAt st.1 st.2.2.2) fun e7 =>
  bindK (listAt st.2.1 st.2.2.2) fun e8 =>
  bindK (ref05_Same (e7, e8)) fun r9 =>
  brK (!r9)
  (some (.inr (.inl false)))
  (rec (st.1, st.2.1, st.2.2.1, (IntKind.wrap .i64 (st.2.2.2 + 1)))))
  (some (.inl ()))

noncomputable def law05_RegionMinuses_L8 : Nat → ((List Reg) × (List Reg) × Int × Int) → Option (Unit ⊕ (Bool ⊕ Empty))
  | 0, _ => none
  | n + 1, st => law05_RegionMinuses_L8_B (law05_RegionMinuses_L8 n) st

noncomputable def law05_RegionMinuses_L8_f (st : (List Reg) × (List Reg) × Int × Int) : Option (Unit ⊕ (Bool ⊕ Empty)) := law05_RegionMinuses_L8 (List.length st.1 + List.length st.2.1 + Int.natAbs st.2.2.1 + Int.natAbs st.2.2.2 + 1000) st

/-- stockyard/stockyardlaw05.RegionMinuses. -/
noncomputable def law05_RegionMinuses (x : Reg × Reg) : Option Bool :=
  bindK (law05_small x.1) fun r1001 =>
  brK (!r1001)
  (bindK (law05_awake ()) fun r1002 =>
  some r1002)
  (bindK (law05_small x.2) fun r1003 =>
  brK (!r1003)
  (bindK (law05_awake ()) fun r1004 =>
  some r1004)
  (bindK (region_Minus x) fun r1005 =>
  bindK (ref05_Minus x) fun r1006 =>
  brK (decide ((r1005.2 : Int) ≠ r1006.2))
  (some false)
  (brK (decide (((r1005.1.length : Int) : Int) ≠ (r1006.1.length : Int)))
  (some false)
  (bindK (law05_RegionMinuses_L8_f (r1005.1, r1006.1, (r1005.1.length : Int), 0)) fun o1007 =>
  sumK o1007 (fun y1008 =>
  bindK (law05_awake ()) fun r1010 =>
  some r1010)
  (fun z1009 => sumK z1009 (fun y1011 =>
  some y1011)
  (fun z1012 => emptyK z1012))))))

noncomputable def law05_RegionMinuses_sp : FSpec := ⟨7, (.pair (.agg (.prod (.prod (.list .str) .bool) (.list (.prod (.list .str) .bool)))) (.agg (.prod (.prod (.list .str) .bool) (.list (.prod (.list .str) .bool))))), .bool, law05_RegionMinuses⟩
noncomputable def law05_RegionMinuses_lo : List FSpec := [law05_small_sp, law05_awake_sp, region_Minus_sp, ref05_Minus_sp, ref05_Same_sp]
noncomputable def law05_RegionMinuses_L8_e : LEnt := ⟨8, ⟨58, 0, [5, 7, 42, 43], (.pair (.list (.prod (.prod (.list .str) .bool) (.list (.prod (.list .str) .bool)))) (.pair (.list (.prod (.prod (.list .str) .bool) (.list (.prod (.list .str) .bool)))) (.pair (.int .i64) (.int .i64))))⟩, [((.exit 0), ⟨58, 0, [], .nil⟩), (.ret, ⟨58, 0, [4], .bool⟩)], law05_RegionMinuses_L8_f⟩
noncomputable def law05_RegionMinuses_ll : List LEnt := [law05_RegionMinuses_L8_e]
theorem law05_RegionMinuses_ook : OOK Try.prog tG (otab law05_RegionMinuses_lo) := ook_of (l := law05_RegionMinuses_lo) (by
    intro sp hsp
    simp only [law05_RegionMinuses_lo, List.mem_cons, List.not_mem_nil, or_false] at hsp
    rcases hsp with rfl | rfl | rfl | rfl | rfl
    · exact law05_small_ok
    · exact law05_awake_ok
    · exact region_Minus_ok
    · exact ref05_Minus_ok
    · exact ref05_Same_ok)
noncomputable def law05_RegionMinuses_c : Code := (Try.f7.body).getD .skip
theorem law05_RegionMinuses_L8_B_eq (n : Nat) (st : law05_RegionMinuses_L8_e.head.shape.den) : law05_RegionMinuses_L8 (n + 1) st = aexecK tT (otabK law05_RegionMinuses_lo) noX (itabK tT []) (ltabK law05_RegionMinuses_ll) (((loops law05_RegionMinuses_c)[0]?).getD .skip) (law05_RegionMinuses_L8_e.head.enc st) (lres law05_RegionMinuses_L8_e.head law05_RegionMinuses_L8_e.exits (law05_RegionMinuses_L8 n)) := by kernel_rfl
theorem law05_RegionMinuses_L8_lok : LOK Try.prog tG (ltab law05_RegionMinuses_ll) (((loops law05_RegionMinuses_c)[0]?).getD .skip) :=
  lok_of tT_ok law05_RegionMinuses_ook (iok_of tT_ok tP_mixed (l := []) (fun _ h => nomatch h)) tP_mixed (loopsOK_of (by
    have e : loops (((loops law05_RegionMinuses_c)[0]?).getD .skip) = [] := by kernel_rfl
    rw [e]
    intro a ha
    cases ha)) law05_RegionMinuses_L8_e (F := law05_RegionMinuses_L8) (fun st => List.length st.1 + List.length st.2.1 + Int.natAbs st.2.2.1 + Int.natAbs st.2.2.2 + 1000) (fun s => by kernel_rfl) (fun st => by kernel_rfl) (fun st => by kernel_rfl) (fun n st => (law05_RegionMinuses_L8_B_eq n st).trans (loopF_eq tT law05_RegionMinuses_lo noX [] law05_RegionMinuses_ll (((loops law05_RegionMinuses_c)[0]?).getD .skip) law05_RegionMinuses_L8_e.head law05_RegionMinuses_L8_e.exits (law05_RegionMinuses_L8 n) st).symm)
theorem law05_RegionMinuses_h (x : law05_RegionMinuses_sp.arg.den) : law05_RegionMinuses_sp.f x = bodyF tT (otab law05_RegionMinuses_lo) noX (itab tT []) (ltab law05_RegionMinuses_ll) Try.f7 law05_RegionMinuses_sp.arg law05_RegionMinuses_sp.res x := by
  rw [bodyF_eq]
  kernel_rfl
theorem law05_RegionMinuses_ok : SpecOK Try.prog tG law05_RegionMinuses_sp :=
  spec_of_body (c := law05_RegionMinuses_c) tT_ok law05_RegionMinuses_ook (iok_of tT_ok tP_mixed (l := []) (fun _ h => nomatch h)) tP_mixed (fn := Try.f7) Try.func7 (by kernel_rfl) (by kernel_rfl) (loopsOK_of (by
    have e : loops law05_RegionMinuses_c = [((loops law05_RegionMinuses_c)[0]?).getD .skip] := by kernel_rfl
    rw [e]
    intro a ha
    simp only [List.mem_cons, List.not_mem_nil, or_false] at ha
    rcases ha with rfl
    · exact law05_RegionMinuses_L8_lok)) (fun x => enc_closed x (by kernel_rfl)) (by kernel_rfl) (by kernel_rfl) law05_RegionMinuses_h


/-- stockyard/region.Empty. -/
noncomputable def region_Empty (x : Reg) : Option (Bool × Int) :=
  bindK (region_Check x) fun r1001 =>
  brK (decide ((r1001 : Int) ≠ 0))
  (some (false, r1001))
  (bindK (holes_Length x) fun r1002 =>
  some ((!r1002.2), 0))

noncomputable def region_Empty_sp : FSpec := ⟨11, (.agg (.prod (.prod (.list .str) .bool) (.list (.prod (.list .str) .bool)))), (.tup (.pair .bool (.int .i64))), region_Empty⟩
noncomputable def region_Empty_lo : List FSpec := [region_Check_sp, holes_Length_sp]
noncomputable def region_Empty_ll : List LEnt := []
theorem region_Empty_ook : OOK Try.prog tG (otab region_Empty_lo) := ook_of (l := region_Empty_lo) (by
    intro sp hsp
    simp only [region_Empty_lo, List.mem_cons, List.not_mem_nil, or_false] at hsp
    rcases hsp with rfl | rfl
    · exact region_Check_ok
    · exact holes_Length_ok)
noncomputable def region_Empty_c : Code := (Try.f11.body).getD .skip
theorem region_Empty_h (x : region_Empty_sp.arg.den) : region_Empty_sp.f x = bodyF tT (otab region_Empty_lo) noX (itab tT []) (ltab region_Empty_ll) Try.f11 region_Empty_sp.arg region_Empty_sp.res x := by
  rw [bodyF_eq]
  kernel_rfl
theorem region_Empty_ok : SpecOK Try.prog tG region_Empty_sp :=
  spec_of_body (c := region_Empty_c) tT_ok region_Empty_ook (iok_of tT_ok tP_mixed (l := []) (fun _ h => nomatch h)) tP_mixed (fn := Try.f11) Try.func11 (by kernel_rfl) (by kernel_rfl) (loopsOK_of (by
    have e : loops region_Empty_c = [] := by kernel_rfl
    rw [e]
    intro a ha
    cases ha)) (fun x => enc_closed x (by kernel_rfl)) (by kernel_rfl) (by kernel_rfl) region_Empty_h

/-- A round of the loop 13 of stockyard/stockyardlaw05.RegionParts. -/
noncomputable def law05_RegionParts_L13_B (rec : (((List ByteArray) × Bool × List Pat) × (List Reg) × Int × Int × Int × Int × Int) → Option ((((List ByteArray) × Bool × List Pat) × (List Reg) × Int × Int) ⊕ (Bool ⊕ Empty))) (st : ((List ByteArray) × Bool × List Pat) × (List Reg) × Int × Int × Int × Int × Int) : Option ((((List ByteArray) × Bool × List Pat) × (List Reg) × Int × Int) ⊕ (Bool ⊕ Empty)) :=
  brK (decide ((st.2.2.2.2.2.2 : Int) < st.2.2.2.2.2.1))
  (bindK (listAt st.2.1 st.2.2.1) fun e9 =>
  bindK (listAt st.2.1 st.2.2.2.2.2.2) fun e10 =>
  bindK (region_Meet (e9, e10)) fun r11 =>
  brK r11.2.1
  (brK (decide ((r11.2.2 : Int) = 0))
  (some (.inr (.inl false)))
  (rec (st.1, st.2.1, st.2.2.1, st.2.2.2.1, st.2.2.2.2.1, st.2.2.2.2.2.1, (IntKind.wrap .i64 (st.2.2.2.2.2.2 + 1)))))
  (rec (st.1, st.2.1, st.2.2.1, st.2.2.2.1, st.2.2.2.2.1, st.2.2.2.2.2.1, (IntKind.wrap .i64 (st.2.2.2.2.2.2 + 1)))))
  (some (.inl (st.1, st.2.1, st.2.2.2.1, st.2.2.2.2.1)))

noncomputable def law05_RegionParts_L13 : Nat → (((List ByteArray) × Bool × List Pat) × (List Reg) × Int × Int × Int × Int × Int) → Option ((((List ByteArray) × Bool × List Pat) × (List Reg) × Int × Int) ⊕ (Bool ⊕ Empty))
  | 0, _ => none
  | n + 1, st => law05_RegionParts_L13_B (law05_RegionParts_L13 n) st

noncomputable def law05_RegionParts_L13_f (st : ((List ByteArray) × Bool × List Pat) × (List Reg) × Int × Int × Int × Int × Int) : Option ((((List ByteArray) × Bool × List Pat) × (List Reg) × Int × Int) ⊕ (Bool ⊕ Empty)) := law05_RegionParts_L13 (List.length st.1.1 + List.length st.1.2.2 + List.length st.2.1 + Int.natAbs st.2.2.1 + Int.natAbs st.2.2.2.1 + Int.natAbs st.2.2.2.2.1 + Int.natAbs st.2.2.2.2.2.1 + Int.natAbs st.2.2.2.2.2.2 + 1000) st

/-- A round of the loop 10 of stockyard/stockyardlaw05.RegionParts. -/
noncomputable def law05_RegionParts_L10_B (rec : (((List ByteArray) × Bool × List Pat) × (List Reg) × Int × Int) → Option ((((List ByteArray) × Bool × List Pat) × List Reg) ⊕ (Bool ⊕ Empty))) (st : ((List ByteArray) × Bool × List Pat) × (List Reg) × Int × Int) : Option ((((List ByteArray) × Bool × List Pat) × List Reg) ⊕ (Bool ⊕ Empty)) :=
  brK (decide ((st.2.2.2 : Int) < st.2.2.1))
  (brK (decide (0 ≤ (0 : Int) ∧ (0 : Int) ≤ st.2.2.2 ∧ st.2.2.2 ≤ (st.2.1.length : Int)))
  (bindK (law05_RegionParts_L13_f (st.1, st.2.1, st.2.2.2, st.2.2.1, st.2.2.2, ((List.drop (Int.toNat 0) (List.take (Int.toNat st.2.2.2) st.2.1)).length : Int), 0)) fun o12 =>
  sumK o12 (fun y13 =>
  rec (y13.1, y13.2.1, y13.2.2.1, (IntKind.wrap .i64 (y13.2.2.2 + 1))))
  (fun z14 => sumK z14 (fun y15 =>
  some (.inr (.inl y15)))
  (fun z16 => emptyK z16)))
  (none))
  (some (.inl (st.1, st.2.1)))

noncomputable def law05_RegionParts_L10 : Nat → (((List ByteArray) × Bool × List Pat) × (List Reg) × Int × Int) → Option ((((List ByteArray) × Bool × List Pat) × List Reg) ⊕ (Bool ⊕ Empty))
  | 0, _ => none
  | n + 1, st => law05_RegionParts_L10_B (law05_RegionParts_L10 n) st

noncomputable def law05_RegionParts_L10_f (st : ((List ByteArray) × Bool × List Pat) × (List Reg) × Int × Int) : Option ((((List ByteArray) × Bool × List Pat) × List Reg) ⊕ (Bool ⊕ Empty)) := law05_RegionParts_L10 (List.length st.1.1 + List.length st.1.2.2 + List.length st.2.1 + Int.natAbs st.2.2.1 + Int.natAbs st.2.2.2 + 1000) st

/-- stockyard/stockyardlaw05.RegionParts. -/
noncomputable def law05_RegionParts (x : Reg × Reg) : Option Bool :=
  bindK (law05_small x.1) fun r1001 =>
  brK (!r1001)
  (bindK (law05_awake ()) fun r1002 =>
  some r1002)
  (bindK (law05_small x.2) fun r1003 =>
  brK (!r1003)
  (bindK (law05_awake ()) fun r1004 =>
  some r1004)
  (bindK (region_Meet x) fun r1005 =>
  bindK (region_Minus x) fun r1006 =>
  brK (decide ((r1005.2.2 : Int) ≠ 0))
  (bindK (law05_awake ()) fun r1007 =>
  some r1007)
  (brK (decide ((r1006.2 : Int) ≠ 0))
  (bindK (law05_awake ()) fun r1008 =>
  some r1008)
  (brK r1005.2.1
  (brK (fits 0 (List.length r1006.1) 56)
  (brK (fits (List.length r1006.1) (List.length ([r1005.1] : List Reg)) 56)
  (bindK (law05_RegionParts_L10_f ((x.1.1.1, x.1.1.2, x.1.2), (r1006.1 ++ ([r1005.1] : List Reg)), ((r1006.1 ++ ([r1005.1] : List Reg)).length : Int), 0)) fun o1009 =>
  sumK o1009 (fun y1010 =>
  bindK (region_Empty ((y1010.1.1, y1010.1.2.1), y1010.1.2.2)) fun r1012 =>
  brK (decide ((r1012.2 : Int) = 0))
  (brK (r1012.1 == (decide (((y1010.2.length : Int) : Int) = 0)))
  (bindK (law05_awake ()) fun r1013 =>
  some r1013)
  (some false))
  (some false))
  (fun z1011 => sumK z1011 (fun y1014 =>
  some y1014)
  (fun z1015 => emptyK z1015)))
  (none))
  (none))
  (bindK (law05_RegionParts_L10_f ((x.1.1.1, x.1.1.2, x.1.2), r1006.1, (r1006.1.length : Int), 0)) fun o1016 =>
  sumK o1016 (fun y1017 =>
  bindK (region_Empty ((y1017.1.1, y1017.1.2.1), y1017.1.2.2)) fun r1019 =>
  brK (decide ((r1019.2 : Int) = 0))
  (brK (r1019.1 == (decide (((y1017.2.length : Int) : Int) = 0)))
  (bindK (law05_awake ()) fun r1020 =>
  some r1020)
  (some false))
  (some false))
  (fun z1018 => sumK z1018 (fun y1021 =>
  some y1021)
  (fun z1022 => emptyK z1022)))))))

noncomputable def law05_RegionParts_sp : FSpec := ⟨8, (.pair (.agg (.prod (.prod (.list .str) .bool) (.list (.prod (.list .str) .bool)))) (.agg (.prod (.prod (.list .str) .bool) (.list (.prod (.list .str) .bool))))), .bool, law05_RegionParts⟩
noncomputable def law05_RegionParts_lo : List FSpec := [law05_small_sp, law05_awake_sp, region_Meet_sp, region_Minus_sp, region_Empty_sp]
noncomputable def law05_RegionParts_L13_e : LEnt := ⟨13, ⟨101, 1, [2, 8, 10, 53, 54, 60, 61], (.pair (.box 0 (.pair (.list .str) (.pair .bool (.list (.prod (.list .str) .bool))))) (.pair (.list (.prod (.prod (.list .str) .bool) (.list (.prod (.list .str) .bool)))) (.pair (.int .i64) (.pair (.int .i64) (.pair (.int .i64) (.pair (.int .i64) (.int .i64)))))))⟩, [((.exit 2), ⟨101, 1, [2, 8, 53, 54], (.pair (.box 0 (.pair (.list .str) (.pair .bool (.list (.prod (.list .str) .bool))))) (.pair (.list (.prod (.prod (.list .str) .bool) (.list (.prod (.list .str) .bool)))) (.pair (.int .i64) (.int .i64))))⟩), (.ret, ⟨101, 0, [4], .bool⟩)], law05_RegionParts_L13_f⟩
noncomputable def law05_RegionParts_L10_e : LEnt := ⟨10, ⟨101, 1, [2, 8, 53, 54], (.pair (.box 0 (.pair (.list .str) (.pair .bool (.list (.prod (.list .str) .bool))))) (.pair (.list (.prod (.prod (.list .str) .bool) (.list (.prod (.list .str) .bool)))) (.pair (.int .i64) (.int .i64))))⟩, [((.exit 0), ⟨101, 1, [2, 8], (.pair (.box 0 (.pair (.list .str) (.pair .bool (.list (.prod (.list .str) .bool))))) (.list (.prod (.prod (.list .str) .bool) (.list (.prod (.list .str) .bool)))))⟩), (.ret, ⟨101, 0, [4], .bool⟩)], law05_RegionParts_L10_f⟩
noncomputable def law05_RegionParts_ll : List LEnt := [law05_RegionParts_L13_e, law05_RegionParts_L10_e]
theorem law05_RegionParts_ook : OOK Try.prog tG (otab law05_RegionParts_lo) := ook_of (l := law05_RegionParts_lo) (by
    intro sp hsp
    simp only [law05_RegionParts_lo, List.mem_cons, List.not_mem_nil, or_false] at hsp
    rcases hsp with rfl | rfl | rfl | rfl | rfl
    · exact law05_small_ok
    · exact law05_awake_ok
    · exact region_Meet_ok
    · exact region_Minus_ok
    · exact region_Empty_ok)
noncomputable def law05_RegionParts_c : Code := (Try.f8.body).getD .skip
theorem law05_RegionParts_L13_B_eq (n : Nat) (st : law05_RegionParts_L13_e.head.shape.den) : law05_RegionParts_L13 (n + 1) st = aexecK tT (otabK law05_RegionParts_lo) noX (itabK tT []) (ltabK law05_RegionParts_ll) (((loops law05_RegionParts_c)[1]?).getD .skip) (law05_RegionParts_L13_e.head.enc st) (lres law05_RegionParts_L13_e.head law05_RegionParts_L13_e.exits (law05_RegionParts_L13 n)) := by kernel_rfl
theorem law05_RegionParts_L13_lok : LOK Try.prog tG (ltab law05_RegionParts_ll) (((loops law05_RegionParts_c)[1]?).getD .skip) :=
  lok_of tT_ok law05_RegionParts_ook (iok_of tT_ok tP_mixed (l := []) (fun _ h => nomatch h)) tP_mixed (loopsOK_of (by
    have e : loops (((loops law05_RegionParts_c)[1]?).getD .skip) = [] := by kernel_rfl
    rw [e]
    intro a ha
    cases ha)) law05_RegionParts_L13_e (F := law05_RegionParts_L13) (fun st => List.length st.1.1 + List.length st.1.2.2 + List.length st.2.1 + Int.natAbs st.2.2.1 + Int.natAbs st.2.2.2.1 + Int.natAbs st.2.2.2.2.1 + Int.natAbs st.2.2.2.2.2.1 + Int.natAbs st.2.2.2.2.2.2 + 1000) (fun s => by kernel_rfl) (fun st => by kernel_rfl) (fun st => by kernel_rfl) (fun n st => (law05_RegionParts_L13_B_eq n st).trans (loopF_eq tT law05_RegionParts_lo noX [] law05_RegionParts_ll (((loops law05_RegionParts_c)[1]?).getD .skip) law05_RegionParts_L13_e.head law05_RegionParts_L13_e.exits (law05_RegionParts_L13 n) st).symm)
theorem law05_RegionParts_L10_B_eq (n : Nat) (st : law05_RegionParts_L10_e.head.shape.den) : law05_RegionParts_L10 (n + 1) st = aexecK tT (otabK law05_RegionParts_lo) noX (itabK tT []) (ltabK law05_RegionParts_ll) (((loops law05_RegionParts_c)[0]?).getD .skip) (law05_RegionParts_L10_e.head.enc st) (lres law05_RegionParts_L10_e.head law05_RegionParts_L10_e.exits (law05_RegionParts_L10 n)) := by kernel_rfl
theorem law05_RegionParts_L10_lok : LOK Try.prog tG (ltab law05_RegionParts_ll) (((loops law05_RegionParts_c)[0]?).getD .skip) :=
  lok_of tT_ok law05_RegionParts_ook (iok_of tT_ok tP_mixed (l := []) (fun _ h => nomatch h)) tP_mixed (loopsOK_of (by
    have e : loops (((loops law05_RegionParts_c)[0]?).getD .skip) = [((loops law05_RegionParts_c)[1]?).getD .skip] := by kernel_rfl
    rw [e]
    intro a ha
    simp only [List.mem_cons, List.not_mem_nil, or_false] at ha
    rcases ha with rfl
    · exact law05_RegionParts_L13_lok)) law05_RegionParts_L10_e (F := law05_RegionParts_L10) (fun st => List.length st.1.1 + List.length st.1.2.2 + List.length st.2.1 + Int.natAbs st.2.2.1 + Int.natAbs st.2.2.2 + 1000) (fun s => by kernel_rfl) (fun st => by kernel_rfl) (fun st => by kernel_rfl) (fun n st => (law05_RegionParts_L10_B_eq n st).trans (loopF_eq tT law05_RegionParts_lo noX [] law05_RegionParts_ll (((loops law05_RegionParts_c)[0]?).getD .skip) law05_RegionParts_L10_e.head law05_RegionParts_L10_e.exits (law05_RegionParts_L10 n) st).symm)
theorem law05_RegionParts_h (x : law05_RegionParts_sp.arg.den) : law05_RegionParts_sp.f x = bodyF tT (otab law05_RegionParts_lo) noX (itab tT []) (ltab law05_RegionParts_ll) Try.f8 law05_RegionParts_sp.arg law05_RegionParts_sp.res x := by
  rw [bodyF_eq]
  kernel_rfl
theorem law05_RegionParts_ok : SpecOK Try.prog tG law05_RegionParts_sp :=
  spec_of_body (c := law05_RegionParts_c) tT_ok law05_RegionParts_ook (iok_of tT_ok tP_mixed (l := []) (fun _ h => nomatch h)) tP_mixed (fn := Try.f8) Try.func8 (by kernel_rfl) (by kernel_rfl) (loopsOK_of (by
    have e : loops law05_RegionParts_c = [((loops law05_RegionParts_c)[0]?).getD .skip, ((loops law05_RegionParts_c)[1]?).getD .skip] := by kernel_rfl
    rw [e]
    intro a ha
    simp only [List.mem_cons, List.not_mem_nil, or_false] at ha
    rcases ha with rfl | rfl
    · exact law05_RegionParts_L10_lok
    · exact law05_RegionParts_L13_lok)) (fun x => enc_closed x (by kernel_rfl)) (by kernel_rfl) (by kernel_rfl) law05_RegionParts_h

/-- A round of the loop 3 of stockyard/stockyardref05.after. -/
noncomputable def ref05_after_L3_B (rec : (ByteArray × Int × Int × ((List ByteArray) × Bool) × (List Pat) × (List Pat) × Int × Int) → Option ((List Pat) ⊕ (((List Pat) × Bool) ⊕ Empty))) (st : ByteArray × Int × Int × ((List ByteArray) × Bool) × (List Pat) × (List Pat) × Int × Int) : Option ((List Pat) ⊕ (((List Pat) × Bool) ⊕ Empty)) :=
  brK (decide ((st.2.2.2.2.2.2.2 : Int) < st.2.2.2.2.2.2.1))
  (bindK (listAt st.2.2.2.2.2.1 st.2.2.2.2.2.2.2) fun e1 =>
  bindK (ref05_counts (e1, st.2.2.1)) fun r2 =>
  brK (!r2)
  (rec (st.1, st.2.1, st.2.2.1, st.2.2.2.1, st.2.2.2.2.1, st.2.2.2.2.2.1, st.2.2.2.2.2.2.1, (IntKind.wrap .i64 (st.2.2.2.2.2.2.2 + 1))))
  (brK (decide ((st.2.1 : Int) < (e1.1.length : Int)))
  (bindK (listAt e1.1 st.2.1) fun e3 =>
  bindK (ref03_Capture (e3, st.1)) fun r4 =>
  brK (!r4.2)
  (rec (st.1, st.2.1, st.2.2.1, st.2.2.2.1, st.2.2.2.2.1, st.2.2.2.2.2.1, st.2.2.2.2.2.2.1, (IntKind.wrap .i64 (st.2.2.2.2.2.2.2 + 1))))
  (brK (fits (List.length st.2.2.2.2.1) (List.length ([e1] : List Pat)) 32)
  (bindK (ref05_covers (st.2.2.2.1, e1, (IntKind.wrap .i64 (st.2.1 + 1)), st.2.2.1)) fun r5 =>
  brK r5
  (some (.inr (.inl (([] : List Pat), false))))
  (rec (st.1, st.2.1, st.2.2.1, st.2.2.2.1, (st.2.2.2.2.1 ++ ([e1] : List Pat)), st.2.2.2.2.2.1, st.2.2.2.2.2.2.1, (IntKind.wrap .i64 (st.2.2.2.2.2.2.2 + 1)))))
  (none)))
  (brK (fits (List.length st.2.2.2.2.1) (List.length ([e1] : List Pat)) 32)
  (bindK (ref05_covers (st.2.2.2.1, e1, (IntKind.wrap .i64 (st.2.1 + 1)), st.2.2.1)) fun r6 =>
  brK r6
  (some (.inr (.inl (([] : List Pat), false))))
  (rec (st.1, st.2.1, st.2.2.1, st.2.2.2.1, (st.2.2.2.2.1 ++ ([e1] : List Pat)), st.2.2.2.2.2.1, st.2.2.2.2.2.2.1, (IntKind.wrap .i64 (st.2.2.2.2.2.2.2 + 1)))))
  (none))))
  (some (.inl st.2.2.2.2.1))

noncomputable def ref05_after_L3 : Nat → (ByteArray × Int × Int × ((List ByteArray) × Bool) × (List Pat) × (List Pat) × Int × Int) → Option ((List Pat) ⊕ (((List Pat) × Bool) ⊕ Empty))
  | 0, _ => none
  | n + 1, st => ref05_after_L3_B (ref05_after_L3 n) st

noncomputable def ref05_after_L3_f (st : ByteArray × Int × Int × ((List ByteArray) × Bool) × (List Pat) × (List Pat) × Int × Int) : Option ((List Pat) ⊕ (((List Pat) × Bool) ⊕ Empty)) := ref05_after_L3 (ByteArray.size st.1 + Int.natAbs st.2.1 + Int.natAbs st.2.2.1 + List.length st.2.2.2.1.1 + List.length st.2.2.2.2.1 + List.length st.2.2.2.2.2.1 + Int.natAbs st.2.2.2.2.2.2.1 + Int.natAbs st.2.2.2.2.2.2.2 + 1000) st

/-- stockyard/stockyardref05.after. -/
noncomputable def ref05_after (x : Pat × (List Pat) × ByteArray × Int × Int) : Option ((List Pat) × Bool) :=
  bindK (ref05_after_L3_f (x.2.2.1, x.2.2.2.1, x.2.2.2.2, x.1, ([] : List Pat), x.2.1, (x.2.1.length : Int), 0)) fun o1001 =>
  sumK o1001 (fun y1002 =>
  some (y1002, true))
  (fun z1003 => sumK z1003 (fun y1004 =>
  some y1004)
  (fun z1005 => emptyK z1005))

noncomputable def ref05_after_sp : FSpec := ⟨33, (.pair (.agg (.prod (.list .str) .bool)) (.pair (.list (.prod (.list .str) .bool)) (.pair .str (.pair (.int .i64) (.int .i64))))), (.tup (.pair (.list (.prod (.list .str) .bool)) .bool)), ref05_after⟩
noncomputable def ref05_after_lo : List FSpec := [ref05_counts_sp, ref03_Capture_sp, ref05_covers_sp]
noncomputable def ref05_after_L3_e : LEnt := ⟨3, ⟨56, 2, [2, 3, 4, 5, 12, 17, 18, 19], (.pair .str (.pair (.int .i64) (.pair (.int .i64) (.pair (.box 0 (.pair (.list .str) .bool)) (.pair (.own 1 24 (.prod (.list .str) .bool)) (.pair (.list (.prod (.list .str) .bool)) (.pair (.int .i64) (.int .i64))))))))⟩, [((.exit 0), ⟨56, 1, [12], (.own 0 24 (.prod (.list .str) .bool))⟩), (.ret, ⟨56, 1, [10, 11], (.pair (.own 0 24 (.prod (.list .str) .bool)) .bool)⟩)], ref05_after_L3_f⟩
noncomputable def ref05_after_ll : List LEnt := [ref05_after_L3_e]
theorem ref05_after_ook : OOK Try.prog tG (otab ref05_after_lo) := ook_of (l := ref05_after_lo) (by
    intro sp hsp
    simp only [ref05_after_lo, List.mem_cons, List.not_mem_nil, or_false] at hsp
    rcases hsp with rfl | rfl | rfl
    · exact ref05_counts_ok
    · exact ref03_Capture_ok
    · exact ref05_covers_ok)
noncomputable def ref05_after_c : Code := (Try.f33.body).getD .skip
theorem ref05_after_L3_B_eq (n : Nat) (st : ref05_after_L3_e.head.shape.den) : ref05_after_L3 (n + 1) st = aexecK tT (otabK ref05_after_lo) noX (itabK tT []) (ltabK ref05_after_ll) (((loops ref05_after_c)[0]?).getD .skip) (ref05_after_L3_e.head.enc st) (lres ref05_after_L3_e.head ref05_after_L3_e.exits (ref05_after_L3 n)) := by kernel_rfl
theorem ref05_after_L3_lok : LOK Try.prog tG (ltab ref05_after_ll) (((loops ref05_after_c)[0]?).getD .skip) :=
  lok_of tT_ok ref05_after_ook (iok_of tT_ok tP_mixed (l := []) (fun _ h => nomatch h)) tP_mixed (loopsOK_of (by
    have e : loops (((loops ref05_after_c)[0]?).getD .skip) = [] := by kernel_rfl
    rw [e]
    intro a ha
    cases ha)) ref05_after_L3_e (F := ref05_after_L3) (fun st => ByteArray.size st.1 + Int.natAbs st.2.1 + Int.natAbs st.2.2.1 + List.length st.2.2.2.1.1 + List.length st.2.2.2.2.1 + List.length st.2.2.2.2.2.1 + Int.natAbs st.2.2.2.2.2.2.1 + Int.natAbs st.2.2.2.2.2.2.2 + 1000) (fun s => by kernel_rfl) (fun st => by kernel_rfl) (fun st => by kernel_rfl) (fun n st => (ref05_after_L3_B_eq n st).trans (loopF_eq tT ref05_after_lo noX [] ref05_after_ll (((loops ref05_after_c)[0]?).getD .skip) ref05_after_L3_e.head ref05_after_L3_e.exits (ref05_after_L3 n) st).symm)
theorem ref05_after_h (x : ref05_after_sp.arg.den) : ref05_after_sp.f x = bodyF tT (otab ref05_after_lo) noX (itab tT []) (ltab ref05_after_ll) Try.f33 ref05_after_sp.arg ref05_after_sp.res x := by
  rw [bodyF_eq]
  kernel_rfl
theorem ref05_after_ok : SpecOK Try.prog tG ref05_after_sp :=
  spec_of_body (c := ref05_after_c) tT_ok ref05_after_ook (iok_of tT_ok tP_mixed (l := []) (fun _ h => nomatch h)) tP_mixed (fn := Try.f33) Try.func33 (by kernel_rfl) (by kernel_rfl) (loopsOK_of (by
    have e : loops ref05_after_c = [((loops ref05_after_c)[0]?).getD .skip] := by kernel_rfl
    rw [e]
    intro a ha
    simp only [List.mem_cons, List.not_mem_nil, or_false] at ha
    rcases ha with rfl
    · exact ref05_after_L3_lok)) (fun x => enc_closed x (by kernel_rfl)) (by kernel_rfl) (by kernel_rfl) ref05_after_h

/-- A round of the loop 3 of stockyard/stockyardref05.firsts. -/
noncomputable def ref05_firsts_L3_B (rec : ((List ByteArray) × Int) → Option ((List ByteArray) ⊕ Empty)) (st : (List ByteArray) × Int) : Option ((List ByteArray) ⊕ Empty) :=
  brK (decide ((st.2 : Int) < 128))
  (bindK (ref02_Component (bytesOf ([(IntKind.wrap .u8 st.2)] : List Int))) fun r1 =>
  brK r1
  (brK (fits (List.length st.1) (List.length ([(bytesOf ([(IntKind.wrap .u8 st.2)] : List Int))] : List ByteArray)) 16)
  (rec ((st.1 ++ ([(bytesOf ([(IntKind.wrap .u8 st.2)] : List Int))] : List ByteArray)), (IntKind.wrap .i64 (st.2 + 1))))
  (none))
  (rec (st.1, (IntKind.wrap .i64 (st.2 + 1)))))
  (some (.inl st.1))

noncomputable def ref05_firsts_L3 : Nat → ((List ByteArray) × Int) → Option ((List ByteArray) ⊕ Empty)
  | 0, _ => none
  | n + 1, st => ref05_firsts_L3_B (ref05_firsts_L3 n) st

noncomputable def ref05_firsts_L3_f (st : (List ByteArray) × Int) : Option ((List ByteArray) ⊕ Empty) := ref05_firsts_L3 (List.length st.1 + Int.natAbs st.2 + 1000) st

/-- stockyard/stockyardref05.firsts. -/
noncomputable def ref05_firsts (x : Unit) : Option (List ByteArray) :=
  bindK (ref05_firsts_L3_f (([] : List ByteArray), 0)) fun o1001 =>
  sumK o1001 (fun y1002 =>
  some y1002)
  (fun z1003 => emptyK z1003)

noncomputable def ref05_firsts_sp : FSpec := ⟨34, .nil, (.list .str), ref05_firsts⟩
noncomputable def ref05_firsts_lo : List FSpec := [ref02_Component_sp]
noncomputable def ref05_firsts_L3_e : LEnt := ⟨3, ⟨19, 1, [1, 2], (.pair (.own 0 9 .str) (.int .i64))⟩, [((.exit 0), ⟨19, 1, [1], (.own 0 9 .str)⟩)], ref05_firsts_L3_f⟩
noncomputable def ref05_firsts_ll : List LEnt := [ref05_firsts_L3_e]
theorem ref05_firsts_ook : OOK Try.prog tG (otab ref05_firsts_lo) := ook_of (l := ref05_firsts_lo) (by
    intro sp hsp
    simp only [ref05_firsts_lo, List.mem_cons, List.not_mem_nil, or_false] at hsp
    rcases hsp with rfl
    · exact ref02_Component_ok)
noncomputable def ref05_firsts_c : Code := (Try.f34.body).getD .skip
theorem ref05_firsts_L3_B_eq (n : Nat) (st : ref05_firsts_L3_e.head.shape.den) : ref05_firsts_L3 (n + 1) st = aexecK tT (otabK ref05_firsts_lo) noX (itabK tT []) (ltabK ref05_firsts_ll) (((loops ref05_firsts_c)[0]?).getD .skip) (ref05_firsts_L3_e.head.enc st) (lres ref05_firsts_L3_e.head ref05_firsts_L3_e.exits (ref05_firsts_L3 n)) := by kernel_rfl
theorem ref05_firsts_L3_lok : LOK Try.prog tG (ltab ref05_firsts_ll) (((loops ref05_firsts_c)[0]?).getD .skip) :=
  lok_of tT_ok ref05_firsts_ook (iok_of tT_ok tP_mixed (l := []) (fun _ h => nomatch h)) tP_mixed (loopsOK_of (by
    have e : loops (((loops ref05_firsts_c)[0]?).getD .skip) = [] := by kernel_rfl
    rw [e]
    intro a ha
    cases ha)) ref05_firsts_L3_e (F := ref05_firsts_L3) (fun st => List.length st.1 + Int.natAbs st.2 + 1000) (fun s => by kernel_rfl) (fun st => by kernel_rfl) (fun st => by kernel_rfl) (fun n st => (ref05_firsts_L3_B_eq n st).trans (loopF_eq tT ref05_firsts_lo noX [] ref05_firsts_ll (((loops ref05_firsts_c)[0]?).getD .skip) ref05_firsts_L3_e.head ref05_firsts_L3_e.exits (ref05_firsts_L3 n) st).symm)
theorem ref05_firsts_h (x : ref05_firsts_sp.arg.den) : ref05_firsts_sp.f x = bodyF tT (otab ref05_firsts_lo) noX (itab tT []) (ltab ref05_firsts_ll) Try.f34 ref05_firsts_sp.arg ref05_firsts_sp.res x := by
  rw [bodyF_eq]
  kernel_rfl
theorem ref05_firsts_ok : SpecOK Try.prog tG ref05_firsts_sp :=
  spec_of_body (c := ref05_firsts_c) tT_ok ref05_firsts_ook (iok_of tT_ok tP_mixed (l := []) (fun _ h => nomatch h)) tP_mixed (fn := Try.f34) Try.func34 (by kernel_rfl) (by kernel_rfl) (loopsOK_of (by
    have e : loops ref05_firsts_c = [((loops ref05_firsts_c)[0]?).getD .skip] := by kernel_rfl
    rw [e]
    intro a ha
    simp only [List.mem_cons, List.not_mem_nil, or_false] at ha
    rcases ha with rfl
    · exact ref05_firsts_L3_lok)) (fun x => enc_closed x (by kernel_rfl)) (by kernel_rfl) (by kernel_rfl) ref05_firsts_h


/-- stockyard/stockyardref02.Join. -/
noncomputable def ref02_Join (x : List ByteArray) : Option ByteArray :=
  bindK (strings_Join (x, (ByteArray.mk #[47]))) fun r1001 =>
  brK (decide (ByteArray.size (ByteArray.mk #[47, 47]) + ByteArray.size r1001 ≤ 140737488355328))
  (some ((ByteArray.mk #[47, 47]) ++ r1001))
  (none)

noncomputable def ref02_Join_sp : FSpec := ⟨35, (.list .str), .str, ref02_Join⟩
noncomputable def ref02_Join_lo : List FSpec := [strings_Join_sp]
noncomputable def ref02_Join_ll : List LEnt := []
theorem ref02_Join_ook : OOK Try.prog tG (otab ref02_Join_lo) := ook_of (l := ref02_Join_lo) (by
    intro sp hsp
    simp only [ref02_Join_lo, List.mem_cons, List.not_mem_nil, or_false] at hsp
    rcases hsp with rfl
    · exact strings_Join_ok)
noncomputable def ref02_Join_c : Code := (Try.f35.body).getD .skip
theorem ref02_Join_h (x : ref02_Join_sp.arg.den) : ref02_Join_sp.f x = bodyF tT (otab ref02_Join_lo) noX (itab tT []) (ltab ref02_Join_ll) Try.f35 ref02_Join_sp.arg ref02_Join_sp.res x := by
  rw [bodyF_eq]
  kernel_rfl
theorem ref02_Join_ok : SpecOK Try.prog tG ref02_Join_sp :=
  spec_of_body (c := ref02_Join_c) tT_ok ref02_Join_ook (iok_of tT_ok tP_mixed (l := []) (fun _ h => nomatch h)) tP_mixed (fn := Try.f35) Try.func35 (by kernel_rfl) (by kernel_rfl) (loopsOK_of (by
    have e : loops ref02_Join_c = [] := by kernel_rfl
    rw [e]
    intro a ha
    cases ha)) (fun x => enc_closed x (by kernel_rfl)) (by kernel_rfl) (by kernel_rfl) ref02_Join_h

/-- A round of the loop 14 of stockyard/stockyardref05.Least. -/
noncomputable def ref05_Least_L14_B (rec : (((List ByteArray) × Bool × List Pat) × Int × (List Pat) × (List ByteArray) × Int × ByteArray × (List ByteArray) × Int × Int) → Option ((((List ByteArray) × Bool × List Pat) × Int × (List Pat) × (List ByteArray) × Int) ⊕ Empty)) (st : ((List ByteArray) × Bool × List Pat) × Int × (List Pat) × (List ByteArray) × Int × ByteArray × (List ByteArray) × Int × Int) : Option ((((List ByteArray) × Bool × List Pat) × Int × (List Pat) × (List ByteArray) × Int) ⊕ Empty) :=
  brK (decide ((st.2.2.2.2.2.2.2.2 : Int) < st.2.2.2.2.2.2.2.1))
  (bindK (listAt st.2.2.2.2.2.2.1 st.2.2.2.2.2.2.2.2) fun e8 =>
  brK (decide (ByteArray.size e8 + ByteArray.size st.2.2.2.2.2.1 ≤ 140737488355328))
  (bindK (ref05_after ((st.1.1, st.1.2.1), st.2.2.1, (e8 ++ st.2.2.2.2.2.1), st.2.2.2.2.1, st.2.1)) fun r9 =>
  brK r9.2
  (brK (decide (ByteArray.size e8 + ByteArray.size st.2.2.2.2.2.1 ≤ 140737488355328))
  (brK (fits (List.length st.2.2.2.1) (List.length ([(e8 ++ st.2.2.2.2.2.1)] : List ByteArray)) 16)
  (some (.inl (st.1, st.2.1, r9.1, (st.2.2.2.1 ++ ([(e8 ++ st.2.2.2.2.2.1)] : List ByteArray)), st.2.2.2.2.1)))
  (none))
  (none))
  (rec (st.1, st.2.1, st.2.2.1, st.2.2.2.1, st.2.2.2.2.1, st.2.2.2.2.2.1, st.2.2.2.2.2.2.1, st.2.2.2.2.2.2.2.1, (IntKind.wrap .i64 (st.2.2.2.2.2.2.2.2 + 1)))))
  (none))
  (some (.inl (st.1, st.2.1, st.2.2.1, st.2.2.2.1, st.2.2.2.2.1)))

noncomputable def ref05_Least_L14 : Nat → (((List ByteArray) × Bool × List Pat) × Int × (List Pat) × (List ByteArray) × Int × ByteArray × (List ByteArray) × Int × Int) → Option ((((List ByteArray) × Bool × List Pat) × Int × (List Pat) × (List ByteArray) × Int) ⊕ Empty)
  | 0, _ => none
  | n + 1, st => ref05_Least_L14_B (ref05_Least_L14 n) st

noncomputable def ref05_Least_L14_f (st : ((List ByteArray) × Bool × List Pat) × Int × (List Pat) × (List ByteArray) × Int × ByteArray × (List ByteArray) × Int × Int) : Option ((((List ByteArray) × Bool × List Pat) × Int × (List Pat) × (List ByteArray) × Int) ⊕ Empty) := ref05_Least_L14 (List.length st.1.1 + List.length st.1.2.2 + Int.natAbs st.2.1 + List.length st.2.2.1 + List.length st.2.2.2.1 + Int.natAbs st.2.2.2.2.1 + ByteArray.size st.2.2.2.2.2.1 + List.length st.2.2.2.2.2.2.1 + Int.natAbs st.2.2.2.2.2.2.2.1 + Int.natAbs st.2.2.2.2.2.2.2.2 + 1000) st

/-- A round of the loop 7 of stockyard/stockyardref05.Least. -/
noncomputable def ref05_Least_L7_B (rec : (((List ByteArray) × Bool × List Pat) × Int × (List Pat) × (List ByteArray) × Int) → Option ((List ByteArray) ⊕ ((ByteArray × Bool) ⊕ Empty))) (st : ((List ByteArray) × Bool × List Pat) × Int × (List Pat) × (List ByteArray) × Int) : Option ((List ByteArray) ⊕ ((ByteArray × Bool) ⊕ Empty)) :=
  brK (decide ((st.2.2.2.2 : Int) < st.2.1))
  (bindK (ref05_part ((st.1.1, st.1.2.1), st.2.2.2.2)) fun r2 =>
  bindK (ref03_Star r2) fun r3 =>
  brK (!r3.2)
  (bindK (ref05_part ((st.1.1, st.1.2.1), st.2.2.2.2)) fun r4 =>
  brK (fits (List.length st.2.2.2.1) (List.length ([r4] : List ByteArray)) 16)
  (bindK (listAt (st.2.2.2.1 ++ ([r4] : List ByteArray)) st.2.2.2.2) fun e5 =>
  bindK (ref05_after ((st.1.1, st.1.2.1), st.2.2.1, e5, st.2.2.2.2, st.2.1)) fun r6 =>
  rec (st.1, st.2.1, r6.1, (st.2.2.2.1 ++ ([r4] : List ByteArray)), (IntKind.wrap .i64 (st.2.2.2.2 + 1))))
  (none))
  (bindK (ref05_firsts ()) fun r7 =>
  bindK (ref05_Least_L14_f (st.1, st.2.1, st.2.2.1, st.2.2.2.1, st.2.2.2.2, r3.1, r7, (r7.length : Int), 0)) fun o10 =>
  sumK o10 (fun y11 =>
  brK (decide (((y11.2.2.2.1.length : Int) : Int) ≠ (IntKind.wrap .i64 (y11.2.2.2.2 + 1))))
  (some (.inr (.inl ((ByteArray.mk #[]), false))))
  (rec (y11.1, y11.2.1, y11.2.2.1, y11.2.2.2.1, (IntKind.wrap .i64 (y11.2.2.2.2 + 1)))))
  (fun z12 => emptyK z12)))
  (some (.inl st.2.2.2.1))

noncomputable def ref05_Least_L7 : Nat → (((List ByteArray) × Bool × List Pat) × Int × (List Pat) × (List ByteArray) × Int) → Option ((List ByteArray) ⊕ ((ByteArray × Bool) ⊕ Empty))
  | 0, _ => none
  | n + 1, st => ref05_Least_L7_B (ref05_Least_L7 n) st

noncomputable def ref05_Least_L7_f (st : ((List ByteArray) × Bool × List Pat) × Int × (List Pat) × (List ByteArray) × Int) : Option ((List ByteArray) ⊕ ((ByteArray × Bool) ⊕ Empty)) := ref05_Least_L7 (List.length st.1.1 + List.length st.1.2.2 + Int.natAbs st.2.1 + List.length st.2.2.1 + List.length st.2.2.2.1 + Int.natAbs st.2.2.2.2 + 1000) st

/-- stockyard/stockyardref05.Least. -/
noncomputable def ref05_Least (x : Reg) : Option (ByteArray × Bool) :=
  bindK (ref05_Length x) fun r1001 =>
  brK (decide ((r1001 : Int) = 0))
  (some ((ByteArray.mk #[]), false))
  (bindK (ref05_Least_L7_f ((x.1.1, x.1.2, x.2), r1001, x.2, ([] : List ByteArray), 0)) fun o1002 =>
  sumK o1002 (fun y1003 =>
  bindK (ref02_Join y1003) fun r1005 =>
  some (r1005, true))
  (fun z1004 => sumK z1004 (fun y1006 =>
  some y1006)
  (fun z1007 => emptyK z1007)))

noncomputable def ref05_Least_sp : FSpec := ⟨14, (.agg (.prod (.prod (.list .str) .bool) (.list (.prod (.list .str) .bool)))), (.tup (.pair .str .bool)), ref05_Least⟩
noncomputable def ref05_Least_lo : List FSpec := [ref05_Length_sp, ref05_part_sp, ref03_Star_sp, ref05_after_sp, ref05_firsts_sp, ref02_Join_sp]
noncomputable def ref05_Least_L14_e : LEnt := ⟨14, ⟨89, 2, [1, 4, 5, 6, 7, 8, 55, 56, 57], (.pair (.box 0 (.pair (.list .str) (.pair .bool (.list (.prod (.list .str) .bool))))) (.pair (.int .i64) (.pair (.list (.prod (.list .str) .bool)) (.pair (.own 1 9 .str) (.pair (.int .i64) (.pair .str (.pair (.list .str) (.pair (.int .i64) (.int .i64)))))))))⟩, [((.exit 2), ⟨89, 2, [1, 4, 5, 6, 7], (.pair (.box 0 (.pair (.list .str) (.pair .bool (.list (.prod (.list .str) .bool))))) (.pair (.int .i64) (.pair (.list (.prod (.list .str) .bool)) (.pair (.own 1 9 .str) (.int .i64)))))⟩)], ref05_Least_L14_f⟩
noncomputable def ref05_Least_L7_e : LEnt := ⟨7, ⟨89, 2, [1, 4, 5, 6, 7], (.pair (.box 0 (.pair (.list .str) (.pair .bool (.list (.prod (.list .str) .bool))))) (.pair (.int .i64) (.pair (.list (.prod (.list .str) .bool)) (.pair (.own 1 9 .str) (.int .i64)))))⟩, [((.exit 0), ⟨89, 1, [6], (.own 0 9 .str)⟩), (.ret, ⟨89, 0, [2, 3], (.pair .str .bool)⟩)], ref05_Least_L7_f⟩
noncomputable def ref05_Least_ll : List LEnt := [ref05_Least_L14_e, ref05_Least_L7_e]
theorem ref05_Least_ook : OOK Try.prog tG (otab ref05_Least_lo) := ook_of (l := ref05_Least_lo) (by
    intro sp hsp
    simp only [ref05_Least_lo, List.mem_cons, List.not_mem_nil, or_false] at hsp
    rcases hsp with rfl | rfl | rfl | rfl | rfl | rfl
    · exact ref05_Length_ok
    · exact ref05_part_ok
    · exact ref03_Star_ok
    · exact ref05_after_ok
    · exact ref05_firsts_ok
    · exact ref02_Join_ok)
noncomputable def ref05_Least_c : Code := (Try.f14.body).getD .skip
theorem ref05_Least_L14_B_eq (n : Nat) (st : ref05_Least_L14_e.head.shape.den) : ref05_Least_L14 (n + 1) st = aexecK tT (otabK ref05_Least_lo) noX (itabK tT []) (ltabK ref05_Least_ll) (((loops ref05_Least_c)[1]?).getD .skip) (ref05_Least_L14_e.head.enc st) (lres ref05_Least_L14_e.head ref05_Least_L14_e.exits (ref05_Least_L14 n)) := by kernel_rfl
theorem ref05_Least_L14_lok : LOK Try.prog tG (ltab ref05_Least_ll) (((loops ref05_Least_c)[1]?).getD .skip) :=
  lok_of tT_ok ref05_Least_ook (iok_of tT_ok tP_mixed (l := []) (fun _ h => nomatch h)) tP_mixed (loopsOK_of (by
    have e : loops (((loops ref05_Least_c)[1]?).getD .skip) = [] := by kernel_rfl
    rw [e]
    intro a ha
    cases ha)) ref05_Least_L14_e (F := ref05_Least_L14) (fun st => List.length st.1.1 + List.length st.1.2.2 + Int.natAbs st.2.1 + List.length st.2.2.1 + List.length st.2.2.2.1 + Int.natAbs st.2.2.2.2.1 + ByteArray.size st.2.2.2.2.2.1 + List.length st.2.2.2.2.2.2.1 + Int.natAbs st.2.2.2.2.2.2.2.1 + Int.natAbs st.2.2.2.2.2.2.2.2 + 1000) (fun s => by kernel_rfl) (fun st => by kernel_rfl) (fun st => by kernel_rfl) (fun n st => (ref05_Least_L14_B_eq n st).trans (loopF_eq tT ref05_Least_lo noX [] ref05_Least_ll (((loops ref05_Least_c)[1]?).getD .skip) ref05_Least_L14_e.head ref05_Least_L14_e.exits (ref05_Least_L14 n) st).symm)
theorem ref05_Least_L7_B_eq (n : Nat) (st : ref05_Least_L7_e.head.shape.den) : ref05_Least_L7 (n + 1) st = aexecK tT (otabK ref05_Least_lo) noX (itabK tT []) (ltabK ref05_Least_ll) (((loops ref05_Least_c)[0]?).getD .skip) (ref05_Least_L7_e.head.enc st) (lres ref05_Least_L7_e.head ref05_Least_L7_e.exits (ref05_Least_L7 n)) := by kernel_rfl
theorem ref05_Least_L7_lok : LOK Try.prog tG (ltab ref05_Least_ll) (((loops ref05_Least_c)[0]?).getD .skip) :=
  lok_of tT_ok ref05_Least_ook (iok_of tT_ok tP_mixed (l := []) (fun _ h => nomatch h)) tP_mixed (loopsOK_of (by
    have e : loops (((loops ref05_Least_c)[0]?).getD .skip) = [((loops ref05_Least_c)[1]?).getD .skip] := by kernel_rfl
    rw [e]
    intro a ha
    simp only [List.mem_cons, List.not_mem_nil, or_false] at ha
    rcases ha with rfl
    · exact ref05_Least_L14_lok)) ref05_Least_L7_e (F := ref05_Least_L7) (fun st => List.length st.1.1 + List.length st.1.2.2 + Int.natAbs st.2.1 + List.length st.2.2.1 + List.length st.2.2.2.1 + Int.natAbs st.2.2.2.2 + 1000) (fun s => by kernel_rfl) (fun st => by kernel_rfl) (fun st => by kernel_rfl) (fun n st => (ref05_Least_L7_B_eq n st).trans (loopF_eq tT ref05_Least_lo noX [] ref05_Least_ll (((loops ref05_Least_c)[0]?).getD .skip) ref05_Least_L7_e.head ref05_Least_L7_e.exits (ref05_Least_L7 n) st).symm)
theorem ref05_Least_h (x : ref05_Least_sp.arg.den) : ref05_Least_sp.f x = bodyF tT (otab ref05_Least_lo) noX (itab tT []) (ltab ref05_Least_ll) Try.f14 ref05_Least_sp.arg ref05_Least_sp.res x := by
  rw [bodyF_eq]
  kernel_rfl
theorem ref05_Least_ok : SpecOK Try.prog tG ref05_Least_sp :=
  spec_of_body (c := ref05_Least_c) tT_ok ref05_Least_ook (iok_of tT_ok tP_mixed (l := []) (fun _ h => nomatch h)) tP_mixed (fn := Try.f14) Try.func14 (by kernel_rfl) (by kernel_rfl) (loopsOK_of (by
    have e : loops ref05_Least_c = [((loops ref05_Least_c)[0]?).getD .skip, ((loops ref05_Least_c)[1]?).getD .skip] := by kernel_rfl
    rw [e]
    intro a ha
    simp only [List.mem_cons, List.not_mem_nil, or_false] at ha
    rcases ha with rfl | rfl
    · exact ref05_Least_L7_lok
    · exact ref05_Least_L14_lok)) (fun x => enc_closed x (by kernel_rfl)) (by kernel_rfl) (by kernel_rfl) ref05_Least_h


/-- stockyard/stockyardlaw05.RegionLeasts. -/
noncomputable def law05_RegionLeasts (x : Reg) : Option Bool :=
  bindK (law05_small x) fun r1001 =>
  brK (!r1001)
  (bindK (law05_awake ()) fun r1002 =>
  some r1002)
  (bindK (region_Empty x) fun r1003 =>
  bindK (region_Least x) fun r1004 =>
  bindK (ref05_Check x) fun r1005 =>
  brK (decide ((r1005 : Int) ≠ 0))
  (brK (!r1003.1)
  (brK (decide ((r1003.2 : Int) = r1005))
  (brK (decide (r1004.1 = (ByteArray.mk #[])))
  (brK (!r1004.2.1)
  (brK (decide ((r1004.2.2 : Int) = r1005))
  (bindK (law05_awake ()) fun r1006 =>
  some r1006)
  (some false))
  (some false))
  (some false))
  (some false))
  (some false))
  (bindK (ref05_Least x) fun r1007 =>
  brK (decide ((r1003.2 : Int) = 0))
  (brK (decide ((r1004.2.2 : Int) = 0))
  (brK (r1003.1 == (!r1007.2))
  (brK (decide (r1004.1 = r1007.1))
  (brK (r1004.2.1 == r1007.2)
  (bindK (law05_awake ()) fun r1008 =>
  some r1008)
  (some false))
  (some false))
  (some false))
  (some false))
  (some false)))

noncomputable def law05_RegionLeasts_sp : FSpec := ⟨3, (.agg (.prod (.prod (.list .str) .bool) (.list (.prod (.list .str) .bool)))), .bool, law05_RegionLeasts⟩
noncomputable def law05_RegionLeasts_lo : List FSpec := [law05_small_sp, law05_awake_sp, region_Empty_sp, region_Least_sp, ref05_Check_sp, ref05_Least_sp]
noncomputable def law05_RegionLeasts_ll : List LEnt := []
theorem law05_RegionLeasts_ook : OOK Try.prog tG (otab law05_RegionLeasts_lo) := ook_of (l := law05_RegionLeasts_lo) (by
    intro sp hsp
    simp only [law05_RegionLeasts_lo, List.mem_cons, List.not_mem_nil, or_false] at hsp
    rcases hsp with rfl | rfl | rfl | rfl | rfl | rfl
    · exact law05_small_ok
    · exact law05_awake_ok
    · exact region_Empty_ok
    · exact region_Least_ok
    · exact ref05_Check_ok
    · exact ref05_Least_ok)
noncomputable def law05_RegionLeasts_c : Code := (Try.f3.body).getD .skip
theorem law05_RegionLeasts_h (x : law05_RegionLeasts_sp.arg.den) : law05_RegionLeasts_sp.f x = bodyF tT (otab law05_RegionLeasts_lo) noX (itab tT []) (ltab law05_RegionLeasts_ll) Try.f3 law05_RegionLeasts_sp.arg law05_RegionLeasts_sp.res x := by
  rw [bodyF_eq]
  kernel_rfl
theorem law05_RegionLeasts_ok : SpecOK Try.prog tG law05_RegionLeasts_sp :=
  spec_of_body (c := law05_RegionLeasts_c) tT_ok law05_RegionLeasts_ook (iok_of tT_ok tP_mixed (l := []) (fun _ h => nomatch h)) tP_mixed (fn := Try.f3) Try.func3 (by kernel_rfl) (by kernel_rfl) (loopsOK_of (by
    have e : loops law05_RegionLeasts_c = [] := by kernel_rfl
    rw [e]
    intro a ha
    cases ha)) (fun x => enc_closed x (by kernel_rfl)) (by kernel_rfl) (by kernel_rfl) law05_RegionLeasts_h
end Go.Proofs.Ytcmfkmhmehhkpaa
