/- The functions of the program, printed as plain functions, each with the proof that it is what the program's code computes. -/
import Derived.Test.YtaibnjoobijplaaDoorAc
import Derived.Test.YtaibnjoobijplaaDoorShelf
import Derived.Test.YtaibnjoobijplaaDoorProg
import Derived.KernelRfl
set_option linter.unusedVariables false
set_option maxRecDepth 100000
namespace Go.Proofs.YtaibnjoobijplaaDoor
open Go Go.Ai Go.Proofs


/-- What holds of the program's variables. -/
def tG (w : World) : Prop := ∃ m, w.cell? ⟨0, 0, none⟩ = some (.int .i64 m)

noncomputable def tTab : List (Nat × TI) := [
  (4, ⟨1, 1, .bool false, .bool, .bool⟩),
  (9, ⟨1, 16, .str (ByteArray.mk #[]), .str, .str⟩),
  (22, ⟨1, 24, .snil, .slice 34, (.list (.prod .bool (.prod (.prod (.list .str) .bool) (.prod (.list .str) .bool))))⟩),
  (30, ⟨1, 24, .snil, .slice 9, (.list .str)⟩),
  (32, ⟨2, 32, .agg [.snil, .bool false], .struct [(0, 1, false), (1, 1, false)], (.prod (.list .str) .bool)⟩),
  (34, ⟨5, 72, .agg [.bool false, .snil, .bool false, .snil, .bool false], .struct [(0, 1, false), (1, 2, true), (3, 2, true)], (.prod .bool (.prod (.prod (.list .str) .bool) (.prod (.list .str) .bool)))⟩)]
noncomputable def tT : Nat → Option TI := tabT tTab
theorem tT_ok : TOK Tryd.prog tT := tok_of (by kernel_rfl)
theorem tP_mixed : Tryd.prog.follows .mixedOrders = true := by kernel_rfl

/-- A round of the loop 7 of stockyard/stockyardlaw06.small. -/
noncomputable def law06_small_L7_B (rec : ((List Rul) × Int × (List Rul) × Int × Int × (List ByteArray) × Int × Int) → Option (((List Rul) × Int × (List Rul) × Int × Int) ⊕ (Bool ⊕ Empty))) (st : (List Rul) × Int × (List Rul) × Int × Int × (List ByteArray) × Int × Int) : Option (((List Rul) × Int × (List Rul) × Int × Int) ⊕ (Bool ⊕ Empty)) :=
  brK (decide ((st.2.2.2.2.2.2.2 : Int) < st.2.2.2.2.2.2.1))
  (bindK (listAt st.2.2.2.2.2.1 st.2.2.2.2.2.2.2) fun e2 =>
  brK (decide (((e2.size : Int) : Int) > 60))
  (some (.inr (.inl false)))
  (rec (st.1, st.2.1, st.2.2.1, st.2.2.2.1, st.2.2.2.2.1, st.2.2.2.2.2.1, st.2.2.2.2.2.2.1, (IntKind.wrap .i64 (st.2.2.2.2.2.2.2 + 1)))))
  (some (.inl (st.1, st.2.1, st.2.2.1, st.2.2.2.1, st.2.2.2.2.1)))

noncomputable def law06_small_L7 : Nat → ((List Rul) × Int × (List Rul) × Int × Int × (List ByteArray) × Int × Int) → Option (((List Rul) × Int × (List Rul) × Int × Int) ⊕ (Bool ⊕ Empty))
  | 0, _ => none
  | n + 1, st => law06_small_L7_B (law06_small_L7 n) st

noncomputable def law06_small_L7_f (st : (List Rul) × Int × (List Rul) × Int × Int × (List ByteArray) × Int × Int) : Option (((List Rul) × Int × (List Rul) × Int × Int) ⊕ (Bool ⊕ Empty)) := law06_small_L7 (List.length st.1 + Int.natAbs st.2.1 + List.length st.2.2.1 + Int.natAbs st.2.2.2.1 + Int.natAbs st.2.2.2.2.1 + List.length st.2.2.2.2.2.1 + Int.natAbs st.2.2.2.2.2.2.1 + Int.natAbs st.2.2.2.2.2.2.2 + 1000) st

/-- A round of the loop 3 of stockyard/stockyardlaw06.small. -/
noncomputable def law06_small_L3_B (rec : ((List Rul) × Int × (List Rul) × Int × Int) → Option (((List Rul) × Int) ⊕ (Bool ⊕ Empty))) (st : (List Rul) × Int × (List Rul) × Int × Int) : Option (((List Rul) × Int) ⊕ (Bool ⊕ Empty)) :=
  brK (decide ((st.2.2.2.2 : Int) < st.2.2.2.1))
  (bindK (listAt st.2.2.1 st.2.2.2.2) fun e1 =>
  brK (fits 0 (List.length e1.2.1.1) 16)
  (brK (fits (List.length e1.2.1.1) (List.length e1.2.2.1) 16)
  (bindK (law06_small_L7_f (st.1, (IntKind.wrap .i64 (st.2.1 + (IntKind.wrap .i64 ((e1.2.1.1.length : Int) + (e1.2.2.1.length : Int))))), st.2.2.1, st.2.2.2.1, st.2.2.2.2, (e1.2.1.1 ++ e1.2.2.1), ((e1.2.1.1 ++ e1.2.2.1).length : Int), 0)) fun o3 =>
  sumK o3 (fun y4 =>
  rec (y4.1, y4.2.1, y4.2.2.1, y4.2.2.2.1, (IntKind.wrap .i64 (y4.2.2.2.2 + 1))))
  (fun z5 => sumK z5 (fun y6 =>
  some (.inr (.inl y6)))
  (fun z7 => emptyK z7)))
  (none))
  (none))
  (some (.inl (st.1, st.2.1)))

noncomputable def law06_small_L3 : Nat → ((List Rul) × Int × (List Rul) × Int × Int) → Option (((List Rul) × Int) ⊕ (Bool ⊕ Empty))
  | 0, _ => none
  | n + 1, st => law06_small_L3_B (law06_small_L3 n) st

noncomputable def law06_small_L3_f (st : (List Rul) × Int × (List Rul) × Int × Int) : Option (((List Rul) × Int) ⊕ (Bool ⊕ Empty)) := law06_small_L3 (List.length st.1 + Int.natAbs st.2.1 + List.length st.2.2.1 + Int.natAbs st.2.2.2.1 + Int.natAbs st.2.2.2.2 + 1000) st

/-- stockyard/stockyardlaw06.small. -/
noncomputable def law06_small (x : List Rul) : Option Bool :=
  bindK (law06_small_L3_f (x, 0, x, (x.length : Int), 0)) fun o1001 =>
  sumK o1001 (fun y1002 =>
  brK (decide (((y1002.1.length : Int) : Int) ≤ 20))
  (some (decide ((y1002.2 : Int) ≤ 200)))
  (some false))
  (fun z1003 => sumK z1003 (fun y1004 =>
  some y1004)
  (fun z1005 => emptyK z1005))

noncomputable def law06_small_sp : FSpec := ⟨10, (.list (.prod .bool (.prod (.prod (.list .str) .bool) (.prod (.list .str) .bool)))), .bool, law06_small⟩
noncomputable def law06_small_lo : List FSpec := []
noncomputable def law06_small_L7_e : LEnt := ⟨7, ⟨50, 1, [0, 3, 8, 9, 10, 32, 33, 34], (.pair (.list (.prod .bool (.prod (.prod (.list .str) .bool) (.prod (.list .str) .bool)))) (.pair (.int .i64) (.pair (.list (.prod .bool (.prod (.prod (.list .str) .bool) (.prod (.list .str) .bool)))) (.pair (.int .i64) (.pair (.int .i64) (.pair (.own 0 9 .str) (.pair (.int .i64) (.int .i64))))))))⟩, [((.exit 2), ⟨50, 0, [0, 3, 8, 9, 10], (.pair (.list (.prod .bool (.prod (.prod (.list .str) .bool) (.prod (.list .str) .bool)))) (.pair (.int .i64) (.pair (.list (.prod .bool (.prod (.prod (.list .str) .bool) (.prod (.list .str) .bool)))) (.pair (.int .i64) (.int .i64)))))⟩), (.ret, ⟨50, 0, [2], .bool⟩)], law06_small_L7_f⟩
noncomputable def law06_small_L3_e : LEnt := ⟨3, ⟨50, 0, [0, 3, 8, 9, 10], (.pair (.list (.prod .bool (.prod (.prod (.list .str) .bool) (.prod (.list .str) .bool)))) (.pair (.int .i64) (.pair (.list (.prod .bool (.prod (.prod (.list .str) .bool) (.prod (.list .str) .bool)))) (.pair (.int .i64) (.int .i64)))))⟩, [((.exit 0), ⟨50, 0, [0, 3], (.pair (.list (.prod .bool (.prod (.prod (.list .str) .bool) (.prod (.list .str) .bool)))) (.int .i64))⟩), (.ret, ⟨50, 0, [2], .bool⟩)], law06_small_L3_f⟩
noncomputable def law06_small_ll : List LEnt := [law06_small_L7_e, law06_small_L3_e]
theorem law06_small_ook : OOK Tryd.prog tG (otab law06_small_lo) := ook_of (l := law06_small_lo) (by intro sp hsp; cases hsp)
noncomputable def law06_small_c : Code := (Tryd.f10.body).getD .skip
theorem law06_small_L7_B_eq (n : Nat) (st : law06_small_L7_e.head.shape.den) : law06_small_L7 (n + 1) st = aexecK tT (otabK law06_small_lo) (ltabK law06_small_ll) (((loops law06_small_c)[1]?).getD .skip) (law06_small_L7_e.head.enc st) (lres law06_small_L7_e.head law06_small_L7_e.exits (law06_small_L7 n)) := by kernel_rfl
theorem law06_small_L7_lok : LOK Tryd.prog tG (ltab law06_small_ll) (((loops law06_small_c)[1]?).getD .skip) :=
  lok_of tT_ok law06_small_ook tP_mixed (loopsOK_of (by
    have e : loops (((loops law06_small_c)[1]?).getD .skip) = [] := by kernel_rfl
    rw [e]
    intro a ha
    cases ha)) law06_small_L7_e (F := law06_small_L7) (fun st => List.length st.1 + Int.natAbs st.2.1 + List.length st.2.2.1 + Int.natAbs st.2.2.2.1 + Int.natAbs st.2.2.2.2.1 + List.length st.2.2.2.2.2.1 + Int.natAbs st.2.2.2.2.2.2.1 + Int.natAbs st.2.2.2.2.2.2.2 + 1000) (fun s => by kernel_rfl) (fun st => by kernel_rfl) (fun st => by kernel_rfl) (fun n st => (law06_small_L7_B_eq n st).trans (loopF_eq tT law06_small_lo law06_small_ll (((loops law06_small_c)[1]?).getD .skip) law06_small_L7_e.head law06_small_L7_e.exits (law06_small_L7 n) st).symm)
theorem law06_small_L3_B_eq (n : Nat) (st : law06_small_L3_e.head.shape.den) : law06_small_L3 (n + 1) st = aexecK tT (otabK law06_small_lo) (ltabK law06_small_ll) (((loops law06_small_c)[0]?).getD .skip) (law06_small_L3_e.head.enc st) (lres law06_small_L3_e.head law06_small_L3_e.exits (law06_small_L3 n)) := by kernel_rfl
theorem law06_small_L3_lok : LOK Tryd.prog tG (ltab law06_small_ll) (((loops law06_small_c)[0]?).getD .skip) :=
  lok_of tT_ok law06_small_ook tP_mixed (loopsOK_of (by
    have e : loops (((loops law06_small_c)[0]?).getD .skip) = [((loops law06_small_c)[1]?).getD .skip] := by kernel_rfl
    rw [e]
    intro a ha
    simp only [List.mem_cons, List.not_mem_nil, or_false] at ha
    rcases ha with rfl
    · exact law06_small_L7_lok)) law06_small_L3_e (F := law06_small_L3) (fun st => List.length st.1 + Int.natAbs st.2.1 + List.length st.2.2.1 + Int.natAbs st.2.2.2.1 + Int.natAbs st.2.2.2.2 + 1000) (fun s => by kernel_rfl) (fun st => by kernel_rfl) (fun st => by kernel_rfl) (fun n st => (law06_small_L3_B_eq n st).trans (loopF_eq tT law06_small_lo law06_small_ll (((loops law06_small_c)[0]?).getD .skip) law06_small_L3_e.head law06_small_L3_e.exits (law06_small_L3 n) st).symm)
theorem law06_small_eq (x : law06_small_sp.arg.den) : law06_small x = bodyK tT (otabK law06_small_lo) (ltabK law06_small_ll) Tryd.f10 law06_small_sp.arg law06_small_sp.res x (fun y => y) := by kernel_rfl
theorem law06_small_ok : SpecOK Tryd.prog tG law06_small_sp :=
  spec_of_body (c := law06_small_c) tT_ok law06_small_ook tP_mixed (fn := Tryd.f10) Tryd.func10 (by kernel_rfl) (by kernel_rfl) (loopsOK_of (by
    have e : loops law06_small_c = [((loops law06_small_c)[0]?).getD .skip, ((loops law06_small_c)[1]?).getD .skip] := by kernel_rfl
    rw [e]
    intro a ha
    simp only [List.mem_cons, List.not_mem_nil, or_false] at ha
    rcases ha with rfl | rfl
    · exact law06_small_L3_lok
    · exact law06_small_L7_lok)) (fun x => enc_closed x (by kernel_rfl)) (by kernel_rfl) (by kernel_rfl) (fun x => (law06_small_eq x).trans (bodyF_eq tT law06_small_lo law06_small_ll Tryd.f10 law06_small_sp.arg law06_small_sp.res x).symm)


/-- internal/stringslite.HasPrefix. -/
noncomputable def stringslite_HasPrefix (x : ByteArray × ByteArray) : Option Bool :=
  brK (decide (((x.1.size : Int) : Int) ≥ (x.2.size : Int)))
  (brK (decide (0 ≤ (0 : Int) ∧ (0 : Int) ≤ (x.2.size : Int) ∧ (x.2.size : Int) ≤ (x.1.size : Int)))
  (some (decide ((ByteArray.extract x.1 (Int.toNat 0) (Int.toNat (x.2.size : Int))) = x.2)))
  (none))
  (some false)

noncomputable def stringslite_HasPrefix_sp : FSpec := ⟨78, (.pair .str .str), .bool, stringslite_HasPrefix⟩
noncomputable def stringslite_HasPrefix_lo : List FSpec := []
noncomputable def stringslite_HasPrefix_ll : List LEnt := []
theorem stringslite_HasPrefix_ook : OOK Tryd.prog tG (otab stringslite_HasPrefix_lo) := ook_of (l := stringslite_HasPrefix_lo) (by intro sp hsp; cases hsp)
noncomputable def stringslite_HasPrefix_c : Code := (Tryd.f78.body).getD .skip
theorem stringslite_HasPrefix_eq (x : stringslite_HasPrefix_sp.arg.den) : stringslite_HasPrefix x = bodyK tT (otabK stringslite_HasPrefix_lo) (ltabK stringslite_HasPrefix_ll) Tryd.f78 stringslite_HasPrefix_sp.arg stringslite_HasPrefix_sp.res x (fun y => y) := by kernel_rfl
theorem stringslite_HasPrefix_ok : SpecOK Tryd.prog tG stringslite_HasPrefix_sp :=
  spec_of_body (c := stringslite_HasPrefix_c) tT_ok stringslite_HasPrefix_ook tP_mixed (fn := Tryd.f78) Tryd.func78 (by kernel_rfl) (by kernel_rfl) (loopsOK_of (by
    have e : loops stringslite_HasPrefix_c = [] := by kernel_rfl
    rw [e]
    intro a ha
    cases ha)) (fun x => enc_closed x (by kernel_rfl)) (by kernel_rfl) (by kernel_rfl) (fun x => (stringslite_HasPrefix_eq x).trans (bodyF_eq tT stringslite_HasPrefix_lo stringslite_HasPrefix_ll Tryd.f78 stringslite_HasPrefix_sp.arg stringslite_HasPrefix_sp.res x).symm)


/-- internal/stringslite.CutPrefix. -/
noncomputable def stringslite_CutPrefix (x : ByteArray × ByteArray) : Option (ByteArray × Bool) :=
  bindK (stringslite_HasPrefix x) fun r1001 =>
  brK (!r1001)
  (some (x.1, false))
  (brK (decide (0 ≤ ((x.2.size : Int) : Int) ∧ ((x.2.size : Int) : Int) ≤ (x.1.size : Int) ∧ (x.1.size : Int) ≤ (x.1.size : Int)))
  (some ((ByteArray.extract x.1 (Int.toNat (x.2.size : Int)) (Int.toNat (x.1.size : Int))), true))
  (none))

noncomputable def stringslite_CutPrefix_sp : FSpec := ⟨77, (.pair .str .str), (.tup (.pair .str .bool)), stringslite_CutPrefix⟩
noncomputable def stringslite_CutPrefix_lo : List FSpec := [stringslite_HasPrefix_sp]
noncomputable def stringslite_CutPrefix_ll : List LEnt := []
theorem stringslite_CutPrefix_ook : OOK Tryd.prog tG (otab stringslite_CutPrefix_lo) := ook_of (l := stringslite_CutPrefix_lo) (by
    intro sp hsp
    simp only [stringslite_CutPrefix_lo, List.mem_cons, List.not_mem_nil, or_false] at hsp
    rcases hsp with rfl
    · exact stringslite_HasPrefix_ok)
noncomputable def stringslite_CutPrefix_c : Code := (Tryd.f77.body).getD .skip
theorem stringslite_CutPrefix_eq (x : stringslite_CutPrefix_sp.arg.den) : stringslite_CutPrefix x = bodyK tT (otabK stringslite_CutPrefix_lo) (ltabK stringslite_CutPrefix_ll) Tryd.f77 stringslite_CutPrefix_sp.arg stringslite_CutPrefix_sp.res x (fun y => y) := by kernel_rfl
theorem stringslite_CutPrefix_ok : SpecOK Tryd.prog tG stringslite_CutPrefix_sp :=
  spec_of_body (c := stringslite_CutPrefix_c) tT_ok stringslite_CutPrefix_ook tP_mixed (fn := Tryd.f77) Tryd.func77 (by kernel_rfl) (by kernel_rfl) (loopsOK_of (by
    have e : loops stringslite_CutPrefix_c = [] := by kernel_rfl
    rw [e]
    intro a ha
    cases ha)) (fun x => enc_closed x (by kernel_rfl)) (by kernel_rfl) (by kernel_rfl) (fun x => (stringslite_CutPrefix_eq x).trans (bodyF_eq tT stringslite_CutPrefix_lo stringslite_CutPrefix_ll Tryd.f77 stringslite_CutPrefix_sp.arg stringslite_CutPrefix_sp.res x).symm)


/-- strings.CutPrefix. -/
noncomputable def strings_CutPrefix (x : ByteArray × ByteArray) : Option (ByteArray × Bool) :=
  bindK (stringslite_CutPrefix x) fun r1001 =>
  some r1001

noncomputable def strings_CutPrefix_sp : FSpec := ⟨66, (.pair .str .str), (.tup (.pair .str .bool)), strings_CutPrefix⟩
noncomputable def strings_CutPrefix_lo : List FSpec := [stringslite_CutPrefix_sp]
noncomputable def strings_CutPrefix_ll : List LEnt := []
theorem strings_CutPrefix_ook : OOK Tryd.prog tG (otab strings_CutPrefix_lo) := ook_of (l := strings_CutPrefix_lo) (by
    intro sp hsp
    simp only [strings_CutPrefix_lo, List.mem_cons, List.not_mem_nil, or_false] at hsp
    rcases hsp with rfl
    · exact stringslite_CutPrefix_ok)
noncomputable def strings_CutPrefix_c : Code := (Tryd.f66.body).getD .skip
theorem strings_CutPrefix_eq (x : strings_CutPrefix_sp.arg.den) : strings_CutPrefix x = bodyK tT (otabK strings_CutPrefix_lo) (ltabK strings_CutPrefix_ll) Tryd.f66 strings_CutPrefix_sp.arg strings_CutPrefix_sp.res x (fun y => y) := by kernel_rfl
theorem strings_CutPrefix_ok : SpecOK Tryd.prog tG strings_CutPrefix_sp :=
  spec_of_body (c := strings_CutPrefix_c) tT_ok strings_CutPrefix_ook tP_mixed (fn := Tryd.f66) Tryd.func66 (by kernel_rfl) (by kernel_rfl) (loopsOK_of (by
    have e : loops strings_CutPrefix_c = [] := by kernel_rfl
    rw [e]
    intro a ha
    cases ha)) (fun x => enc_closed x (by kernel_rfl)) (by kernel_rfl) (by kernel_rfl) (fun x => (strings_CutPrefix_eq x).trans (bodyF_eq tT strings_CutPrefix_lo strings_CutPrefix_ll Tryd.f66 strings_CutPrefix_sp.arg strings_CutPrefix_sp.res x).symm)


/-- stockyard/path.allowed. -/
noncomputable def path_allowed (x : Int) : Option Bool :=
  brK (decide ((x : Int) ≥ 65))
  (brK (decide ((x : Int) ≤ 90))
  (some true)
  (brK (decide ((x : Int) ≥ 97))
  (brK (decide ((x : Int) ≤ 122))
  (some true)
  (brK (decide ((x : Int) ≥ 48))
  (brK (decide ((x : Int) ≤ 57))
  (some true)
  (brK (decide ((x : Int) = 95))
  (some true)
  (brK (decide ((x : Int) = 46))
  (some true)
  (brK (decide ((x : Int) = 43))
  (some true)
  (some (decide ((x : Int) = 45)))))))
  (brK (decide ((x : Int) = 95))
  (some true)
  (brK (decide ((x : Int) = 46))
  (some true)
  (brK (decide ((x : Int) = 43))
  (some true)
  (some (decide ((x : Int) = 45))))))))
  (brK (decide ((x : Int) ≥ 48))
  (brK (decide ((x : Int) ≤ 57))
  (some true)
  (brK (decide ((x : Int) = 95))
  (some true)
  (brK (decide ((x : Int) = 46))
  (some true)
  (brK (decide ((x : Int) = 43))
  (some true)
  (some (decide ((x : Int) = 45)))))))
  (brK (decide ((x : Int) = 95))
  (some true)
  (brK (decide ((x : Int) = 46))
  (some true)
  (brK (decide ((x : Int) = 43))
  (some true)
  (some (decide ((x : Int) = 45)))))))))
  (brK (decide ((x : Int) ≥ 97))
  (brK (decide ((x : Int) ≤ 122))
  (some true)
  (brK (decide ((x : Int) ≥ 48))
  (brK (decide ((x : Int) ≤ 57))
  (some true)
  (brK (decide ((x : Int) = 95))
  (some true)
  (brK (decide ((x : Int) = 46))
  (some true)
  (brK (decide ((x : Int) = 43))
  (some true)
  (some (decide ((x : Int) = 45)))))))
  (brK (decide ((x : Int) = 95))
  (some true)
  (brK (decide ((x : Int) = 46))
  (some true)
  (brK (decide ((x : Int) = 43))
  (some true)
  (some (decide ((x : Int) = 45))))))))
  (brK (decide ((x : Int) ≥ 48))
  (brK (decide ((x : Int) ≤ 57))
  (some true)
  (brK (decide ((x : Int) = 95))
  (some true)
  (brK (decide ((x : Int) = 46))
  (some true)
  (brK (decide ((x : Int) = 43))
  (some true)
  (some (decide ((x : Int) = 45)))))))
  (brK (decide ((x : Int) = 95))
  (some true)
  (brK (decide ((x : Int) = 46))
  (some true)
  (brK (decide ((x : Int) = 43))
  (some true)
  (some (decide ((x : Int) = 45))))))))

noncomputable def path_allowed_sp : FSpec := ⟨68, (.int .u8), .bool, path_allowed⟩
noncomputable def path_allowed_lo : List FSpec := []
noncomputable def path_allowed_ll : List LEnt := []
theorem path_allowed_ook : OOK Tryd.prog tG (otab path_allowed_lo) := ook_of (l := path_allowed_lo) (by intro sp hsp; cases hsp)
noncomputable def path_allowed_c : Code := (Tryd.f68.body).getD .skip
theorem path_allowed_eq (x : path_allowed_sp.arg.den) : path_allowed x = bodyK tT (otabK path_allowed_lo) (ltabK path_allowed_ll) Tryd.f68 path_allowed_sp.arg path_allowed_sp.res x (fun y => y) := by kernel_rfl
theorem path_allowed_ok : SpecOK Tryd.prog tG path_allowed_sp :=
  spec_of_body (c := path_allowed_c) tT_ok path_allowed_ook tP_mixed (fn := Tryd.f68) Tryd.func68 (by kernel_rfl) (by kernel_rfl) (loopsOK_of (by
    have e : loops path_allowed_c = [] := by kernel_rfl
    rw [e]
    intro a ha
    cases ha)) (fun x => enc_closed x (by kernel_rfl)) (by kernel_rfl) (by kernel_rfl) (fun x => (path_allowed_eq x).trans (bodyF_eq tT path_allowed_lo path_allowed_ll Tryd.f68 path_allowed_sp.arg path_allowed_sp.res x).symm)

/-- A round of the loop 4 of stockyard/path.Component. -/
noncomputable def path_Component_L4_B (rec : (ByteArray × Int × Int) → Option (Unit ⊕ (Bool ⊕ Empty))) (st : ByteArray × Int × Int) : Option (Unit ⊕ (Bool ⊕ Empty)) :=
  brK (decide ((st.2.2 : Int) < st.2.1))
  (bindK (strAt st.1 st.2.2) fun c2 =>
  bindK (path_allowed c2) fun r3 =>
  brK (!r3)
  (some (.inr (.inl false)))
  (rec (st.1, st.2.1, (IntKind.wrap .i64 (st.2.2 + 1)))))
  (some (.inl ()))

noncomputable def path_Component_L4 : Nat → (ByteArray × Int × Int) → Option (Unit ⊕ (Bool ⊕ Empty))
  | 0, _ => none
  | n + 1, st => path_Component_L4_B (path_Component_L4 n) st

noncomputable def path_Component_L4_f (st : ByteArray × Int × Int) : Option (Unit ⊕ (Bool ⊕ Empty)) := path_Component_L4 (ByteArray.size st.1 + Int.natAbs st.2.1 + Int.natAbs st.2.2 + 1000) st

/-- stockyard/path.Component. -/
noncomputable def path_Component (x : ByteArray) : Option Bool :=
  brK (decide (x = (ByteArray.mk #[])))
  (some false)
  (bindK (strAt x 0) fun c1001 =>
  brK (decide ((c1001 : Int) = 46))
  (some false)
  (bindK (path_Component_L4_f (x, (x.size : Int), 0)) fun o1002 =>
  sumK o1002 (fun y1003 =>
  some true)
  (fun z1004 => sumK z1004 (fun y1005 =>
  some y1005)
  (fun z1006 => emptyK z1006))))

noncomputable def path_Component_sp : FSpec := ⟨57, .str, .bool, path_Component⟩
noncomputable def path_Component_lo : List FSpec := [path_allowed_sp]
noncomputable def path_Component_L4_e : LEnt := ⟨4, ⟨22, 0, [0, 12, 13], (.pair .str (.pair (.int .i64) (.int .i64)))⟩, [((.exit 0), ⟨22, 0, [], .nil⟩), (.ret, ⟨22, 0, [2], .bool⟩)], path_Component_L4_f⟩
noncomputable def path_Component_ll : List LEnt := [path_Component_L4_e]
theorem path_Component_ook : OOK Tryd.prog tG (otab path_Component_lo) := ook_of (l := path_Component_lo) (by
    intro sp hsp
    simp only [path_Component_lo, List.mem_cons, List.not_mem_nil, or_false] at hsp
    rcases hsp with rfl
    · exact path_allowed_ok)
noncomputable def path_Component_c : Code := (Tryd.f57.body).getD .skip
theorem path_Component_L4_B_eq (n : Nat) (st : path_Component_L4_e.head.shape.den) : path_Component_L4 (n + 1) st = aexecK tT (otabK path_Component_lo) (ltabK path_Component_ll) (((loops path_Component_c)[0]?).getD .skip) (path_Component_L4_e.head.enc st) (lres path_Component_L4_e.head path_Component_L4_e.exits (path_Component_L4 n)) := by kernel_rfl
theorem path_Component_L4_lok : LOK Tryd.prog tG (ltab path_Component_ll) (((loops path_Component_c)[0]?).getD .skip) :=
  lok_of tT_ok path_Component_ook tP_mixed (loopsOK_of (by
    have e : loops (((loops path_Component_c)[0]?).getD .skip) = [] := by kernel_rfl
    rw [e]
    intro a ha
    cases ha)) path_Component_L4_e (F := path_Component_L4) (fun st => ByteArray.size st.1 + Int.natAbs st.2.1 + Int.natAbs st.2.2 + 1000) (fun s => by kernel_rfl) (fun st => by kernel_rfl) (fun st => by kernel_rfl) (fun n st => (path_Component_L4_B_eq n st).trans (loopF_eq tT path_Component_lo path_Component_ll (((loops path_Component_c)[0]?).getD .skip) path_Component_L4_e.head path_Component_L4_e.exits (path_Component_L4 n) st).symm)
theorem path_Component_eq (x : path_Component_sp.arg.den) : path_Component x = bodyK tT (otabK path_Component_lo) (ltabK path_Component_ll) Tryd.f57 path_Component_sp.arg path_Component_sp.res x (fun y => y) := by kernel_rfl
theorem path_Component_ok : SpecOK Tryd.prog tG path_Component_sp :=
  spec_of_body (c := path_Component_c) tT_ok path_Component_ook tP_mixed (fn := Tryd.f57) Tryd.func57 (by kernel_rfl) (by kernel_rfl) (loopsOK_of (by
    have e : loops path_Component_c = [((loops path_Component_c)[0]?).getD .skip] := by kernel_rfl
    rw [e]
    intro a ha
    simp only [List.mem_cons, List.not_mem_nil, or_false] at ha
    rcases ha with rfl
    · exact path_Component_L4_lok)) (fun x => enc_closed x (by kernel_rfl)) (by kernel_rfl) (by kernel_rfl) (fun x => (path_Component_eq x).trans (bodyF_eq tT path_Component_lo path_Component_ll Tryd.f57 path_Component_sp.arg path_Component_sp.res x).symm)


/-- stockyard/pattern.formOf. -/
noncomputable def pattern_formOf (x : ByteArray) : Option (Int × ByteArray) :=
  bindK (strings_CutPrefix (x, (ByteArray.mk #[42]))) fun r1001 =>
  brK r1001.2
  (brK (decide (ByteArray.size (ByteArray.mk #[97]) + ByteArray.size r1001.1 ≤ 140737488355328))
  (bindK (path_Component ((ByteArray.mk #[97]) ++ r1001.1)) fun r1002 =>
  brK r1002
  (some (2, r1001.1))
  (some (0, (ByteArray.mk #[]))))
  (none))
  (bindK (path_Component x) fun r1003 =>
  brK r1003
  (some (1, (ByteArray.mk #[])))
  (some (0, (ByteArray.mk #[]))))

noncomputable def pattern_formOf_sp : FSpec := ⟨53, .str, (.tup (.pair (.int .i64) .str)), pattern_formOf⟩
noncomputable def pattern_formOf_lo : List FSpec := [strings_CutPrefix_sp, path_Component_sp]
noncomputable def pattern_formOf_ll : List LEnt := []
theorem pattern_formOf_ook : OOK Tryd.prog tG (otab pattern_formOf_lo) := ook_of (l := pattern_formOf_lo) (by
    intro sp hsp
    simp only [pattern_formOf_lo, List.mem_cons, List.not_mem_nil, or_false] at hsp
    rcases hsp with rfl | rfl
    · exact strings_CutPrefix_ok
    · exact path_Component_ok)
noncomputable def pattern_formOf_c : Code := (Tryd.f53.body).getD .skip
theorem pattern_formOf_eq (x : pattern_formOf_sp.arg.den) : pattern_formOf x = bodyK tT (otabK pattern_formOf_lo) (ltabK pattern_formOf_ll) Tryd.f53 pattern_formOf_sp.arg pattern_formOf_sp.res x (fun y => y) := by kernel_rfl
theorem pattern_formOf_ok : SpecOK Tryd.prog tG pattern_formOf_sp :=
  spec_of_body (c := pattern_formOf_c) tT_ok pattern_formOf_ook tP_mixed (fn := Tryd.f53) Tryd.func53 (by kernel_rfl) (by kernel_rfl) (loopsOK_of (by
    have e : loops pattern_formOf_c = [] := by kernel_rfl
    rw [e]
    intro a ha
    cases ha)) (fun x => enc_closed x (by kernel_rfl)) (by kernel_rfl) (by kernel_rfl) (fun x => (pattern_formOf_eq x).trans (bodyF_eq tT pattern_formOf_lo pattern_formOf_ll Tryd.f53 pattern_formOf_sp.arg pattern_formOf_sp.res x).symm)

/-- A round of the loop 4 of stockyard/pattern.shape. -/
noncomputable def pattern_shape_L4_B (rec : ((List ByteArray) × Int × Int) → Option (Unit ⊕ (Bool ⊕ Empty))) (st : (List ByteArray) × Int × Int) : Option (Unit ⊕ (Bool ⊕ Empty)) :=
  brK (decide ((st.2.2 : Int) < st.2.1))
  (bindK (listAt st.1 st.2.2) fun e1 =>
  bindK (pattern_formOf e1) fun r2 =>
  brK (decide ((r2.1 : Int) = 0))
  (some (.inr (.inl false)))
  (brK (decide ((st.2.2 : Int) = 0))
  (brK (decide ((r2.1 : Int) ≠ 1))
  (some (.inr (.inl false)))
  (rec (st.1, st.2.1, (IntKind.wrap .i64 (st.2.2 + 1)))))
  (rec (st.1, st.2.1, (IntKind.wrap .i64 (st.2.2 + 1))))))
  (some (.inl ()))

noncomputable def pattern_shape_L4 : Nat → ((List ByteArray) × Int × Int) → Option (Unit ⊕ (Bool ⊕ Empty))
  | 0, _ => none
  | n + 1, st => pattern_shape_L4_B (pattern_shape_L4 n) st

noncomputable def pattern_shape_L4_f (st : (List ByteArray) × Int × Int) : Option (Unit ⊕ (Bool ⊕ Empty)) := pattern_shape_L4 (List.length st.1 + Int.natAbs st.2.1 + Int.natAbs st.2.2 + 1000) st

/-- stockyard/pattern.shape. -/
noncomputable def pattern_shape (x : Pat) : Option Bool :=
  brK (decide (((x.1.length : Int) : Int) = 0))
  (some false)
  (brK (decide (((x.1.length : Int) : Int) = 1))
  (brK (!x.2)
  (some false)
  (bindK (pattern_shape_L4_f (x.1, (x.1.length : Int), 0)) fun o1001 =>
  sumK o1001 (fun y1002 =>
  some true)
  (fun z1003 => sumK z1003 (fun y1004 =>
  some y1004)
  (fun z1005 => emptyK z1005))))
  (bindK (pattern_shape_L4_f (x.1, (x.1.length : Int), 0)) fun o1006 =>
  sumK o1006 (fun y1007 =>
  some true)
  (fun z1008 => sumK z1008 (fun y1009 =>
  some y1009)
  (fun z1010 => emptyK z1010))))

noncomputable def pattern_shape_sp : FSpec := ⟨52, (.agg (.prod (.list .str) .bool)), .bool, pattern_shape⟩
noncomputable def pattern_shape_lo : List FSpec := [pattern_formOf_sp]
noncomputable def pattern_shape_L4_e : LEnt := ⟨4, ⟨46, 0, [23, 24, 25], (.pair (.list .str) (.pair (.int .i64) (.int .i64)))⟩, [((.exit 0), ⟨46, 0, [], .nil⟩), (.ret, ⟨46, 0, [2], .bool⟩)], pattern_shape_L4_f⟩
noncomputable def pattern_shape_ll : List LEnt := [pattern_shape_L4_e]
theorem pattern_shape_ook : OOK Tryd.prog tG (otab pattern_shape_lo) := ook_of (l := pattern_shape_lo) (by
    intro sp hsp
    simp only [pattern_shape_lo, List.mem_cons, List.not_mem_nil, or_false] at hsp
    rcases hsp with rfl
    · exact pattern_formOf_ok)
noncomputable def pattern_shape_c : Code := (Tryd.f52.body).getD .skip
theorem pattern_shape_L4_B_eq (n : Nat) (st : pattern_shape_L4_e.head.shape.den) : pattern_shape_L4 (n + 1) st = aexecK tT (otabK pattern_shape_lo) (ltabK pattern_shape_ll) (((loops pattern_shape_c)[0]?).getD .skip) (pattern_shape_L4_e.head.enc st) (lres pattern_shape_L4_e.head pattern_shape_L4_e.exits (pattern_shape_L4 n)) := by kernel_rfl
theorem pattern_shape_L4_lok : LOK Tryd.prog tG (ltab pattern_shape_ll) (((loops pattern_shape_c)[0]?).getD .skip) :=
  lok_of tT_ok pattern_shape_ook tP_mixed (loopsOK_of (by
    have e : loops (((loops pattern_shape_c)[0]?).getD .skip) = [] := by kernel_rfl
    rw [e]
    intro a ha
    cases ha)) pattern_shape_L4_e (F := pattern_shape_L4) (fun st => List.length st.1 + Int.natAbs st.2.1 + Int.natAbs st.2.2 + 1000) (fun s => by kernel_rfl) (fun st => by kernel_rfl) (fun st => by kernel_rfl) (fun n st => (pattern_shape_L4_B_eq n st).trans (loopF_eq tT pattern_shape_lo pattern_shape_ll (((loops pattern_shape_c)[0]?).getD .skip) pattern_shape_L4_e.head pattern_shape_L4_e.exits (pattern_shape_L4 n) st).symm)
theorem pattern_shape_eq (x : pattern_shape_sp.arg.den) : pattern_shape x = bodyK tT (otabK pattern_shape_lo) (ltabK pattern_shape_ll) Tryd.f52 pattern_shape_sp.arg pattern_shape_sp.res x (fun y => y) := by kernel_rfl
theorem pattern_shape_ok : SpecOK Tryd.prog tG pattern_shape_sp :=
  spec_of_body (c := pattern_shape_c) tT_ok pattern_shape_ook tP_mixed (fn := Tryd.f52) Tryd.func52 (by kernel_rfl) (by kernel_rfl) (loopsOK_of (by
    have e : loops pattern_shape_c = [((loops pattern_shape_c)[0]?).getD .skip] := by kernel_rfl
    rw [e]
    intro a ha
    simp only [List.mem_cons, List.not_mem_nil, or_false] at ha
    rcases ha with rfl
    · exact pattern_shape_L4_lok)) (fun x => enc_closed x (by kernel_rfl)) (by kernel_rfl) (by kernel_rfl) (fun x => (pattern_shape_eq x).trans (bodyF_eq tT pattern_shape_lo pattern_shape_ll Tryd.f52 pattern_shape_sp.arg pattern_shape_sp.res x).symm)


/-- stockyard/pattern.Check. -/
noncomputable def pattern_Check (x : Pat) : Option Int :=
  bindK (pattern_shape x) fun r1001 =>
  brK (!r1001)
  (some 30)
  (brK (decide (((x.1.length : Int) : Int) > 12))
  (some 31)
  (some 0))

noncomputable def pattern_Check_sp : FSpec := ⟨35, (.agg (.prod (.list .str) .bool)), (.int .i64), pattern_Check⟩
noncomputable def pattern_Check_lo : List FSpec := [pattern_shape_sp]
noncomputable def pattern_Check_ll : List LEnt := []
theorem pattern_Check_ook : OOK Tryd.prog tG (otab pattern_Check_lo) := ook_of (l := pattern_Check_lo) (by
    intro sp hsp
    simp only [pattern_Check_lo, List.mem_cons, List.not_mem_nil, or_false] at hsp
    rcases hsp with rfl
    · exact pattern_shape_ok)
noncomputable def pattern_Check_c : Code := (Tryd.f35.body).getD .skip
theorem pattern_Check_eq (x : pattern_Check_sp.arg.den) : pattern_Check x = bodyK tT (otabK pattern_Check_lo) (ltabK pattern_Check_ll) Tryd.f35 pattern_Check_sp.arg pattern_Check_sp.res x (fun y => y) := by kernel_rfl
theorem pattern_Check_ok : SpecOK Tryd.prog tG pattern_Check_sp :=
  spec_of_body (c := pattern_Check_c) tT_ok pattern_Check_ook tP_mixed (fn := Tryd.f35) Tryd.func35 (by kernel_rfl) (by kernel_rfl) (loopsOK_of (by
    have e : loops pattern_Check_c = [] := by kernel_rfl
    rw [e]
    intro a ha
    cases ha)) (fun x => enc_closed x (by kernel_rfl)) (by kernel_rfl) (by kernel_rfl) (fun x => (pattern_Check_eq x).trans (bodyF_eq tT pattern_Check_lo pattern_Check_ll Tryd.f35 pattern_Check_sp.arg pattern_Check_sp.res x).symm)

/-- A round of the loop 5 of stockyard/pattern.Kinds. -/
noncomputable def pattern_Kinds_L5_B (rec : (((List ByteArray) × Bool) × Int × (List ByteArray) × Int × Int) → Option ((((List ByteArray) × Bool) × Int) ⊕ Empty)) (st : ((List ByteArray) × Bool) × Int × (List ByteArray) × Int × Int) : Option ((((List ByteArray) × Bool) × Int) ⊕ Empty) :=
  brK (decide ((st.2.2.2.2 : Int) < st.2.2.2.1))
  (bindK (listAt st.2.2.1 st.2.2.2.2) fun e2 =>
  bindK (pattern_formOf e2) fun r3 =>
  brK (decide ((r3.1 : Int) = 2))
  (rec (st.1, (IntKind.wrap .i64 (st.2.1 + 1)), st.2.2.1, st.2.2.2.1, (IntKind.wrap .i64 (st.2.2.2.2 + 1))))
  (rec (st.1, st.2.1, st.2.2.1, st.2.2.2.1, (IntKind.wrap .i64 (st.2.2.2.2 + 1)))))
  (some (.inl (st.1, st.2.1)))

noncomputable def pattern_Kinds_L5 : Nat → (((List ByteArray) × Bool) × Int × (List ByteArray) × Int × Int) → Option ((((List ByteArray) × Bool) × Int) ⊕ Empty)
  | 0, _ => none
  | n + 1, st => pattern_Kinds_L5_B (pattern_Kinds_L5 n) st

noncomputable def pattern_Kinds_L5_f (st : ((List ByteArray) × Bool) × Int × (List ByteArray) × Int × Int) : Option ((((List ByteArray) × Bool) × Int) ⊕ Empty) := pattern_Kinds_L5 (List.length st.1.1 + Int.natAbs st.2.1 + List.length st.2.2.1 + Int.natAbs st.2.2.2.1 + Int.natAbs st.2.2.2.2 + 1000) st

/-- stockyard/pattern.Kinds. -/
noncomputable def pattern_Kinds (x : Pat) : Option (Int × Bool × Int) :=
  bindK (pattern_Check x) fun r1001 =>
  brK (decide ((r1001 : Int) ≠ 0))
  (some (0, false, r1001))
  (bindK (pattern_Kinds_L5_f (x, 0, x.1, (x.1.length : Int), 0)) fun o1002 =>
  sumK o1002 (fun y1003 =>
  some (y1003.2, y1003.1.2, 0))
  (fun z1004 => emptyK z1004))

noncomputable def pattern_Kinds_sp : FSpec := ⟨36, (.agg (.prod (.list .str) .bool)), (.tup (.pair (.int .i64) (.pair .bool (.int .i64)))), pattern_Kinds⟩
noncomputable def pattern_Kinds_lo : List FSpec := [pattern_Check_sp, pattern_formOf_sp]
noncomputable def pattern_Kinds_L5_e : LEnt := ⟨5, ⟨35, 1, [1, 2, 16, 17, 18], (.pair (.box 0 (.pair (.list .str) .bool)) (.pair (.int .i64) (.pair (.list .str) (.pair (.int .i64) (.int .i64)))))⟩, [((.exit 0), ⟨35, 1, [1, 2], (.pair (.box 0 (.pair (.list .str) .bool)) (.int .i64))⟩)], pattern_Kinds_L5_f⟩
noncomputable def pattern_Kinds_ll : List LEnt := [pattern_Kinds_L5_e]
theorem pattern_Kinds_ook : OOK Tryd.prog tG (otab pattern_Kinds_lo) := ook_of (l := pattern_Kinds_lo) (by
    intro sp hsp
    simp only [pattern_Kinds_lo, List.mem_cons, List.not_mem_nil, or_false] at hsp
    rcases hsp with rfl | rfl
    · exact pattern_Check_ok
    · exact pattern_formOf_ok)
noncomputable def pattern_Kinds_c : Code := (Tryd.f36.body).getD .skip
theorem pattern_Kinds_L5_B_eq (n : Nat) (st : pattern_Kinds_L5_e.head.shape.den) : pattern_Kinds_L5 (n + 1) st = aexecK tT (otabK pattern_Kinds_lo) (ltabK pattern_Kinds_ll) (((loops pattern_Kinds_c)[0]?).getD .skip) (pattern_Kinds_L5_e.head.enc st) (lres pattern_Kinds_L5_e.head pattern_Kinds_L5_e.exits (pattern_Kinds_L5 n)) := by kernel_rfl
theorem pattern_Kinds_L5_lok : LOK Tryd.prog tG (ltab pattern_Kinds_ll) (((loops pattern_Kinds_c)[0]?).getD .skip) :=
  lok_of tT_ok pattern_Kinds_ook tP_mixed (loopsOK_of (by
    have e : loops (((loops pattern_Kinds_c)[0]?).getD .skip) = [] := by kernel_rfl
    rw [e]
    intro a ha
    cases ha)) pattern_Kinds_L5_e (F := pattern_Kinds_L5) (fun st => List.length st.1.1 + Int.natAbs st.2.1 + List.length st.2.2.1 + Int.natAbs st.2.2.2.1 + Int.natAbs st.2.2.2.2 + 1000) (fun s => by kernel_rfl) (fun st => by kernel_rfl) (fun st => by kernel_rfl) (fun n st => (pattern_Kinds_L5_B_eq n st).trans (loopF_eq tT pattern_Kinds_lo pattern_Kinds_ll (((loops pattern_Kinds_c)[0]?).getD .skip) pattern_Kinds_L5_e.head pattern_Kinds_L5_e.exits (pattern_Kinds_L5 n) st).symm)
theorem pattern_Kinds_eq (x : pattern_Kinds_sp.arg.den) : pattern_Kinds x = bodyK tT (otabK pattern_Kinds_lo) (ltabK pattern_Kinds_ll) Tryd.f36 pattern_Kinds_sp.arg pattern_Kinds_sp.res x (fun y => y) := by kernel_rfl
theorem pattern_Kinds_ok : SpecOK Tryd.prog tG pattern_Kinds_sp :=
  spec_of_body (c := pattern_Kinds_c) tT_ok pattern_Kinds_ook tP_mixed (fn := Tryd.f36) Tryd.func36 (by kernel_rfl) (by kernel_rfl) (loopsOK_of (by
    have e : loops pattern_Kinds_c = [((loops pattern_Kinds_c)[0]?).getD .skip] := by kernel_rfl
    rw [e]
    intro a ha
    simp only [List.mem_cons, List.not_mem_nil, or_false] at ha
    rcases ha with rfl
    · exact pattern_Kinds_L5_lok)) (fun x => enc_closed x (by kernel_rfl)) (by kernel_rfl) (by kernel_rfl) (fun x => (pattern_Kinds_eq x).trans (bodyF_eq tT pattern_Kinds_lo pattern_Kinds_ll Tryd.f36 pattern_Kinds_sp.arg pattern_Kinds_sp.res x).symm)


/-- stockyard/rule.Check. -/
noncomputable def rule_Check (x : Rul) : Option Int :=
  bindK (pattern_Check x.2.1) fun r1001 =>
  brK (decide ((r1001 : Int) ≠ 0))
  (some 40)
  (bindK (pattern_Check x.2.2) fun r1002 =>
  brK (decide ((r1002 : Int) ≠ 0))
  (some 41)
  (bindK (pattern_Kinds x.2.1) fun r1003 =>
  bindK (pattern_Kinds x.2.2) fun r1004 =>
  brK (decide ((r1003.1 : Int) ≠ r1004.1))
  (some 42)
  (brK (!(r1003.2.1 == r1004.2.1))
  (some 42)
  (some 0))))

noncomputable def rule_Check_sp : FSpec := ⟨24, (.agg (.prod .bool (.prod (.prod (.list .str) .bool) (.prod (.list .str) .bool)))), (.int .i64), rule_Check⟩
noncomputable def rule_Check_lo : List FSpec := [pattern_Check_sp, pattern_Kinds_sp]
noncomputable def rule_Check_ll : List LEnt := []
theorem rule_Check_ook : OOK Tryd.prog tG (otab rule_Check_lo) := ook_of (l := rule_Check_lo) (by
    intro sp hsp
    simp only [rule_Check_lo, List.mem_cons, List.not_mem_nil, or_false] at hsp
    rcases hsp with rfl | rfl
    · exact pattern_Check_ok
    · exact pattern_Kinds_ok)
noncomputable def rule_Check_c : Code := (Tryd.f24.body).getD .skip
theorem rule_Check_eq (x : rule_Check_sp.arg.den) : rule_Check x = bodyK tT (otabK rule_Check_lo) (ltabK rule_Check_ll) Tryd.f24 rule_Check_sp.arg rule_Check_sp.res x (fun y => y) := by kernel_rfl
theorem rule_Check_ok : SpecOK Tryd.prog tG rule_Check_sp :=
  spec_of_body (c := rule_Check_c) tT_ok rule_Check_ook tP_mixed (fn := Tryd.f24) Tryd.func24 (by kernel_rfl) (by kernel_rfl) (loopsOK_of (by
    have e : loops rule_Check_c = [] := by kernel_rfl
    rw [e]
    intro a ha
    cases ha)) (fun x => enc_closed x (by kernel_rfl)) (by kernel_rfl) (by kernel_rfl) (fun x => (rule_Check_eq x).trans (bodyF_eq tT rule_Check_lo rule_Check_ll Tryd.f24 rule_Check_sp.arg rule_Check_sp.res x).symm)

/-- A round of the loop 2 of stockyard/view.Check. -/
noncomputable def view_Check_L2_B (rec : ((List Rul) × (List Rul) × Int × Int) → Option ((List Rul) ⊕ ((Int × Int) ⊕ Empty))) (st : (List Rul) × (List Rul) × Int × Int) : Option ((List Rul) ⊕ ((Int × Int) ⊕ Empty)) :=
  brK (decide ((st.2.2.2 : Int) < st.2.2.1))
  (bindK (listAt st.2.1 st.2.2.2) fun e1 =>
  bindK (rule_Check e1) fun r2 =>
  brK (decide ((r2 : Int) ≠ 0))
  (some (.inr (.inl (st.2.2.2, 60))))
  (rec (st.1, st.2.1, st.2.2.1, (IntKind.wrap .i64 (st.2.2.2 + 1)))))
  (some (.inl st.1))

noncomputable def view_Check_L2 : Nat → ((List Rul) × (List Rul) × Int × Int) → Option ((List Rul) ⊕ ((Int × Int) ⊕ Empty))
  | 0, _ => none
  | n + 1, st => view_Check_L2_B (view_Check_L2 n) st

noncomputable def view_Check_L2_f (st : (List Rul) × (List Rul) × Int × Int) : Option ((List Rul) ⊕ ((Int × Int) ⊕ Empty)) := view_Check_L2 (List.length st.1 + List.length st.2.1 + Int.natAbs st.2.2.1 + Int.natAbs st.2.2.2 + 1000) st

/-- stockyard/view.Check. -/
noncomputable def view_Check (x : List Rul) : Option (Int × Int) :=
  bindK (view_Check_L2_f (x, x, (x.length : Int), 0)) fun o1001 =>
  sumK o1001 (fun y1002 =>
  brK (decide (((y1002.length : Int) : Int) > 16))
  (some (0, 61))
  (some (0, 0)))
  (fun z1003 => sumK z1003 (fun y1004 =>
  some y1004)
  (fun z1005 => emptyK z1005))

noncomputable def view_Check_sp : FSpec := ⟨12, (.list (.prod .bool (.prod (.prod (.list .str) .bool) (.prod (.list .str) .bool)))), (.tup (.pair (.int .i64) (.int .i64))), view_Check⟩
noncomputable def view_Check_lo : List FSpec := [rule_Check_sp]
noncomputable def view_Check_L2_e : LEnt := ⟨2, ⟨21, 0, [0, 6, 7, 8], (.pair (.list (.prod .bool (.prod (.prod (.list .str) .bool) (.prod (.list .str) .bool)))) (.pair (.list (.prod .bool (.prod (.prod (.list .str) .bool) (.prod (.list .str) .bool)))) (.pair (.int .i64) (.int .i64))))⟩, [((.exit 0), ⟨21, 0, [0], (.list (.prod .bool (.prod (.prod (.list .str) .bool) (.prod (.list .str) .bool))))⟩), (.ret, ⟨21, 0, [2, 3], (.pair (.int .i64) (.int .i64))⟩)], view_Check_L2_f⟩
noncomputable def view_Check_ll : List LEnt := [view_Check_L2_e]
theorem view_Check_ook : OOK Tryd.prog tG (otab view_Check_lo) := ook_of (l := view_Check_lo) (by
    intro sp hsp
    simp only [view_Check_lo, List.mem_cons, List.not_mem_nil, or_false] at hsp
    rcases hsp with rfl
    · exact rule_Check_ok)
noncomputable def view_Check_c : Code := (Tryd.f12.body).getD .skip
theorem view_Check_L2_B_eq (n : Nat) (st : view_Check_L2_e.head.shape.den) : view_Check_L2 (n + 1) st = aexecK tT (otabK view_Check_lo) (ltabK view_Check_ll) (((loops view_Check_c)[0]?).getD .skip) (view_Check_L2_e.head.enc st) (lres view_Check_L2_e.head view_Check_L2_e.exits (view_Check_L2 n)) := by kernel_rfl
theorem view_Check_L2_lok : LOK Tryd.prog tG (ltab view_Check_ll) (((loops view_Check_c)[0]?).getD .skip) :=
  lok_of tT_ok view_Check_ook tP_mixed (loopsOK_of (by
    have e : loops (((loops view_Check_c)[0]?).getD .skip) = [] := by kernel_rfl
    rw [e]
    intro a ha
    cases ha)) view_Check_L2_e (F := view_Check_L2) (fun st => List.length st.1 + List.length st.2.1 + Int.natAbs st.2.2.1 + Int.natAbs st.2.2.2 + 1000) (fun s => by kernel_rfl) (fun st => by kernel_rfl) (fun st => by kernel_rfl) (fun n st => (view_Check_L2_B_eq n st).trans (loopF_eq tT view_Check_lo view_Check_ll (((loops view_Check_c)[0]?).getD .skip) view_Check_L2_e.head view_Check_L2_e.exits (view_Check_L2 n) st).symm)
theorem view_Check_eq (x : view_Check_sp.arg.den) : view_Check x = bodyK tT (otabK view_Check_lo) (ltabK view_Check_ll) Tryd.f12 view_Check_sp.arg view_Check_sp.res x (fun y => y) := by kernel_rfl
theorem view_Check_ok : SpecOK Tryd.prog tG view_Check_sp :=
  spec_of_body (c := view_Check_c) tT_ok view_Check_ook tP_mixed (fn := Tryd.f12) Tryd.func12 (by kernel_rfl) (by kernel_rfl) (loopsOK_of (by
    have e : loops view_Check_c = [((loops view_Check_c)[0]?).getD .skip] := by kernel_rfl
    rw [e]
    intro a ha
    simp only [List.mem_cons, List.not_mem_nil, or_false] at ha
    rcases ha with rfl
    · exact view_Check_L2_lok)) (fun x => enc_closed x (by kernel_rfl)) (by kernel_rfl) (by kernel_rfl) (fun x => (view_Check_eq x).trans (bodyF_eq tT view_Check_lo view_Check_ll Tryd.f12 view_Check_sp.arg view_Check_sp.res x).symm)


/-- stockyard/view.decider. -/
noncomputable def view_decider (x : ByteArray) : Option ByteArray :=
  some x

noncomputable def view_decider_sp : FSpec := ⟨31, .str, (.fn 43 (.ptr .str)), view_decider⟩
noncomputable def view_decider_lo : List FSpec := []
noncomputable def view_decider_ll : List LEnt := []
theorem view_decider_ook : OOK Tryd.prog tG (otab view_decider_lo) := ook_of (l := view_decider_lo) (by intro sp hsp; cases hsp)
noncomputable def view_decider_c : Code := (Tryd.f31.body).getD .skip
theorem view_decider_eq (x : view_decider_sp.arg.den) : view_decider x = bodyK tT (otabK view_decider_lo) (ltabK view_decider_ll) Tryd.f31 view_decider_sp.arg view_decider_sp.res x (fun y => y) := by kernel_rfl
theorem view_decider_ok : SpecOK Tryd.prog tG view_decider_sp :=
  spec_of_body (c := view_decider_c) tT_ok view_decider_ook tP_mixed (fn := Tryd.f31) Tryd.func31 (by kernel_rfl) (by kernel_rfl) (loopsOK_of (by
    have e : loops view_decider_c = [] := by kernel_rfl
    rw [e]
    intro a ha
    cases ha)) (fun x => enc_closed x (by kernel_rfl)) (by kernel_rfl) (by kernel_rfl) (fun x => (view_decider_eq x).trans (bodyF_eq tT view_decider_lo view_decider_ll Tryd.f31 view_decider_sp.arg view_decider_sp.res x).symm)


/-- strings.Split. -/
noncomputable def strings_Split (x : ByteArray × ByteArray) : Option (List ByteArray) :=
  splitF x.1 x.2
noncomputable def strings_Split_sp : FSpec := ⟨50, (.pair .str .str), (.list .str), strings_Split⟩
theorem strings_Split_ok : SpecOK Tryd.prog tG strings_Split_sp := spec_split (t9 := 9) (callFunc_enter Tryd.func50 (by kernel_rfl) (by kernel_rfl)) (fun s sep w hg hs h1 => by obtain ⟨m, hm⟩ := hg; exact Tryd.strings_Split s sep m w hs hm h1)

/-- A round of the loop 6 of stockyard/path.directory. -/
noncomputable def path_directory_L6_B (rec : ((List ByteArray) × (List ByteArray) × Int × Int) → Option ((List ByteArray) ⊕ (((List ByteArray) × Bool) ⊕ Empty))) (st : (List ByteArray) × (List ByteArray) × Int × Int) : Option ((List ByteArray) ⊕ (((List ByteArray) × Bool) ⊕ Empty)) :=
  brK (decide ((st.2.2.2 : Int) < st.2.2.1))
  (bindK (listAt st.2.1 st.2.2.2) fun e3 =>
  bindK (path_Component e3) fun r4 =>
  brK (!r4)
  (some (.inr (.inl (([] : List ByteArray), false))))
  (rec (st.1, st.2.1, st.2.2.1, (IntKind.wrap .i64 (st.2.2.2 + 1)))))
  (some (.inl st.1))

noncomputable def path_directory_L6 : Nat → ((List ByteArray) × (List ByteArray) × Int × Int) → Option ((List ByteArray) ⊕ (((List ByteArray) × Bool) ⊕ Empty))
  | 0, _ => none
  | n + 1, st => path_directory_L6_B (path_directory_L6 n) st

noncomputable def path_directory_L6_f (st : (List ByteArray) × (List ByteArray) × Int × Int) : Option ((List ByteArray) ⊕ (((List ByteArray) × Bool) ⊕ Empty)) := path_directory_L6 (List.length st.1 + List.length st.2.1 + Int.natAbs st.2.2.1 + Int.natAbs st.2.2.2 + 1000) st

/-- stockyard/path.directory. -/
noncomputable def path_directory (x : ByteArray) : Option ((List ByteArray) × Bool) :=
  bindK (strings_CutPrefix (x, (ByteArray.mk #[47, 47]))) fun r1001 =>
  brK (!r1001.2)
  (some (([] : List ByteArray), false))
  (bindK (strings_Split (r1001.1, (ByteArray.mk #[47]))) fun r1002 =>
  bindK (path_directory_L6_f (r1002, r1002, (r1002.length : Int), 0)) fun o1003 =>
  sumK o1003 (fun y1004 =>
  some (y1004, true))
  (fun z1005 => sumK z1005 (fun y1006 =>
  some y1006)
  (fun z1007 => emptyK z1007)))

noncomputable def path_directory_sp : FSpec := ⟨67, .str, (.tup (.pair (.list .str) .bool)), path_directory⟩
noncomputable def path_directory_lo : List FSpec := [strings_CutPrefix_sp, strings_Split_sp, path_Component_sp]
noncomputable def path_directory_L6_e : LEnt := ⟨6, ⟨29, 0, [6, 18, 19, 20], (.pair (.list .str) (.pair (.list .str) (.pair (.int .i64) (.int .i64))))⟩, [((.exit 0), ⟨29, 0, [6], (.list .str)⟩), (.ret, ⟨29, 1, [2, 3], (.pair (.own 0 9 .str) .bool)⟩)], path_directory_L6_f⟩
noncomputable def path_directory_ll : List LEnt := [path_directory_L6_e]
theorem path_directory_ook : OOK Tryd.prog tG (otab path_directory_lo) := ook_of (l := path_directory_lo) (by
    intro sp hsp
    simp only [path_directory_lo, List.mem_cons, List.not_mem_nil, or_false] at hsp
    rcases hsp with rfl | rfl | rfl
    · exact strings_CutPrefix_ok
    · exact strings_Split_ok
    · exact path_Component_ok)
noncomputable def path_directory_c : Code := (Tryd.f67.body).getD .skip
theorem path_directory_L6_B_eq (n : Nat) (st : path_directory_L6_e.head.shape.den) : path_directory_L6 (n + 1) st = aexecK tT (otabK path_directory_lo) (ltabK path_directory_ll) (((loops path_directory_c)[0]?).getD .skip) (path_directory_L6_e.head.enc st) (lres path_directory_L6_e.head path_directory_L6_e.exits (path_directory_L6 n)) := by kernel_rfl
theorem path_directory_L6_lok : LOK Tryd.prog tG (ltab path_directory_ll) (((loops path_directory_c)[0]?).getD .skip) :=
  lok_of tT_ok path_directory_ook tP_mixed (loopsOK_of (by
    have e : loops (((loops path_directory_c)[0]?).getD .skip) = [] := by kernel_rfl
    rw [e]
    intro a ha
    cases ha)) path_directory_L6_e (F := path_directory_L6) (fun st => List.length st.1 + List.length st.2.1 + Int.natAbs st.2.2.1 + Int.natAbs st.2.2.2 + 1000) (fun s => by kernel_rfl) (fun st => by kernel_rfl) (fun st => by kernel_rfl) (fun n st => (path_directory_L6_B_eq n st).trans (loopF_eq tT path_directory_lo path_directory_ll (((loops path_directory_c)[0]?).getD .skip) path_directory_L6_e.head path_directory_L6_e.exits (path_directory_L6 n) st).symm)
theorem path_directory_eq (x : path_directory_sp.arg.den) : path_directory x = bodyK tT (otabK path_directory_lo) (ltabK path_directory_ll) Tryd.f67 path_directory_sp.arg path_directory_sp.res x (fun y => y) := by kernel_rfl
theorem path_directory_ok : SpecOK Tryd.prog tG path_directory_sp :=
  spec_of_body (c := path_directory_c) tT_ok path_directory_ook tP_mixed (fn := Tryd.f67) Tryd.func67 (by kernel_rfl) (by kernel_rfl) (loopsOK_of (by
    have e : loops path_directory_c = [((loops path_directory_c)[0]?).getD .skip] := by kernel_rfl
    rw [e]
    intro a ha
    simp only [List.mem_cons, List.not_mem_nil, or_false] at ha
    rcases ha with rfl
    · exact path_directory_L6_lok)) (fun x => enc_closed x (by kernel_rfl)) (by kernel_rfl) (by kernel_rfl) (fun x => (path_directory_eq x).trans (bodyF_eq tT path_directory_lo path_directory_ll Tryd.f67 path_directory_sp.arg path_directory_sp.res x).symm)


/-- stockyard/path.Split. -/
noncomputable def path_Split (x : ByteArray) : Option ((List ByteArray) × Int) :=
  bindK (path_directory x) fun r1001 =>
  brK (!r1001.2)
  (some (([] : List ByteArray), 20))
  (brK (decide (((r1001.1.length : Int) : Int) < 2))
  (some (([] : List ByteArray), 20))
  (some (r1001.1, 0)))

noncomputable def path_Split_sp : FSpec := ⟨55, .str, (.tup (.pair (.list .str) (.int .i64))), path_Split⟩
noncomputable def path_Split_lo : List FSpec := [path_directory_sp]
noncomputable def path_Split_ll : List LEnt := []
theorem path_Split_ook : OOK Tryd.prog tG (otab path_Split_lo) := ook_of (l := path_Split_lo) (by
    intro sp hsp
    simp only [path_Split_lo, List.mem_cons, List.not_mem_nil, or_false] at hsp
    rcases hsp with rfl
    · exact path_directory_ok)
noncomputable def path_Split_c : Code := (Tryd.f55.body).getD .skip
theorem path_Split_eq (x : path_Split_sp.arg.den) : path_Split x = bodyK tT (otabK path_Split_lo) (ltabK path_Split_ll) Tryd.f55 path_Split_sp.arg path_Split_sp.res x (fun y => y) := by kernel_rfl
theorem path_Split_ok : SpecOK Tryd.prog tG path_Split_sp :=
  spec_of_body (c := path_Split_c) tT_ok path_Split_ook tP_mixed (fn := Tryd.f55) Tryd.func55 (by kernel_rfl) (by kernel_rfl) (loopsOK_of (by
    have e : loops path_Split_c = [] := by kernel_rfl
    rw [e]
    intro a ha
    cases ha)) (fun x => enc_closed x (by kernel_rfl)) (by kernel_rfl) (by kernel_rfl) (fun x => (path_Split_eq x).trans (bodyF_eq tT path_Split_lo path_Split_ll Tryd.f55 path_Split_sp.arg path_Split_sp.res x).symm)


/-- internal/stringslite.HasSuffix. -/
noncomputable def stringslite_HasSuffix (x : ByteArray × ByteArray) : Option Bool :=
  brK (decide (((x.1.size : Int) : Int) ≥ (x.2.size : Int)))
  (brK (decide (0 ≤ ((IntKind.wrap .i64 ((x.1.size : Int) - (x.2.size : Int))) : Int) ∧ ((IntKind.wrap .i64 ((x.1.size : Int) - (x.2.size : Int))) : Int) ≤ (x.1.size : Int) ∧ (x.1.size : Int) ≤ (x.1.size : Int)))
  (some (decide ((ByteArray.extract x.1 (Int.toNat (IntKind.wrap .i64 ((x.1.size : Int) - (x.2.size : Int)))) (Int.toNat (x.1.size : Int))) = x.2)))
  (none))
  (some false)

noncomputable def stringslite_HasSuffix_sp : FSpec := ⟨70, (.pair .str .str), .bool, stringslite_HasSuffix⟩
noncomputable def stringslite_HasSuffix_lo : List FSpec := []
noncomputable def stringslite_HasSuffix_ll : List LEnt := []
theorem stringslite_HasSuffix_ook : OOK Tryd.prog tG (otab stringslite_HasSuffix_lo) := ook_of (l := stringslite_HasSuffix_lo) (by intro sp hsp; cases hsp)
noncomputable def stringslite_HasSuffix_c : Code := (Tryd.f70.body).getD .skip
theorem stringslite_HasSuffix_eq (x : stringslite_HasSuffix_sp.arg.den) : stringslite_HasSuffix x = bodyK tT (otabK stringslite_HasSuffix_lo) (ltabK stringslite_HasSuffix_ll) Tryd.f70 stringslite_HasSuffix_sp.arg stringslite_HasSuffix_sp.res x (fun y => y) := by kernel_rfl
theorem stringslite_HasSuffix_ok : SpecOK Tryd.prog tG stringslite_HasSuffix_sp :=
  spec_of_body (c := stringslite_HasSuffix_c) tT_ok stringslite_HasSuffix_ook tP_mixed (fn := Tryd.f70) Tryd.func70 (by kernel_rfl) (by kernel_rfl) (loopsOK_of (by
    have e : loops stringslite_HasSuffix_c = [] := by kernel_rfl
    rw [e]
    intro a ha
    cases ha)) (fun x => enc_closed x (by kernel_rfl)) (by kernel_rfl) (by kernel_rfl) (fun x => (stringslite_HasSuffix_eq x).trans (bodyF_eq tT stringslite_HasSuffix_lo stringslite_HasSuffix_ll Tryd.f70 stringslite_HasSuffix_sp.arg stringslite_HasSuffix_sp.res x).symm)


/-- strings.HasSuffix. -/
noncomputable def strings_HasSuffix (x : ByteArray × ByteArray) : Option Bool :=
  bindK (stringslite_HasSuffix x) fun r1001 =>
  some r1001

noncomputable def strings_HasSuffix_sp : FSpec := ⟨60, (.pair .str .str), .bool, strings_HasSuffix⟩
noncomputable def strings_HasSuffix_lo : List FSpec := [stringslite_HasSuffix_sp]
noncomputable def strings_HasSuffix_ll : List LEnt := []
theorem strings_HasSuffix_ook : OOK Tryd.prog tG (otab strings_HasSuffix_lo) := ook_of (l := strings_HasSuffix_lo) (by
    intro sp hsp
    simp only [strings_HasSuffix_lo, List.mem_cons, List.not_mem_nil, or_false] at hsp
    rcases hsp with rfl
    · exact stringslite_HasSuffix_ok)
noncomputable def strings_HasSuffix_c : Code := (Tryd.f60.body).getD .skip
theorem strings_HasSuffix_eq (x : strings_HasSuffix_sp.arg.den) : strings_HasSuffix x = bodyK tT (otabK strings_HasSuffix_lo) (ltabK strings_HasSuffix_ll) Tryd.f60 strings_HasSuffix_sp.arg strings_HasSuffix_sp.res x (fun y => y) := by kernel_rfl
theorem strings_HasSuffix_ok : SpecOK Tryd.prog tG strings_HasSuffix_sp :=
  spec_of_body (c := strings_HasSuffix_c) tT_ok strings_HasSuffix_ook tP_mixed (fn := Tryd.f60) Tryd.func60 (by kernel_rfl) (by kernel_rfl) (loopsOK_of (by
    have e : loops strings_HasSuffix_c = [] := by kernel_rfl
    rw [e]
    intro a ha
    cases ha)) (fun x => enc_closed x (by kernel_rfl)) (by kernel_rfl) (by kernel_rfl) (fun x => (strings_HasSuffix_eq x).trans (bodyF_eq tT strings_HasSuffix_lo strings_HasSuffix_ll Tryd.f60 strings_HasSuffix_sp.arg strings_HasSuffix_sp.res x).symm)


/-- stockyard/pattern.capture. -/
noncomputable def pattern_capture (x : ByteArray × ByteArray) : Option (ByteArray × Bool) :=
  brK (decide (((x.1.size : Int) : Int) > (x.2.size : Int)))
  (bindK (strings_HasSuffix x) fun r1001 =>
  brK r1001
  (brK (decide (0 ≤ (0 : Int) ∧ (0 : Int) ≤ (IntKind.wrap .i64 ((x.1.size : Int) - (x.2.size : Int))) ∧ (IntKind.wrap .i64 ((x.1.size : Int) - (x.2.size : Int))) ≤ (x.1.size : Int)))
  (some ((ByteArray.extract x.1 (Int.toNat 0) (Int.toNat (IntKind.wrap .i64 ((x.1.size : Int) - (x.2.size : Int))))), true))
  (none))
  (some ((ByteArray.mk #[]), false)))
  (some ((ByteArray.mk #[]), false))

noncomputable def pattern_capture_sp : FSpec := ⟨56, (.pair .str .str), (.tup (.pair .str .bool)), pattern_capture⟩
noncomputable def pattern_capture_lo : List FSpec := [strings_HasSuffix_sp]
noncomputable def pattern_capture_ll : List LEnt := []
theorem pattern_capture_ook : OOK Tryd.prog tG (otab pattern_capture_lo) := ook_of (l := pattern_capture_lo) (by
    intro sp hsp
    simp only [pattern_capture_lo, List.mem_cons, List.not_mem_nil, or_false] at hsp
    rcases hsp with rfl
    · exact strings_HasSuffix_ok)
noncomputable def pattern_capture_c : Code := (Tryd.f56.body).getD .skip
theorem pattern_capture_eq (x : pattern_capture_sp.arg.den) : pattern_capture x = bodyK tT (otabK pattern_capture_lo) (ltabK pattern_capture_ll) Tryd.f56 pattern_capture_sp.arg pattern_capture_sp.res x (fun y => y) := by kernel_rfl
theorem pattern_capture_ok : SpecOK Tryd.prog tG pattern_capture_sp :=
  spec_of_body (c := pattern_capture_c) tT_ok pattern_capture_ook tP_mixed (fn := Tryd.f56) Tryd.func56 (by kernel_rfl) (by kernel_rfl) (loopsOK_of (by
    have e : loops pattern_capture_c = [] := by kernel_rfl
    rw [e]
    intro a ha
    cases ha)) (fun x => enc_closed x (by kernel_rfl)) (by kernel_rfl) (by kernel_rfl) (fun x => (pattern_capture_eq x).trans (bodyF_eq tT pattern_capture_lo pattern_capture_ll Tryd.f56 pattern_capture_sp.arg pattern_capture_sp.res x).symm)


/-- strings.Join. -/
noncomputable def strings_Join (x : (List ByteArray) × ByteArray) : Option ByteArray :=
  joinF x.1 x.2
noncomputable def strings_Join_sp : FSpec := ⟨47, (.pair (.list .str) .str), .str, strings_Join⟩
theorem strings_Join_ok : SpecOK Tryd.prog tG strings_Join_sp := spec_join (callFunc_enter Tryd.func47 (by kernel_rfl) (by kernel_rfl)) Tryd.strings_Join_none Tryd.strings_Join

/-- A round of the loop 7 of stockyard/pattern.Match. -/
noncomputable def pattern_Match_L7_B (rec : (((List ByteArray) × Bool) × (List ByteArray) × Int × (List ByteArray) × (List ByteArray) × Int × Int) → Option ((((List ByteArray) × Bool) × (List ByteArray) × Int × List ByteArray) ⊕ (((List ByteArray) × Bool) ⊕ Empty))) (st : ((List ByteArray) × Bool) × (List ByteArray) × Int × (List ByteArray) × (List ByteArray) × Int × Int) : Option ((((List ByteArray) × Bool) × (List ByteArray) × Int × List ByteArray) ⊕ (((List ByteArray) × Bool) ⊕ Empty)) :=
  brK (decide ((st.2.2.2.2.2.2 : Int) < st.2.2.2.2.2.1))
  (bindK (listAt st.2.2.2.2.1 st.2.2.2.2.2.2) fun e3 =>
  bindK (pattern_formOf e3) fun r4 =>
  brK (decide ((r4.1 : Int) = 1))
  (bindK (listAt st.2.1 st.2.2.2.2.2.2) fun e5 =>
  brK (decide (e5 ≠ e3))
  (some (.inr (.inl (([] : List ByteArray), false))))
  (rec (st.1, st.2.1, st.2.2.1, st.2.2.2.1, st.2.2.2.2.1, st.2.2.2.2.2.1, (IntKind.wrap .i64 (st.2.2.2.2.2.2 + 1)))))
  (bindK (listAt st.2.1 st.2.2.2.2.2.2) fun e6 =>
  bindK (pattern_capture (e6, r4.2)) fun r7 =>
  brK (!r7.2)
  (some (.inr (.inl (([] : List ByteArray), false))))
  (brK (fits (List.length st.2.2.2.1) (List.length ([r7.1] : List ByteArray)) 16)
  (rec (st.1, st.2.1, st.2.2.1, (st.2.2.2.1 ++ ([r7.1] : List ByteArray)), st.2.2.2.2.1, st.2.2.2.2.2.1, (IntKind.wrap .i64 (st.2.2.2.2.2.2 + 1))))
  (none))))
  (some (.inl (st.1, st.2.1, st.2.2.1, st.2.2.2.1)))

noncomputable def pattern_Match_L7 : Nat → (((List ByteArray) × Bool) × (List ByteArray) × Int × (List ByteArray) × (List ByteArray) × Int × Int) → Option ((((List ByteArray) × Bool) × (List ByteArray) × Int × List ByteArray) ⊕ (((List ByteArray) × Bool) ⊕ Empty))
  | 0, _ => none
  | n + 1, st => pattern_Match_L7_B (pattern_Match_L7 n) st

noncomputable def pattern_Match_L7_f (st : ((List ByteArray) × Bool) × (List ByteArray) × Int × (List ByteArray) × (List ByteArray) × Int × Int) : Option ((((List ByteArray) × Bool) × (List ByteArray) × Int × List ByteArray) ⊕ (((List ByteArray) × Bool) ⊕ Empty)) := pattern_Match_L7 (List.length st.1.1 + List.length st.2.1 + Int.natAbs st.2.2.1 + List.length st.2.2.2.1 + List.length st.2.2.2.2.1 + Int.natAbs st.2.2.2.2.2.1 + Int.natAbs st.2.2.2.2.2.2 + 1000) st

/-- stockyard/pattern.Match. -/
noncomputable def pattern_Match (x : Pat × ByteArray) : Option ((List ByteArray) × Bool) :=
  bindK (path_Split x.2) fun r1001 =>
  brK (decide ((r1001.2 : Int) ≠ 0))
  (some (([] : List ByteArray), false))
  (bindK (pattern_Check x.1) fun r1002 =>
  brK (decide ((r1002 : Int) ≠ 0))
  (some (([] : List ByteArray), false))
  (brK (decide (((r1001.1.length : Int) : Int) < (x.1.1.length : Int)))
  (some (([] : List ByteArray), false))
  (brK (!((decide (((r1001.1.length : Int) : Int) > (x.1.1.length : Int))) == x.1.2))
  (some (([] : List ByteArray), false))
  (bindK (pattern_Match_L7_f (x.1, r1001.1, (x.1.1.length : Int), ([] : List ByteArray), x.1.1, (x.1.1.length : Int), 0)) fun o1003 =>
  sumK o1003 (fun y1004 =>
  brK y1004.1.2
  (brK (decide (0 ≤ (y1004.2.2.1 : Int) ∧ (y1004.2.2.1 : Int) ≤ (y1004.2.1.length : Int) ∧ (y1004.2.1.length : Int) ≤ (y1004.2.1.length : Int)))
  (bindK (strings_Join ((List.drop (Int.toNat y1004.2.2.1) (List.take (Int.toNat (y1004.2.1.length : Int)) y1004.2.1)), (ByteArray.mk #[47]))) fun r1006 =>
  brK (fits (List.length y1004.2.2.2) (List.length ([r1006] : List ByteArray)) 16)
  (some ((y1004.2.2.2 ++ ([r1006] : List ByteArray)), true))
  (none))
  (none))
  (some (y1004.2.2.2, true)))
  (fun z1005 => sumK z1005 (fun y1007 =>
  some y1007)
  (fun z1008 => emptyK z1008))))))

noncomputable def pattern_Match_sp : FSpec := ⟨41, (.pair (.agg (.prod (.list .str) .bool)) .str), (.tup (.pair (.list .str) .bool)), pattern_Match⟩
noncomputable def pattern_Match_lo : List FSpec := [path_Split_sp, pattern_Check_sp, pattern_formOf_sp, pattern_capture_sp, strings_Join_sp]
noncomputable def pattern_Match_L7_e : LEnt := ⟨7, ⟨93, 2, [2, 6, 8, 9, 47, 48, 49], (.pair (.box 0 (.pair (.list .str) .bool)) (.pair (.list .str) (.pair (.int .i64) (.pair (.own 1 9 .str) (.pair (.list .str) (.pair (.int .i64) (.int .i64)))))))⟩, [((.exit 0), ⟨93, 2, [2, 6, 8, 9], (.pair (.box 0 (.pair (.list .str) .bool)) (.pair (.list .str) (.pair (.int .i64) (.own 1 9 .str))))⟩), (.ret, ⟨93, 1, [4, 5], (.pair (.own 0 9 .str) .bool)⟩)], pattern_Match_L7_f⟩
noncomputable def pattern_Match_ll : List LEnt := [pattern_Match_L7_e]
theorem pattern_Match_ook : OOK Tryd.prog tG (otab pattern_Match_lo) := ook_of (l := pattern_Match_lo) (by
    intro sp hsp
    simp only [pattern_Match_lo, List.mem_cons, List.not_mem_nil, or_false] at hsp
    rcases hsp with rfl | rfl | rfl | rfl | rfl
    · exact path_Split_ok
    · exact pattern_Check_ok
    · exact pattern_formOf_ok
    · exact pattern_capture_ok
    · exact strings_Join_ok)
noncomputable def pattern_Match_c : Code := (Tryd.f41.body).getD .skip
theorem pattern_Match_L7_B_eq (n : Nat) (st : pattern_Match_L7_e.head.shape.den) : pattern_Match_L7 (n + 1) st = aexecK tT (otabK pattern_Match_lo) (ltabK pattern_Match_ll) (((loops pattern_Match_c)[0]?).getD .skip) (pattern_Match_L7_e.head.enc st) (lres pattern_Match_L7_e.head pattern_Match_L7_e.exits (pattern_Match_L7 n)) := by kernel_rfl
theorem pattern_Match_L7_lok : LOK Tryd.prog tG (ltab pattern_Match_ll) (((loops pattern_Match_c)[0]?).getD .skip) :=
  lok_of tT_ok pattern_Match_ook tP_mixed (loopsOK_of (by
    have e : loops (((loops pattern_Match_c)[0]?).getD .skip) = [] := by kernel_rfl
    rw [e]
    intro a ha
    cases ha)) pattern_Match_L7_e (F := pattern_Match_L7) (fun st => List.length st.1.1 + List.length st.2.1 + Int.natAbs st.2.2.1 + List.length st.2.2.2.1 + List.length st.2.2.2.2.1 + Int.natAbs st.2.2.2.2.2.1 + Int.natAbs st.2.2.2.2.2.2 + 1000) (fun s => by kernel_rfl) (fun st => by kernel_rfl) (fun st => by kernel_rfl) (fun n st => (pattern_Match_L7_B_eq n st).trans (loopF_eq tT pattern_Match_lo pattern_Match_ll (((loops pattern_Match_c)[0]?).getD .skip) pattern_Match_L7_e.head pattern_Match_L7_e.exits (pattern_Match_L7 n) st).symm)
theorem pattern_Match_eq (x : pattern_Match_sp.arg.den) : pattern_Match x = bodyK tT (otabK pattern_Match_lo) (ltabK pattern_Match_ll) Tryd.f41 pattern_Match_sp.arg pattern_Match_sp.res x (fun y => y) := by kernel_rfl
theorem pattern_Match_ok : SpecOK Tryd.prog tG pattern_Match_sp :=
  spec_of_body (c := pattern_Match_c) tT_ok pattern_Match_ook tP_mixed (fn := Tryd.f41) Tryd.func41 (by kernel_rfl) (by kernel_rfl) (loopsOK_of (by
    have e : loops pattern_Match_c = [((loops pattern_Match_c)[0]?).getD .skip] := by kernel_rfl
    rw [e]
    intro a ha
    simp only [List.mem_cons, List.not_mem_nil, or_false] at ha
    rcases ha with rfl
    · exact pattern_Match_L7_lok)) (fun x => enc_closed x (by kernel_rfl)) (by kernel_rfl) (by kernel_rfl) (fun x => (pattern_Match_eq x).trans (bodyF_eq tT pattern_Match_lo pattern_Match_ll Tryd.f41 pattern_Match_sp.arg pattern_Match_sp.res x).symm)


/-- stockyard/view.decider$1. -/
noncomputable def view_decider_1 (x : Rul × ByteArray) : Option Bool :=
  bindK (pattern_Match (x.1.2.1, x.2)) fun r1001 =>
  some r1001.2

noncomputable def view_decider_1_sp : FSpec := ⟨43, (.pair (.agg (.prod .bool (.prod (.prod (.list .str) .bool) (.prod (.list .str) .bool)))) (.ptr .str)), .bool, view_decider_1⟩
noncomputable def view_decider_1_lo : List FSpec := [pattern_Match_sp]
noncomputable def view_decider_1_ll : List LEnt := []
theorem view_decider_1_ook : OOK Tryd.prog tG (otab view_decider_1_lo) := ook_of (l := view_decider_1_lo) (by
    intro sp hsp
    simp only [view_decider_1_lo, List.mem_cons, List.not_mem_nil, or_false] at hsp
    rcases hsp with rfl
    · exact pattern_Match_ok)
noncomputable def view_decider_1_c : Code := (Tryd.f43.body).getD .skip
theorem view_decider_1_eq (x : view_decider_1_sp.arg.den) : view_decider_1 x = bodyK tT (otabK view_decider_1_lo) (ltabK view_decider_1_ll) Tryd.f43 view_decider_1_sp.arg view_decider_1_sp.res x (fun y => y) := by kernel_rfl
theorem view_decider_1_ok : SpecOK Tryd.prog tG view_decider_1_sp :=
  spec_of_body (c := view_decider_1_c) tT_ok view_decider_1_ook tP_mixed (fn := Tryd.f43) Tryd.func43 (by kernel_rfl) (by kernel_rfl) (loopsOK_of (by
    have e : loops view_decider_1_c = [] := by kernel_rfl
    rw [e]
    intro a ha
    cases ha)) (fun x => enc_closed x (by kernel_rfl)) (by kernel_rfl) (by kernel_rfl) (fun x => (view_decider_1_eq x).trans (bodyF_eq tT view_decider_1_lo view_decider_1_ll Tryd.f43 view_decider_1_sp.arg view_decider_1_sp.res x).symm)

/-- A round of the loop 2 of stockyard/view.last. -/
noncomputable def view_last__view_decider_1_L2_B (rec : ((List Rul) × ByteArray × Int) → Option (Int ⊕ Empty)) (st : (List Rul) × ByteArray × Int) : Option (Int ⊕ Empty) :=
  brK (decide ((st.2.2 : Int) ≥ 0))
  (bindK (listAt st.1 st.2.2) fun e1 =>
  bindK (view_decider_1 (e1, st.2.1)) fun r2 =>
  brK (!r2)
  (rec (st.1, st.2.1, (IntKind.wrap .i64 (st.2.2 - 1))))
  (some (.inl st.2.2)))
  (some (.inl st.2.2))

noncomputable def view_last__view_decider_1_L2 : Nat → ((List Rul) × ByteArray × Int) → Option (Int ⊕ Empty)
  | 0, _ => none
  | n + 1, st => view_last__view_decider_1_L2_B (view_last__view_decider_1_L2 n) st

noncomputable def view_last__view_decider_1_L2_f (st : (List Rul) × ByteArray × Int) : Option (Int ⊕ Empty) := view_last__view_decider_1_L2 (List.length st.1 + ByteArray.size st.2.1 + Int.natAbs st.2.2 + 1000) st

/-- stockyard/view.last. -/
noncomputable def view_last__view_decider_1 (x : (List Rul) × ByteArray) : Option Int :=
  bindK (view_last__view_decider_1_L2_f (x.1, x.2, (IntKind.wrap .i64 ((x.1.length : Int) - 1)))) fun o1001 =>
  sumK o1001 (fun y1002 =>
  some y1002)
  (fun z1003 => emptyK z1003)

noncomputable def view_last__view_decider_1_sp : FSpec := ⟨30, (.pair (.list (.prod .bool (.prod (.prod (.list .str) .bool) (.prod (.list .str) .bool)))) (.fn 43 (.ptr .str))), (.int .i64), view_last__view_decider_1⟩
noncomputable def view_last__view_decider_1_lo : List FSpec := [view_decider_1_sp]
noncomputable def view_last__view_decider_1_L2_e : LEnt := ⟨2, ⟨23, 0, [0, 1, 5], (.pair (.list (.prod .bool (.prod (.prod (.list .str) .bool) (.prod (.list .str) .bool)))) (.pair (.fn 43 (.ptr .str)) (.int .i64)))⟩, [((.exit 0), ⟨23, 0, [5], (.int .i64)⟩)], view_last__view_decider_1_L2_f⟩
noncomputable def view_last__view_decider_1_ll : List LEnt := [view_last__view_decider_1_L2_e]
theorem view_last__view_decider_1_ook : OOK Tryd.prog tG (otab view_last__view_decider_1_lo) := ook_of (l := view_last__view_decider_1_lo) (by
    intro sp hsp
    simp only [view_last__view_decider_1_lo, List.mem_cons, List.not_mem_nil, or_false] at hsp
    rcases hsp with rfl
    · exact view_decider_1_ok)
noncomputable def view_last__view_decider_1_c : Code := (Tryd.f30.body).getD .skip
theorem view_last__view_decider_1_L2_B_eq (n : Nat) (st : view_last__view_decider_1_L2_e.head.shape.den) : view_last__view_decider_1_L2 (n + 1) st = aexecK tT (otabK view_last__view_decider_1_lo) (ltabK view_last__view_decider_1_ll) (((loops view_last__view_decider_1_c)[0]?).getD .skip) (view_last__view_decider_1_L2_e.head.enc st) (lres view_last__view_decider_1_L2_e.head view_last__view_decider_1_L2_e.exits (view_last__view_decider_1_L2 n)) := by kernel_rfl
theorem view_last__view_decider_1_L2_lok : LOK Tryd.prog tG (ltab view_last__view_decider_1_ll) (((loops view_last__view_decider_1_c)[0]?).getD .skip) :=
  lok_of tT_ok view_last__view_decider_1_ook tP_mixed (loopsOK_of (by
    have e : loops (((loops view_last__view_decider_1_c)[0]?).getD .skip) = [] := by kernel_rfl
    rw [e]
    intro a ha
    cases ha)) view_last__view_decider_1_L2_e (F := view_last__view_decider_1_L2) (fun st => List.length st.1 + ByteArray.size st.2.1 + Int.natAbs st.2.2 + 1000) (fun s => by kernel_rfl) (fun st => by kernel_rfl) (fun st => by kernel_rfl) (fun n st => (view_last__view_decider_1_L2_B_eq n st).trans (loopF_eq tT view_last__view_decider_1_lo view_last__view_decider_1_ll (((loops view_last__view_decider_1_c)[0]?).getD .skip) view_last__view_decider_1_L2_e.head view_last__view_decider_1_L2_e.exits (view_last__view_decider_1_L2 n) st).symm)
theorem view_last__view_decider_1_eq (x : view_last__view_decider_1_sp.arg.den) : view_last__view_decider_1 x = bodyK tT (otabK view_last__view_decider_1_lo) (ltabK view_last__view_decider_1_ll) Tryd.f30 view_last__view_decider_1_sp.arg view_last__view_decider_1_sp.res x (fun y => y) := by kernel_rfl
theorem view_last__view_decider_1_ok : SpecOK Tryd.prog tG view_last__view_decider_1_sp :=
  spec_of_body (c := view_last__view_decider_1_c) tT_ok view_last__view_decider_1_ook tP_mixed (fn := Tryd.f30) Tryd.func30 (by kernel_rfl) (by kernel_rfl) (loopsOK_of (by
    have e : loops view_last__view_decider_1_c = [((loops view_last__view_decider_1_c)[0]?).getD .skip] := by kernel_rfl
    rw [e]
    intro a ha
    simp only [List.mem_cons, List.not_mem_nil, or_false] at ha
    rcases ha with rfl
    · exact view_last__view_decider_1_L2_lok)) (fun x => enc_closed x (by kernel_rfl)) (by kernel_rfl) (by kernel_rfl) (fun x => (view_last__view_decider_1_eq x).trans (bodyF_eq tT view_last__view_decider_1_lo view_last__view_decider_1_ll Tryd.f30 view_last__view_decider_1_sp.arg view_last__view_decider_1_sp.res x).symm)


/-- stockyard/view.Decides. -/
noncomputable def view_Decides (x : (List Rul) × ByteArray) : Option Int :=
  bindK (view_Check x.1) fun r1001 =>
  brK (decide ((r1001.2 : Int) ≠ 0))
  (some (-1))
  (bindK (view_decider x.2) fun r1002 =>
  bindK (view_last__view_decider_1 (x.1, r1002)) fun r1003 =>
  some r1003)

noncomputable def view_Decides_sp : FSpec := ⟨21, (.pair (.list (.prod .bool (.prod (.prod (.list .str) .bool) (.prod (.list .str) .bool)))) .str), (.int .i64), view_Decides⟩
noncomputable def view_Decides_lo : List FSpec := [view_Check_sp, view_decider_sp, view_last__view_decider_1_sp]
noncomputable def view_Decides_ll : List LEnt := []
theorem view_Decides_ook : OOK Tryd.prog tG (otab view_Decides_lo) := ook_of (l := view_Decides_lo) (by
    intro sp hsp
    simp only [view_Decides_lo, List.mem_cons, List.not_mem_nil, or_false] at hsp
    rcases hsp with rfl | rfl | rfl
    · exact view_Check_ok
    · exact view_decider_ok
    · exact view_last__view_decider_1_ok)
noncomputable def view_Decides_c : Code := (Tryd.f21.body).getD .skip
theorem view_Decides_eq (x : view_Decides_sp.arg.den) : view_Decides x = bodyK tT (otabK view_Decides_lo) (ltabK view_Decides_ll) Tryd.f21 view_Decides_sp.arg view_Decides_sp.res x (fun y => y) := by kernel_rfl
theorem view_Decides_ok : SpecOK Tryd.prog tG view_Decides_sp :=
  spec_of_body (c := view_Decides_c) tT_ok view_Decides_ook tP_mixed (fn := Tryd.f21) Tryd.func21 (by kernel_rfl) (by kernel_rfl) (loopsOK_of (by
    have e : loops view_Decides_c = [] := by kernel_rfl
    rw [e]
    intro a ha
    cases ha)) (fun x => enc_closed x (by kernel_rfl)) (by kernel_rfl) (by kernel_rfl) (fun x => (view_Decides_eq x).trans (bodyF_eq tT view_Decides_lo view_Decides_ll Tryd.f21 view_Decides_sp.arg view_Decides_sp.res x).symm)

/-- A round of the loop 4 of stockyard/path.Join. -/
noncomputable def path_Join_L4_B (rec : ((List ByteArray) × (List ByteArray) × Int × Int) → Option ((List ByteArray) ⊕ ((ByteArray × Int) ⊕ Empty))) (st : (List ByteArray) × (List ByteArray) × Int × Int) : Option ((List ByteArray) ⊕ ((ByteArray × Int) ⊕ Empty)) :=
  brK (decide ((st.2.2.2 : Int) < st.2.2.1))
  (bindK (listAt st.2.1 st.2.2.2) fun e1 =>
  bindK (path_Component e1) fun r2 =>
  brK (!r2)
  (some (.inr (.inl ((ByteArray.mk #[]), 21))))
  (rec (st.1, st.2.1, st.2.2.1, (IntKind.wrap .i64 (st.2.2.2 + 1)))))
  (some (.inl st.1))

noncomputable def path_Join_L4 : Nat → ((List ByteArray) × (List ByteArray) × Int × Int) → Option ((List ByteArray) ⊕ ((ByteArray × Int) ⊕ Empty))
  | 0, _ => none
  | n + 1, st => path_Join_L4_B (path_Join_L4 n) st

noncomputable def path_Join_L4_f (st : (List ByteArray) × (List ByteArray) × Int × Int) : Option ((List ByteArray) ⊕ ((ByteArray × Int) ⊕ Empty)) := path_Join_L4 (List.length st.1 + List.length st.2.1 + Int.natAbs st.2.2.1 + Int.natAbs st.2.2.2 + 1000) st

/-- stockyard/path.Join. -/
noncomputable def path_Join (x : List ByteArray) : Option (ByteArray × Int) :=
  brK (decide (((x.length : Int) : Int) < 2))
  (some ((ByteArray.mk #[]), 21))
  (bindK (path_Join_L4_f (x, x, (x.length : Int), 0)) fun o1001 =>
  sumK o1001 (fun y1002 =>
  bindK (strings_Join (y1002, (ByteArray.mk #[47]))) fun r1004 =>
  brK (decide (ByteArray.size (ByteArray.mk #[47, 47]) + ByteArray.size r1004 ≤ 140737488355328))
  (some (((ByteArray.mk #[47, 47]) ++ r1004), 0))
  (none))
  (fun z1003 => sumK z1003 (fun y1005 =>
  some y1005)
  (fun z1006 => emptyK z1006)))

noncomputable def path_Join_sp : FSpec := ⟨58, (.list .str), (.tup (.pair .str (.int .i64))), path_Join⟩
noncomputable def path_Join_lo : List FSpec := [path_Component_sp, strings_Join_sp]
noncomputable def path_Join_L4_e : LEnt := ⟨4, ⟨22, 0, [0, 9, 10, 11], (.pair (.list .str) (.pair (.list .str) (.pair (.int .i64) (.int .i64))))⟩, [((.exit 0), ⟨22, 0, [0], (.list .str)⟩), (.ret, ⟨22, 0, [2, 3], (.pair .str (.int .i64))⟩)], path_Join_L4_f⟩
noncomputable def path_Join_ll : List LEnt := [path_Join_L4_e]
theorem path_Join_ook : OOK Tryd.prog tG (otab path_Join_lo) := ook_of (l := path_Join_lo) (by
    intro sp hsp
    simp only [path_Join_lo, List.mem_cons, List.not_mem_nil, or_false] at hsp
    rcases hsp with rfl | rfl
    · exact path_Component_ok
    · exact strings_Join_ok)
noncomputable def path_Join_c : Code := (Tryd.f58.body).getD .skip
theorem path_Join_L4_B_eq (n : Nat) (st : path_Join_L4_e.head.shape.den) : path_Join_L4 (n + 1) st = aexecK tT (otabK path_Join_lo) (ltabK path_Join_ll) (((loops path_Join_c)[0]?).getD .skip) (path_Join_L4_e.head.enc st) (lres path_Join_L4_e.head path_Join_L4_e.exits (path_Join_L4 n)) := by kernel_rfl
theorem path_Join_L4_lok : LOK Tryd.prog tG (ltab path_Join_ll) (((loops path_Join_c)[0]?).getD .skip) :=
  lok_of tT_ok path_Join_ook tP_mixed (loopsOK_of (by
    have e : loops (((loops path_Join_c)[0]?).getD .skip) = [] := by kernel_rfl
    rw [e]
    intro a ha
    cases ha)) path_Join_L4_e (F := path_Join_L4) (fun st => List.length st.1 + List.length st.2.1 + Int.natAbs st.2.2.1 + Int.natAbs st.2.2.2 + 1000) (fun s => by kernel_rfl) (fun st => by kernel_rfl) (fun st => by kernel_rfl) (fun n st => (path_Join_L4_B_eq n st).trans (loopF_eq tT path_Join_lo path_Join_ll (((loops path_Join_c)[0]?).getD .skip) path_Join_L4_e.head path_Join_L4_e.exits (path_Join_L4 n) st).symm)
theorem path_Join_eq (x : path_Join_sp.arg.den) : path_Join x = bodyK tT (otabK path_Join_lo) (ltabK path_Join_ll) Tryd.f58 path_Join_sp.arg path_Join_sp.res x (fun y => y) := by kernel_rfl
theorem path_Join_ok : SpecOK Tryd.prog tG path_Join_sp :=
  spec_of_body (c := path_Join_c) tT_ok path_Join_ook tP_mixed (fn := Tryd.f58) Tryd.func58 (by kernel_rfl) (by kernel_rfl) (loopsOK_of (by
    have e : loops path_Join_c = [((loops path_Join_c)[0]?).getD .skip] := by kernel_rfl
    rw [e]
    intro a ha
    simp only [List.mem_cons, List.not_mem_nil, or_false] at ha
    rcases ha with rfl
    · exact path_Join_L4_lok)) (fun x => enc_closed x (by kernel_rfl)) (by kernel_rfl) (by kernel_rfl) (fun x => (path_Join_eq x).trans (bodyF_eq tT path_Join_lo path_Join_ll Tryd.f58 path_Join_sp.arg path_Join_sp.res x).symm)

/-- A round of the loop 11 of stockyard/pattern.Fill. -/
noncomputable def pattern_Fill_L11_B (rec : ((List ByteArray) × Bool × (List ByteArray) × (List ByteArray) × Int × Int) → Option (((List ByteArray) × Bool × List ByteArray) ⊕ ((ByteArray × Int) ⊕ Empty))) (st : (List ByteArray) × Bool × (List ByteArray) × (List ByteArray) × Int × Int) : Option (((List ByteArray) × Bool × List ByteArray) ⊕ ((ByteArray × Int) ⊕ Empty)) :=
  brK (decide ((st.2.2.2.2.2 : Int) < st.2.2.2.2.1))
  (bindK (listAt st.2.2.2.1 st.2.2.2.2.2) fun e2 =>
  bindK (pattern_formOf e2) fun r3 =>
  brK (decide ((r3.1 : Int) = 2))
  (bindK (listAt st.1 0) fun e4 =>
  bindK (path_Component e4) fun r5 =>
  brK (!r5)
  (some (.inr (.inl ((ByteArray.mk #[]), 32))))
  (bindK (listAt st.1 0) fun e6 =>
  brK (decide (ByteArray.size e6 + ByteArray.size r3.2 ≤ 140737488355328))
  (brK (decide (0 ≤ (1 : Int) ∧ (1 : Int) ≤ (st.1.length : Int) ∧ (st.1.length : Int) ≤ (st.1.length : Int)))
  (brK (fits (List.length st.2.2.1) (List.length ([(e6 ++ r3.2)] : List ByteArray)) 16)
  (rec ((List.drop (Int.toNat 1) (List.take (Int.toNat (st.1.length : Int)) st.1)), st.2.1, (st.2.2.1 ++ ([(e6 ++ r3.2)] : List ByteArray)), st.2.2.2.1, st.2.2.2.2.1, (IntKind.wrap .i64 (st.2.2.2.2.2 + 1))))
  (none))
  (none))
  (none)))
  (brK (fits (List.length st.2.2.1) (List.length ([e2] : List ByteArray)) 16)
  (rec (st.1, st.2.1, (st.2.2.1 ++ ([e2] : List ByteArray)), st.2.2.2.1, st.2.2.2.2.1, (IntKind.wrap .i64 (st.2.2.2.2.2 + 1))))
  (none)))
  (some (.inl (st.1, st.2.1, st.2.2.1)))

noncomputable def pattern_Fill_L11 : Nat → ((List ByteArray) × Bool × (List ByteArray) × (List ByteArray) × Int × Int) → Option (((List ByteArray) × Bool × List ByteArray) ⊕ ((ByteArray × Int) ⊕ Empty))
  | 0, _ => none
  | n + 1, st => pattern_Fill_L11_B (pattern_Fill_L11 n) st

noncomputable def pattern_Fill_L11_f (st : (List ByteArray) × Bool × (List ByteArray) × (List ByteArray) × Int × Int) : Option (((List ByteArray) × Bool × List ByteArray) ⊕ ((ByteArray × Int) ⊕ Empty)) := pattern_Fill_L11 (List.length st.1 + List.length st.2.2.1 + List.length st.2.2.2.1 + Int.natAbs st.2.2.2.2.1 + Int.natAbs st.2.2.2.2.2 + 1000) st

/-- stockyard/pattern.Fill. -/
noncomputable def pattern_Fill (x : Pat × List ByteArray) : Option (ByteArray × Int) :=
  bindK (pattern_Kinds x.1) fun r1001 =>
  brK (decide ((r1001.2.2 : Int) ≠ 0))
  (some ((ByteArray.mk #[]), r1001.2.2))
  (brK r1001.2.1
  (brK (decide (((x.2.length : Int) : Int) ≠ (IntKind.wrap .i64 (r1001.1 + 1))))
  (some ((ByteArray.mk #[]), 32))
  (brK (decide (0 ≤ (0 : Int) ∧ (0 : Int) ≤ (x.1.1.length : Int) ∧ ((16 : Nat) : Int) * (x.1.1.length : Int) ≤ 281474976710656 ∧ ((x.1.1.length : Int) : Int) ≤ 9223372036854775807))
  (bindK (pattern_Fill_L11_f (x.2, r1001.2.1, (List.replicate (Int.toNat 0) (ByteArray.mk #[])), x.1.1, (x.1.1.length : Int), 0)) fun o1002 =>
  sumK o1002 (fun y1003 =>
  brK y1003.2.1
  (bindK (listAt y1003.1 0) fun e1005 =>
  bindK (strings_Split (e1005, (ByteArray.mk #[47]))) fun r1006 =>
  brK (fits (List.length y1003.2.2) (List.length r1006) 16)
  (bindK (path_Join (y1003.2.2 ++ r1006)) fun r1007 =>
  brK (decide ((r1007.2 : Int) ≠ 0))
  (some ((ByteArray.mk #[]), 32))
  (some (r1007.1, 0)))
  (none))
  (bindK (path_Join y1003.2.2) fun r1008 =>
  brK (decide ((r1008.2 : Int) ≠ 0))
  (some ((ByteArray.mk #[]), 32))
  (some (r1008.1, 0))))
  (fun z1004 => sumK z1004 (fun y1009 =>
  some y1009)
  (fun z1010 => emptyK z1010)))
  (none)))
  (brK (decide (((x.2.length : Int) : Int) ≠ r1001.1))
  (some ((ByteArray.mk #[]), 32))
  (brK (decide (0 ≤ (0 : Int) ∧ (0 : Int) ≤ (x.1.1.length : Int) ∧ ((16 : Nat) : Int) * (x.1.1.length : Int) ≤ 281474976710656 ∧ ((x.1.1.length : Int) : Int) ≤ 9223372036854775807))
  (bindK (pattern_Fill_L11_f (x.2, r1001.2.1, (List.replicate (Int.toNat 0) (ByteArray.mk #[])), x.1.1, (x.1.1.length : Int), 0)) fun o1011 =>
  sumK o1011 (fun y1012 =>
  brK y1012.2.1
  (bindK (listAt y1012.1 0) fun e1014 =>
  bindK (strings_Split (e1014, (ByteArray.mk #[47]))) fun r1015 =>
  brK (fits (List.length y1012.2.2) (List.length r1015) 16)
  (bindK (path_Join (y1012.2.2 ++ r1015)) fun r1016 =>
  brK (decide ((r1016.2 : Int) ≠ 0))
  (some ((ByteArray.mk #[]), 32))
  (some (r1016.1, 0)))
  (none))
  (bindK (path_Join y1012.2.2) fun r1017 =>
  brK (decide ((r1017.2 : Int) ≠ 0))
  (some ((ByteArray.mk #[]), 32))
  (some (r1017.1, 0))))
  (fun z1013 => sumK z1013 (fun y1018 =>
  some y1018)
  (fun z1019 => emptyK z1019)))
  (none))))

noncomputable def pattern_Fill_sp : FSpec := ⟨42, (.pair (.agg (.prod (.list .str) .bool)) (.list .str)), (.tup (.pair .str (.int .i64))), pattern_Fill⟩
noncomputable def pattern_Fill_lo : List FSpec := [pattern_Kinds_sp, pattern_formOf_sp, path_Component_sp, strings_Split_sp, path_Join_sp]
noncomputable def pattern_Fill_L11_e : LEnt := ⟨11, ⟨83, 1, [1, 7, 10, 38, 39, 40], (.pair (.list .str) (.pair .bool (.pair (.own 0 9 .str) (.pair (.list .str) (.pair (.int .i64) (.int .i64))))))⟩, [((.exit 0), ⟨83, 1, [1, 7, 10], (.pair (.list .str) (.pair .bool (.own 0 9 .str)))⟩), (.ret, ⟨83, 0, [4, 5], (.pair .str (.int .i64))⟩)], pattern_Fill_L11_f⟩
noncomputable def pattern_Fill_ll : List LEnt := [pattern_Fill_L11_e]
theorem pattern_Fill_ook : OOK Tryd.prog tG (otab pattern_Fill_lo) := ook_of (l := pattern_Fill_lo) (by
    intro sp hsp
    simp only [pattern_Fill_lo, List.mem_cons, List.not_mem_nil, or_false] at hsp
    rcases hsp with rfl | rfl | rfl | rfl | rfl
    · exact pattern_Kinds_ok
    · exact pattern_formOf_ok
    · exact path_Component_ok
    · exact strings_Split_ok
    · exact path_Join_ok)
noncomputable def pattern_Fill_c : Code := (Tryd.f42.body).getD .skip
theorem pattern_Fill_L11_B_eq (n : Nat) (st : pattern_Fill_L11_e.head.shape.den) : pattern_Fill_L11 (n + 1) st = aexecK tT (otabK pattern_Fill_lo) (ltabK pattern_Fill_ll) (((loops pattern_Fill_c)[0]?).getD .skip) (pattern_Fill_L11_e.head.enc st) (lres pattern_Fill_L11_e.head pattern_Fill_L11_e.exits (pattern_Fill_L11 n)) := by kernel_rfl
theorem pattern_Fill_L11_lok : LOK Tryd.prog tG (ltab pattern_Fill_ll) (((loops pattern_Fill_c)[0]?).getD .skip) :=
  lok_of tT_ok pattern_Fill_ook tP_mixed (loopsOK_of (by
    have e : loops (((loops pattern_Fill_c)[0]?).getD .skip) = [] := by kernel_rfl
    rw [e]
    intro a ha
    cases ha)) pattern_Fill_L11_e (F := pattern_Fill_L11) (fun st => List.length st.1 + List.length st.2.2.1 + List.length st.2.2.2.1 + Int.natAbs st.2.2.2.2.1 + Int.natAbs st.2.2.2.2.2 + 1000) (fun s => by kernel_rfl) (fun st => by kernel_rfl) (fun st => by kernel_rfl) (fun n st => (pattern_Fill_L11_B_eq n st).trans (loopF_eq tT pattern_Fill_lo pattern_Fill_ll (((loops pattern_Fill_c)[0]?).getD .skip) pattern_Fill_L11_e.head pattern_Fill_L11_e.exits (pattern_Fill_L11 n) st).symm)
theorem pattern_Fill_eq (x : pattern_Fill_sp.arg.den) : pattern_Fill x = bodyK tT (otabK pattern_Fill_lo) (ltabK pattern_Fill_ll) Tryd.f42 pattern_Fill_sp.arg pattern_Fill_sp.res x (fun y => y) := by kernel_rfl
theorem pattern_Fill_ok : SpecOK Tryd.prog tG pattern_Fill_sp :=
  spec_of_body (c := pattern_Fill_c) tT_ok pattern_Fill_ook tP_mixed (fn := Tryd.f42) Tryd.func42 (by kernel_rfl) (by kernel_rfl) (loopsOK_of (by
    have e : loops pattern_Fill_c = [((loops pattern_Fill_c)[0]?).getD .skip] := by kernel_rfl
    rw [e]
    intro a ha
    simp only [List.mem_cons, List.not_mem_nil, or_false] at ha
    rcases ha with rfl
    · exact pattern_Fill_L11_lok)) (fun x => enc_closed x (by kernel_rfl)) (by kernel_rfl) (by kernel_rfl) (fun x => (pattern_Fill_eq x).trans (bodyF_eq tT pattern_Fill_lo pattern_Fill_ll Tryd.f42 pattern_Fill_sp.arg pattern_Fill_sp.res x).symm)


/-- stockyard/rule.Forward. -/
noncomputable def rule_Forward (x : Rul × ByteArray) : Option (ByteArray × Bool) :=
  bindK (rule_Check x.1) fun r1001 =>
  brK (decide ((r1001 : Int) ≠ 0))
  (some ((ByteArray.mk #[]), false))
  (bindK (pattern_Match (x.1.2.1, x.2)) fun r1002 =>
  brK (!r1002.2)
  (some ((ByteArray.mk #[]), false))
  (bindK (pattern_Fill (x.1.2.2, r1002.1)) fun r1003 =>
  some (r1003.1, (decide ((r1003.2 : Int) = 0)))))

noncomputable def rule_Forward_sp : FSpec := ⟨29, (.pair (.agg (.prod .bool (.prod (.prod (.list .str) .bool) (.prod (.list .str) .bool)))) .str), (.tup (.pair .str .bool)), rule_Forward⟩
noncomputable def rule_Forward_lo : List FSpec := [rule_Check_sp, pattern_Match_sp, pattern_Fill_sp]
noncomputable def rule_Forward_ll : List LEnt := []
theorem rule_Forward_ook : OOK Tryd.prog tG (otab rule_Forward_lo) := ook_of (l := rule_Forward_lo) (by
    intro sp hsp
    simp only [rule_Forward_lo, List.mem_cons, List.not_mem_nil, or_false] at hsp
    rcases hsp with rfl | rfl | rfl
    · exact rule_Check_ok
    · exact pattern_Match_ok
    · exact pattern_Fill_ok)
noncomputable def rule_Forward_c : Code := (Tryd.f29.body).getD .skip
theorem rule_Forward_eq (x : rule_Forward_sp.arg.den) : rule_Forward x = bodyK tT (otabK rule_Forward_lo) (ltabK rule_Forward_ll) Tryd.f29 rule_Forward_sp.arg rule_Forward_sp.res x (fun y => y) := by kernel_rfl
theorem rule_Forward_ok : SpecOK Tryd.prog tG rule_Forward_sp :=
  spec_of_body (c := rule_Forward_c) tT_ok rule_Forward_ook tP_mixed (fn := Tryd.f29) Tryd.func29 (by kernel_rfl) (by kernel_rfl) (loopsOK_of (by
    have e : loops rule_Forward_c = [] := by kernel_rfl
    rw [e]
    intro a ha
    cases ha)) (fun x => enc_closed x (by kernel_rfl)) (by kernel_rfl) (by kernel_rfl) (fun x => (rule_Forward_eq x).trans (bodyF_eq tT rule_Forward_lo rule_Forward_ll Tryd.f29 rule_Forward_sp.arg rule_Forward_sp.res x).symm)


/-- stockyard/rule.copied. -/
noncomputable def rule_copied (x : Pat) : Option Pat :=
  brK (fits (List.length ([] : List ByteArray)) (List.length x.1) 16)
  (some ((([] : List ByteArray) ++ x.1), x.2))
  (none)

noncomputable def rule_copied_sp : FSpec := ⟨39, (.agg (.prod (.list .str) .bool)), (.agg (.prod (.list .str) .bool)), rule_copied⟩
noncomputable def rule_copied_lo : List FSpec := []
noncomputable def rule_copied_ll : List LEnt := []
theorem rule_copied_ook : OOK Tryd.prog tG (otab rule_copied_lo) := ook_of (l := rule_copied_lo) (by intro sp hsp; cases hsp)
noncomputable def rule_copied_c : Code := (Tryd.f39.body).getD .skip
theorem rule_copied_eq (x : rule_copied_sp.arg.den) : rule_copied x = bodyK tT (otabK rule_copied_lo) (ltabK rule_copied_ll) Tryd.f39 rule_copied_sp.arg rule_copied_sp.res x (fun y => y) := by kernel_rfl
theorem rule_copied_ok : SpecOK Tryd.prog tG rule_copied_sp :=
  spec_of_body (c := rule_copied_c) tT_ok rule_copied_ook tP_mixed (fn := Tryd.f39) Tryd.func39 (by kernel_rfl) (by kernel_rfl) (loopsOK_of (by
    have e : loops rule_copied_c = [] := by kernel_rfl
    rw [e]
    intro a ha
    cases ha)) (fun x => enc_closed x (by kernel_rfl)) (by kernel_rfl) (by kernel_rfl) (fun x => (rule_copied_eq x).trans (bodyF_eq tT rule_copied_lo rule_copied_ll Tryd.f39 rule_copied_sp.arg rule_copied_sp.res x).symm)


/-- stockyard/rule.Turn. -/
noncomputable def rule_Turn (x : Rul) : Option Rul :=
  bindK (rule_copied x.2.2) fun r1001 =>
  bindK (rule_copied x.2.1) fun r1002 =>
  some (x.1, r1001, r1002)

noncomputable def rule_Turn_sp : FSpec := ⟨26, (.agg (.prod .bool (.prod (.prod (.list .str) .bool) (.prod (.list .str) .bool)))), (.agg (.prod .bool (.prod (.prod (.list .str) .bool) (.prod (.list .str) .bool)))), rule_Turn⟩
noncomputable def rule_Turn_lo : List FSpec := [rule_copied_sp]
noncomputable def rule_Turn_ll : List LEnt := []
theorem rule_Turn_ook : OOK Tryd.prog tG (otab rule_Turn_lo) := ook_of (l := rule_Turn_lo) (by
    intro sp hsp
    simp only [rule_Turn_lo, List.mem_cons, List.not_mem_nil, or_false] at hsp
    rcases hsp with rfl
    · exact rule_copied_ok)
noncomputable def rule_Turn_c : Code := (Tryd.f26.body).getD .skip
theorem rule_Turn_eq (x : rule_Turn_sp.arg.den) : rule_Turn x = bodyK tT (otabK rule_Turn_lo) (ltabK rule_Turn_ll) Tryd.f26 rule_Turn_sp.arg rule_Turn_sp.res x (fun y => y) := by kernel_rfl
theorem rule_Turn_ok : SpecOK Tryd.prog tG rule_Turn_sp :=
  spec_of_body (c := rule_Turn_c) tT_ok rule_Turn_ook tP_mixed (fn := Tryd.f26) Tryd.func26 (by kernel_rfl) (by kernel_rfl) (loopsOK_of (by
    have e : loops rule_Turn_c = [] := by kernel_rfl
    rw [e]
    intro a ha
    cases ha)) (fun x => enc_closed x (by kernel_rfl)) (by kernel_rfl) (by kernel_rfl) (fun x => (rule_Turn_eq x).trans (bodyF_eq tT rule_Turn_lo rule_Turn_ll Tryd.f26 rule_Turn_sp.arg rule_Turn_sp.res x).symm)

/-- A round of the loop 3 of stockyard/view.Turn. -/
noncomputable def view_Turn_L3_B (rec : ((List Rul) × (List Rul) × Int × Int) → Option ((List Rul) ⊕ Empty)) (st : (List Rul) × (List Rul) × Int × Int) : Option ((List Rul) ⊕ Empty) :=
  brK (decide ((st.2.2.2 : Int) < st.2.2.1))
  (bindK (listAt st.2.1 st.2.2.2) fun e1 =>
  bindK (rule_Turn e1) fun r2 =>
  brK (fits (List.length st.1) (List.length ([r2] : List Rul)) 72)
  (rec ((st.1 ++ ([r2] : List Rul)), st.2.1, st.2.2.1, (IntKind.wrap .i64 (st.2.2.2 + 1))))
  (none))
  (some (.inl st.1))

noncomputable def view_Turn_L3 : Nat → ((List Rul) × (List Rul) × Int × Int) → Option ((List Rul) ⊕ Empty)
  | 0, _ => none
  | n + 1, st => view_Turn_L3_B (view_Turn_L3 n) st

noncomputable def view_Turn_L3_f (st : (List Rul) × (List Rul) × Int × Int) : Option ((List Rul) ⊕ Empty) := view_Turn_L3 (List.length st.1 + List.length st.2.1 + Int.natAbs st.2.2.1 + Int.natAbs st.2.2.2 + 1000) st

/-- stockyard/view.Turn. -/
noncomputable def view_Turn (x : List Rul) : Option (List Rul) :=
  bindK (view_Turn_L3_f (([] : List Rul), x, (x.length : Int), 0)) fun o1001 =>
  sumK o1001 (fun y1002 =>
  some y1002)
  (fun z1003 => emptyK z1003)

noncomputable def view_Turn_sp : FSpec := ⟨14, (.list (.prod .bool (.prod (.prod (.list .str) .bool) (.prod (.list .str) .bool)))), (.list (.prod .bool (.prod (.prod (.list .str) .bool) (.prod (.list .str) .bool)))), view_Turn⟩
noncomputable def view_Turn_lo : List FSpec := [rule_Turn_sp]
noncomputable def view_Turn_L3_e : LEnt := ⟨3, ⟨19, 1, [3, 6, 7, 8], (.pair (.own 0 34 (.prod .bool (.prod (.prod (.list .str) .bool) (.prod (.list .str) .bool)))) (.pair (.list (.prod .bool (.prod (.prod (.list .str) .bool) (.prod (.list .str) .bool)))) (.pair (.int .i64) (.int .i64))))⟩, [((.exit 0), ⟨19, 1, [3], (.own 0 34 (.prod .bool (.prod (.prod (.list .str) .bool) (.prod (.list .str) .bool))))⟩)], view_Turn_L3_f⟩
noncomputable def view_Turn_ll : List LEnt := [view_Turn_L3_e]
theorem view_Turn_ook : OOK Tryd.prog tG (otab view_Turn_lo) := ook_of (l := view_Turn_lo) (by
    intro sp hsp
    simp only [view_Turn_lo, List.mem_cons, List.not_mem_nil, or_false] at hsp
    rcases hsp with rfl
    · exact rule_Turn_ok)
noncomputable def view_Turn_c : Code := (Tryd.f14.body).getD .skip
theorem view_Turn_L3_B_eq (n : Nat) (st : view_Turn_L3_e.head.shape.den) : view_Turn_L3 (n + 1) st = aexecK tT (otabK view_Turn_lo) (ltabK view_Turn_ll) (((loops view_Turn_c)[0]?).getD .skip) (view_Turn_L3_e.head.enc st) (lres view_Turn_L3_e.head view_Turn_L3_e.exits (view_Turn_L3 n)) := by kernel_rfl
theorem view_Turn_L3_lok : LOK Tryd.prog tG (ltab view_Turn_ll) (((loops view_Turn_c)[0]?).getD .skip) :=
  lok_of tT_ok view_Turn_ook tP_mixed (loopsOK_of (by
    have e : loops (((loops view_Turn_c)[0]?).getD .skip) = [] := by kernel_rfl
    rw [e]
    intro a ha
    cases ha)) view_Turn_L3_e (F := view_Turn_L3) (fun st => List.length st.1 + List.length st.2.1 + Int.natAbs st.2.2.1 + Int.natAbs st.2.2.2 + 1000) (fun s => by kernel_rfl) (fun st => by kernel_rfl) (fun st => by kernel_rfl) (fun n st => (view_Turn_L3_B_eq n st).trans (loopF_eq tT view_Turn_lo view_Turn_ll (((loops view_Turn_c)[0]?).getD .skip) view_Turn_L3_e.head view_Turn_L3_e.exits (view_Turn_L3 n) st).symm)
theorem view_Turn_eq (x : view_Turn_sp.arg.den) : view_Turn x = bodyK tT (otabK view_Turn_lo) (ltabK view_Turn_ll) Tryd.f14 view_Turn_sp.arg view_Turn_sp.res x (fun y => y) := by kernel_rfl
theorem view_Turn_ok : SpecOK Tryd.prog tG view_Turn_sp :=
  spec_of_body (c := view_Turn_c) tT_ok view_Turn_ook tP_mixed (fn := Tryd.f14) Tryd.func14 (by kernel_rfl) (by kernel_rfl) (loopsOK_of (by
    have e : loops view_Turn_c = [((loops view_Turn_c)[0]?).getD .skip] := by kernel_rfl
    rw [e]
    intro a ha
    simp only [List.mem_cons, List.not_mem_nil, or_false] at ha
    rcases ha with rfl
    · exact view_Turn_L3_lok)) (fun x => enc_closed x (by kernel_rfl)) (by kernel_rfl) (by kernel_rfl) (fun x => (view_Turn_eq x).trans (bodyF_eq tT view_Turn_lo view_Turn_ll Tryd.f14 view_Turn_sp.arg view_Turn_sp.res x).symm)


/-- stockyard/view.Forward. -/
noncomputable def view_Forward (x : (List Rul) × ByteArray) : Option (ByteArray × Bool) :=
  bindK (view_Decides x) fun r1001 =>
  brK (decide ((r1001 : Int) < 0))
  (some ((ByteArray.mk #[]), false))
  (bindK (listAt x.1 r1001) fun e1002 =>
  brK e1002.1
  (some ((ByteArray.mk #[]), false))
  (bindK (listAt x.1 r1001) fun e1003 =>
  bindK (rule_Forward (e1003, x.2)) fun r1004 =>
  brK (!r1004.2)
  (some ((ByteArray.mk #[]), false))
  (brK (decide (0 ≤ ((IntKind.wrap .i64 (r1001 + 1)) : Int) ∧ ((IntKind.wrap .i64 (r1001 + 1)) : Int) ≤ (x.1.length : Int) ∧ (x.1.length : Int) ≤ (x.1.length : Int)))
  (bindK (view_Turn (List.drop (Int.toNat (IntKind.wrap .i64 (r1001 + 1))) (List.take (Int.toNat (x.1.length : Int)) x.1))) fun r1005 =>
  bindK (view_decider r1004.1) fun r1006 =>
  bindK (view_last__view_decider_1 (r1005, r1006)) fun r1007 =>
  brK (decide ((r1007 : Int) ≥ 0))
  (some ((ByteArray.mk #[]), false))
  (some (r1004.1, true)))
  (none))))

noncomputable def view_Forward_sp : FSpec := ⟨17, (.pair (.list (.prod .bool (.prod (.prod (.list .str) .bool) (.prod (.list .str) .bool)))) .str), (.tup (.pair .str .bool)), view_Forward⟩
noncomputable def view_Forward_lo : List FSpec := [view_Decides_sp, rule_Forward_sp, view_Turn_sp, view_decider_sp, view_last__view_decider_1_sp]
noncomputable def view_Forward_ll : List LEnt := []
theorem view_Forward_ook : OOK Tryd.prog tG (otab view_Forward_lo) := ook_of (l := view_Forward_lo) (by
    intro sp hsp
    simp only [view_Forward_lo, List.mem_cons, List.not_mem_nil, or_false] at hsp
    rcases hsp with rfl | rfl | rfl | rfl | rfl
    · exact view_Decides_ok
    · exact rule_Forward_ok
    · exact view_Turn_ok
    · exact view_decider_ok
    · exact view_last__view_decider_1_ok)
noncomputable def view_Forward_c : Code := (Tryd.f17.body).getD .skip
theorem view_Forward_eq (x : view_Forward_sp.arg.den) : view_Forward x = bodyK tT (otabK view_Forward_lo) (ltabK view_Forward_ll) Tryd.f17 view_Forward_sp.arg view_Forward_sp.res x (fun y => y) := by kernel_rfl
theorem view_Forward_ok : SpecOK Tryd.prog tG view_Forward_sp :=
  spec_of_body (c := view_Forward_c) tT_ok view_Forward_ook tP_mixed (fn := Tryd.f17) Tryd.func17 (by kernel_rfl) (by kernel_rfl) (loopsOK_of (by
    have e : loops view_Forward_c = [] := by kernel_rfl
    rw [e]
    intro a ha
    cases ha)) (fun x => enc_closed x (by kernel_rfl)) (by kernel_rfl) (by kernel_rfl) (fun x => (view_Forward_eq x).trans (bodyF_eq tT view_Forward_lo view_Forward_ll Tryd.f17 view_Forward_sp.arg view_Forward_sp.res x).symm)


/-- stockyard/stockyardlaw06.awake. -/
noncomputable def law06_awake (x : Unit) : Option Bool :=
  bindK (view_Forward (([(false, (([(ByteArray.mk #[100])] : List ByteArray), true), ([(ByteArray.mk #[99])] : List ByteArray), true)] : List Rul), (ByteArray.mk #[47, 47, 100, 47, 97]))) fun r1001 =>
  brK r1001.2
  (brK (decide (r1001.1 = (ByteArray.mk #[47, 47, 99, 47, 97])))
  (bindK (view_Decides (([(false, (([(ByteArray.mk #[100])] : List ByteArray), true), ([(ByteArray.mk #[99])] : List ByteArray), true)] : List Rul), (ByteArray.mk #[47, 47, 101, 47, 97]))) fun r1002 =>
  some (decide ((r1002 : Int) = (-1))))
  (some false))
  (some false)

noncomputable def law06_awake_sp : FSpec := ⟨11, .nil, .bool, law06_awake⟩
noncomputable def law06_awake_lo : List FSpec := [view_Forward_sp, view_Decides_sp]
noncomputable def law06_awake_ll : List LEnt := []
theorem law06_awake_ook : OOK Tryd.prog tG (otab law06_awake_lo) := ook_of (l := law06_awake_lo) (by
    intro sp hsp
    simp only [law06_awake_lo, List.mem_cons, List.not_mem_nil, or_false] at hsp
    rcases hsp with rfl | rfl
    · exact view_Forward_ok
    · exact view_Decides_ok)
noncomputable def law06_awake_c : Code := (Tryd.f11.body).getD .skip
theorem law06_awake_eq (x : law06_awake_sp.arg.den) : law06_awake x = bodyK tT (otabK law06_awake_lo) (ltabK law06_awake_ll) Tryd.f11 law06_awake_sp.arg law06_awake_sp.res x (fun y => y) := by kernel_rfl
theorem law06_awake_ok : SpecOK Tryd.prog tG law06_awake_sp :=
  spec_of_body (c := law06_awake_c) tT_ok law06_awake_ook tP_mixed (fn := Tryd.f11) Tryd.func11 (by kernel_rfl) (by kernel_rfl) (loopsOK_of (by
    have e : loops law06_awake_c = [] := by kernel_rfl
    rw [e]
    intro a ha
    cases ha)) (fun x => enc_closed x (by kernel_rfl)) (by kernel_rfl) (by kernel_rfl) (fun x => (law06_awake_eq x).trans (bodyF_eq tT law06_awake_lo law06_awake_ll Tryd.f11 law06_awake_sp.arg law06_awake_sp.res x).symm)


/-- internal/bytealg.IndexByteString. -/
noncomputable def bytealg_IndexByteString (x : ByteArray × Int) : Option Int :=
  indexByteF x.1 x.2
noncomputable def bytealg_IndexByteString_sp : FSpec := ⟨79, (.pair .str (.int .u8)), (.int .i64), bytealg_IndexByteString⟩
theorem bytealg_IndexByteString_ok : SpecOK Tryd.prog tG bytealg_IndexByteString_sp := spec_indexByte Tryd.func79 (by kernel_rfl) (by kernel_rfl) (by kernel_rfl) (by kernel_rfl)


/-- internal/stringslite.IndexByte. -/
noncomputable def stringslite_IndexByte (x : ByteArray × Int) : Option Int :=
  bindK (bytealg_IndexByteString x) fun r1001 =>
  some r1001

noncomputable def stringslite_IndexByte_sp : FSpec := ⟨71, (.pair .str (.int .u8)), (.int .i64), stringslite_IndexByte⟩
noncomputable def stringslite_IndexByte_lo : List FSpec := [bytealg_IndexByteString_sp]
noncomputable def stringslite_IndexByte_ll : List LEnt := []
theorem stringslite_IndexByte_ook : OOK Tryd.prog tG (otab stringslite_IndexByte_lo) := ook_of (l := stringslite_IndexByte_lo) (by
    intro sp hsp
    simp only [stringslite_IndexByte_lo, List.mem_cons, List.not_mem_nil, or_false] at hsp
    rcases hsp with rfl
    · exact bytealg_IndexByteString_ok)
noncomputable def stringslite_IndexByte_c : Code := (Tryd.f71.body).getD .skip
theorem stringslite_IndexByte_eq (x : stringslite_IndexByte_sp.arg.den) : stringslite_IndexByte x = bodyK tT (otabK stringslite_IndexByte_lo) (ltabK stringslite_IndexByte_ll) Tryd.f71 stringslite_IndexByte_sp.arg stringslite_IndexByte_sp.res x (fun y => y) := by kernel_rfl
theorem stringslite_IndexByte_ok : SpecOK Tryd.prog tG stringslite_IndexByte_sp :=
  spec_of_body (c := stringslite_IndexByte_c) tT_ok stringslite_IndexByte_ook tP_mixed (fn := Tryd.f71) Tryd.func71 (by kernel_rfl) (by kernel_rfl) (loopsOK_of (by
    have e : loops stringslite_IndexByte_c = [] := by kernel_rfl
    rw [e]
    intro a ha
    cases ha)) (fun x => enc_closed x (by kernel_rfl)) (by kernel_rfl) (by kernel_rfl) (fun x => (stringslite_IndexByte_eq x).trans (bodyF_eq tT stringslite_IndexByte_lo stringslite_IndexByte_ll Tryd.f71 stringslite_IndexByte_sp.arg stringslite_IndexByte_sp.res x).symm)


/-- strings.IndexByte. -/
noncomputable def strings_IndexByte (x : ByteArray × Int) : Option Int :=
  bindK (stringslite_IndexByte x) fun r1001 =>
  some r1001

noncomputable def strings_IndexByte_sp : FSpec := ⟨61, (.pair .str (.int .u8)), (.int .i64), strings_IndexByte⟩
noncomputable def strings_IndexByte_lo : List FSpec := [stringslite_IndexByte_sp]
noncomputable def strings_IndexByte_ll : List LEnt := []
theorem strings_IndexByte_ook : OOK Tryd.prog tG (otab strings_IndexByte_lo) := ook_of (l := strings_IndexByte_lo) (by
    intro sp hsp
    simp only [strings_IndexByte_lo, List.mem_cons, List.not_mem_nil, or_false] at hsp
    rcases hsp with rfl
    · exact stringslite_IndexByte_ok)
noncomputable def strings_IndexByte_c : Code := (Tryd.f61.body).getD .skip
theorem strings_IndexByte_eq (x : strings_IndexByte_sp.arg.den) : strings_IndexByte x = bodyK tT (otabK strings_IndexByte_lo) (ltabK strings_IndexByte_ll) Tryd.f61 strings_IndexByte_sp.arg strings_IndexByte_sp.res x (fun y => y) := by kernel_rfl
theorem strings_IndexByte_ok : SpecOK Tryd.prog tG strings_IndexByte_sp :=
  spec_of_body (c := strings_IndexByte_c) tT_ok strings_IndexByte_ook tP_mixed (fn := Tryd.f61) Tryd.func61 (by kernel_rfl) (by kernel_rfl) (loopsOK_of (by
    have e : loops strings_IndexByte_c = [] := by kernel_rfl
    rw [e]
    intro a ha
    cases ha)) (fun x => enc_closed x (by kernel_rfl)) (by kernel_rfl) (by kernel_rfl) (fun x => (strings_IndexByte_eq x).trans (bodyF_eq tT strings_IndexByte_lo strings_IndexByte_ll Tryd.f61 strings_IndexByte_sp.arg strings_IndexByte_sp.res x).symm)

/-- A round of the loop 4 of stockyard/stockyardref02.Component. -/
noncomputable def ref02_Component_L4_B (rec : (ByteArray × Int) → Option (Unit ⊕ (Bool ⊕ Empty))) (st : ByteArray × Int) : Option (Unit ⊕ (Bool ⊕ Empty)) :=
  brK (decide ((st.2 : Int) < (st.1.size : Int)))
  (bindK (strAt st.1 st.2) fun c2 =>
  bindK (strings_IndexByte ((ByteArray.mk #[65, 66, 67, 68, 69, 70, 71, 72, 73, 74, 75, 76, 77, 78, 79, 80, 81, 82, 83, 84, 85, 86, 87, 88, 89, 90, 97, 98, 99, 100, 101, 102, 103, 104, 105, 106, 107, 108, 109, 110, 111, 112, 113, 114, 115, 116, 117, 118, 119, 120, 121, 122, 48, 49, 50, 51, 52, 53, 54, 55, 56, 57, 95, 46, 43, 45]), c2)) fun r3 =>
  brK (decide ((r3 : Int) < 0))
  (some (.inr (.inl false)))
  (rec (st.1, (IntKind.wrap .i64 (st.2 + 1)))))
  (some (.inl ()))

noncomputable def ref02_Component_L4 : Nat → (ByteArray × Int) → Option (Unit ⊕ (Bool ⊕ Empty))
  | 0, _ => none
  | n + 1, st => ref02_Component_L4_B (ref02_Component_L4 n) st

noncomputable def ref02_Component_L4_f (st : ByteArray × Int) : Option (Unit ⊕ (Bool ⊕ Empty)) := ref02_Component_L4 (ByteArray.size st.1 + Int.natAbs st.2 + 1000) st

/-- stockyard/stockyardref02.Component. -/
noncomputable def ref02_Component (x : ByteArray) : Option Bool :=
  brK (decide (x = (ByteArray.mk #[])))
  (some false)
  (bindK (strAt x 0) fun c1001 =>
  brK (decide ((c1001 : Int) = 46))
  (some false)
  (bindK (ref02_Component_L4_f (x, 0)) fun o1002 =>
  sumK o1002 (fun y1003 =>
  some true)
  (fun z1004 => sumK z1004 (fun y1005 =>
  some y1005)
  (fun z1006 => emptyK z1006))))

noncomputable def ref02_Component_sp : FSpec := ⟨49, .str, .bool, ref02_Component⟩
noncomputable def ref02_Component_lo : List FSpec := [strings_IndexByte_sp]
noncomputable def ref02_Component_L4_e : LEnt := ⟨4, ⟨22, 0, [0, 3], (.pair .str (.int .i64))⟩, [((.exit 0), ⟨22, 0, [], .nil⟩), (.ret, ⟨22, 0, [2], .bool⟩)], ref02_Component_L4_f⟩
noncomputable def ref02_Component_ll : List LEnt := [ref02_Component_L4_e]
theorem ref02_Component_ook : OOK Tryd.prog tG (otab ref02_Component_lo) := ook_of (l := ref02_Component_lo) (by
    intro sp hsp
    simp only [ref02_Component_lo, List.mem_cons, List.not_mem_nil, or_false] at hsp
    rcases hsp with rfl
    · exact strings_IndexByte_ok)
noncomputable def ref02_Component_c : Code := (Tryd.f49.body).getD .skip
theorem ref02_Component_L4_B_eq (n : Nat) (st : ref02_Component_L4_e.head.shape.den) : ref02_Component_L4 (n + 1) st = aexecK tT (otabK ref02_Component_lo) (ltabK ref02_Component_ll) (((loops ref02_Component_c)[0]?).getD .skip) (ref02_Component_L4_e.head.enc st) (lres ref02_Component_L4_e.head ref02_Component_L4_e.exits (ref02_Component_L4 n)) := by kernel_rfl
theorem ref02_Component_L4_lok : LOK Tryd.prog tG (ltab ref02_Component_ll) (((loops ref02_Component_c)[0]?).getD .skip) :=
  lok_of tT_ok ref02_Component_ook tP_mixed (loopsOK_of (by
    have e : loops (((loops ref02_Component_c)[0]?).getD .skip) = [] := by kernel_rfl
    rw [e]
    intro a ha
    cases ha)) ref02_Component_L4_e (F := ref02_Component_L4) (fun st => ByteArray.size st.1 + Int.natAbs st.2 + 1000) (fun s => by kernel_rfl) (fun st => by kernel_rfl) (fun st => by kernel_rfl) (fun n st => (ref02_Component_L4_B_eq n st).trans (loopF_eq tT ref02_Component_lo ref02_Component_ll (((loops ref02_Component_c)[0]?).getD .skip) ref02_Component_L4_e.head ref02_Component_L4_e.exits (ref02_Component_L4 n) st).symm)
theorem ref02_Component_eq (x : ref02_Component_sp.arg.den) : ref02_Component x = bodyK tT (otabK ref02_Component_lo) (ltabK ref02_Component_ll) Tryd.f49 ref02_Component_sp.arg ref02_Component_sp.res x (fun y => y) := by kernel_rfl
theorem ref02_Component_ok : SpecOK Tryd.prog tG ref02_Component_sp :=
  spec_of_body (c := ref02_Component_c) tT_ok ref02_Component_ook tP_mixed (fn := Tryd.f49) Tryd.func49 (by kernel_rfl) (by kernel_rfl) (loopsOK_of (by
    have e : loops ref02_Component_c = [((loops ref02_Component_c)[0]?).getD .skip] := by kernel_rfl
    rw [e]
    intro a ha
    simp only [List.mem_cons, List.not_mem_nil, or_false] at ha
    rcases ha with rfl
    · exact ref02_Component_L4_lok)) (fun x => enc_closed x (by kernel_rfl)) (by kernel_rfl) (by kernel_rfl) (fun x => (ref02_Component_eq x).trans (bodyF_eq tT ref02_Component_lo ref02_Component_ll Tryd.f49 ref02_Component_sp.arg ref02_Component_sp.res x).symm)

/-- A round of the loop 4 of stockyard/stockyardref03.Star. -/
noncomputable def ref03_Star_L4_B (rec : (ByteArray × Int) → Option (ByteArray ⊕ ((ByteArray × Bool) ⊕ Empty))) (st : ByteArray × Int) : Option (ByteArray ⊕ ((ByteArray × Bool) ⊕ Empty)) :=
  brK (decide ((st.2 : Int) < (st.1.size : Int)))
  (bindK (strAt st.1 st.2) fun c2 =>
  bindK (strings_IndexByte ((ByteArray.mk #[65, 66, 67, 68, 69, 70, 71, 72, 73, 74, 75, 76, 77, 78, 79, 80, 81, 82, 83, 84, 85, 86, 87, 88, 89, 90, 97, 98, 99, 100, 101, 102, 103, 104, 105, 106, 107, 108, 109, 110, 111, 112, 113, 114, 115, 116, 117, 118, 119, 120, 121, 122, 48, 49, 50, 51, 52, 53, 54, 55, 56, 57, 95, 46, 43, 45]), c2)) fun r3 =>
  brK (decide ((r3 : Int) < 0))
  (some (.inr (.inl ((ByteArray.mk #[]), false))))
  (rec (st.1, (IntKind.wrap .i64 (st.2 + 1)))))
  (some (.inl st.1))

noncomputable def ref03_Star_L4 : Nat → (ByteArray × Int) → Option (ByteArray ⊕ ((ByteArray × Bool) ⊕ Empty))
  | 0, _ => none
  | n + 1, st => ref03_Star_L4_B (ref03_Star_L4 n) st

noncomputable def ref03_Star_L4_f (st : ByteArray × Int) : Option (ByteArray ⊕ ((ByteArray × Bool) ⊕ Empty)) := ref03_Star_L4 (ByteArray.size st.1 + Int.natAbs st.2 + 1000) st

/-- stockyard/stockyardref03.Star. -/
noncomputable def ref03_Star (x : ByteArray) : Option (ByteArray × Bool) :=
  brK (decide (x = (ByteArray.mk #[])))
  (some ((ByteArray.mk #[]), false))
  (bindK (strAt x 0) fun c1001 =>
  brK (decide ((c1001 : Int) ≠ 42))
  (some ((ByteArray.mk #[]), false))
  (bindK (ref03_Star_L4_f (x, 1)) fun o1002 =>
  sumK o1002 (fun y1003 =>
  brK (decide (0 ≤ (1 : Int) ∧ (1 : Int) ≤ (y1003.size : Int) ∧ (y1003.size : Int) ≤ (y1003.size : Int)))
  (some ((ByteArray.extract y1003 (Int.toNat 1) (Int.toNat (y1003.size : Int))), true))
  (none))
  (fun z1004 => sumK z1004 (fun y1005 =>
  some y1005)
  (fun z1006 => emptyK z1006))))

noncomputable def ref03_Star_sp : FSpec := ⟨46, .str, (.tup (.pair .str .bool)), ref03_Star⟩
noncomputable def ref03_Star_lo : List FSpec := [strings_IndexByte_sp]
noncomputable def ref03_Star_L4_e : LEnt := ⟨4, ⟨25, 0, [0, 4], (.pair .str (.int .i64))⟩, [((.exit 0), ⟨25, 0, [0], .str⟩), (.ret, ⟨25, 0, [2, 3], (.pair .str .bool)⟩)], ref03_Star_L4_f⟩
noncomputable def ref03_Star_ll : List LEnt := [ref03_Star_L4_e]
theorem ref03_Star_ook : OOK Tryd.prog tG (otab ref03_Star_lo) := ook_of (l := ref03_Star_lo) (by
    intro sp hsp
    simp only [ref03_Star_lo, List.mem_cons, List.not_mem_nil, or_false] at hsp
    rcases hsp with rfl
    · exact strings_IndexByte_ok)
noncomputable def ref03_Star_c : Code := (Tryd.f46.body).getD .skip
theorem ref03_Star_L4_B_eq (n : Nat) (st : ref03_Star_L4_e.head.shape.den) : ref03_Star_L4 (n + 1) st = aexecK tT (otabK ref03_Star_lo) (ltabK ref03_Star_ll) (((loops ref03_Star_c)[0]?).getD .skip) (ref03_Star_L4_e.head.enc st) (lres ref03_Star_L4_e.head ref03_Star_L4_e.exits (ref03_Star_L4 n)) := by kernel_rfl
theorem ref03_Star_L4_lok : LOK Tryd.prog tG (ltab ref03_Star_ll) (((loops ref03_Star_c)[0]?).getD .skip) :=
  lok_of tT_ok ref03_Star_ook tP_mixed (loopsOK_of (by
    have e : loops (((loops ref03_Star_c)[0]?).getD .skip) = [] := by kernel_rfl
    rw [e]
    intro a ha
    cases ha)) ref03_Star_L4_e (F := ref03_Star_L4) (fun st => ByteArray.size st.1 + Int.natAbs st.2 + 1000) (fun s => by kernel_rfl) (fun st => by kernel_rfl) (fun st => by kernel_rfl) (fun n st => (ref03_Star_L4_B_eq n st).trans (loopF_eq tT ref03_Star_lo ref03_Star_ll (((loops ref03_Star_c)[0]?).getD .skip) ref03_Star_L4_e.head ref03_Star_L4_e.exits (ref03_Star_L4 n) st).symm)
theorem ref03_Star_eq (x : ref03_Star_sp.arg.den) : ref03_Star x = bodyK tT (otabK ref03_Star_lo) (ltabK ref03_Star_ll) Tryd.f46 ref03_Star_sp.arg ref03_Star_sp.res x (fun y => y) := by kernel_rfl
theorem ref03_Star_ok : SpecOK Tryd.prog tG ref03_Star_sp :=
  spec_of_body (c := ref03_Star_c) tT_ok ref03_Star_ook tP_mixed (fn := Tryd.f46) Tryd.func46 (by kernel_rfl) (by kernel_rfl) (loopsOK_of (by
    have e : loops ref03_Star_c = [((loops ref03_Star_c)[0]?).getD .skip] := by kernel_rfl
    rw [e]
    intro a ha
    simp only [List.mem_cons, List.not_mem_nil, or_false] at ha
    rcases ha with rfl
    · exact ref03_Star_L4_lok)) (fun x => enc_closed x (by kernel_rfl)) (by kernel_rfl) (by kernel_rfl) (fun x => (ref03_Star_eq x).trans (bodyF_eq tT ref03_Star_lo ref03_Star_ll Tryd.f46 ref03_Star_sp.arg ref03_Star_sp.res x).symm)


/-- stockyard/stockyardref03.Part. -/
noncomputable def ref03_Part (x : ByteArray) : Option Bool :=
  bindK (ref03_Star x) fun r1001 =>
  brK r1001.2
  (some true)
  (bindK (ref02_Component x) fun r1002 =>
  some r1002)

noncomputable def ref03_Part_sp : FSpec := ⟨54, .str, .bool, ref03_Part⟩
noncomputable def ref03_Part_lo : List FSpec := [ref03_Star_sp, ref02_Component_sp]
noncomputable def ref03_Part_ll : List LEnt := []
theorem ref03_Part_ook : OOK Tryd.prog tG (otab ref03_Part_lo) := ook_of (l := ref03_Part_lo) (by
    intro sp hsp
    simp only [ref03_Part_lo, List.mem_cons, List.not_mem_nil, or_false] at hsp
    rcases hsp with rfl | rfl
    · exact ref03_Star_ok
    · exact ref02_Component_ok)
noncomputable def ref03_Part_c : Code := (Tryd.f54.body).getD .skip
theorem ref03_Part_eq (x : ref03_Part_sp.arg.den) : ref03_Part x = bodyK tT (otabK ref03_Part_lo) (ltabK ref03_Part_ll) Tryd.f54 ref03_Part_sp.arg ref03_Part_sp.res x (fun y => y) := by kernel_rfl
theorem ref03_Part_ok : SpecOK Tryd.prog tG ref03_Part_sp :=
  spec_of_body (c := ref03_Part_c) tT_ok ref03_Part_ook tP_mixed (fn := Tryd.f54) Tryd.func54 (by kernel_rfl) (by kernel_rfl) (loopsOK_of (by
    have e : loops ref03_Part_c = [] := by kernel_rfl
    rw [e]
    intro a ha
    cases ha)) (fun x => enc_closed x (by kernel_rfl)) (by kernel_rfl) (by kernel_rfl) (fun x => (ref03_Part_eq x).trans (bodyF_eq tT ref03_Part_lo ref03_Part_ll Tryd.f54 ref03_Part_sp.arg ref03_Part_sp.res x).symm)

/-- A round of the loop 4 of stockyard/stockyardref03.Check. -/
noncomputable def ref03_Check_L4_B (rec : (((List ByteArray) × Bool) × (List ByteArray) × Int × Int) → Option (((List ByteArray) × Bool) ⊕ (Int ⊕ Empty))) (st : ((List ByteArray) × Bool) × (List ByteArray) × Int × Int) : Option (((List ByteArray) × Bool) ⊕ (Int ⊕ Empty)) :=
  brK (decide ((st.2.2.2 : Int) < st.2.2.1))
  (bindK (listAt st.2.1 st.2.2.2) fun e3 =>
  bindK (ref03_Part e3) fun r4 =>
  brK (!r4)
  (some (.inr (.inl 30)))
  (rec (st.1, st.2.1, st.2.2.1, (IntKind.wrap .i64 (st.2.2.2 + 1)))))
  (some (.inl st.1))

noncomputable def ref03_Check_L4 : Nat → (((List ByteArray) × Bool) × (List ByteArray) × Int × Int) → Option (((List ByteArray) × Bool) ⊕ (Int ⊕ Empty))
  | 0, _ => none
  | n + 1, st => ref03_Check_L4_B (ref03_Check_L4 n) st

noncomputable def ref03_Check_L4_f (st : ((List ByteArray) × Bool) × (List ByteArray) × Int × Int) : Option (((List ByteArray) × Bool) ⊕ (Int ⊕ Empty)) := ref03_Check_L4 (List.length st.1.1 + List.length st.2.1 + Int.natAbs st.2.2.1 + Int.natAbs st.2.2.2 + 1000) st

/-- stockyard/stockyardref03.Check. -/
noncomputable def ref03_Check (x : Pat) : Option Int :=
  brK (decide (((x.1.length : Int) : Int) = 0))
  (some 30)
  (brK (decide (((x.1.length : Int) : Int) = 1))
  (brK (!x.2)
  (some 30)
  (bindK (listAt x.1 0) fun e1001 =>
  bindK (ref02_Component e1001) fun r1002 =>
  brK (!r1002)
  (some 30)
  (brK (decide (0 ≤ (1 : Int) ∧ (1 : Int) ≤ (x.1.length : Int) ∧ (x.1.length : Int) ≤ (x.1.length : Int)))
  (bindK (ref03_Check_L4_f (x, (List.drop (Int.toNat 1) (List.take (Int.toNat (x.1.length : Int)) x.1)), ((List.drop (Int.toNat 1) (List.take (Int.toNat (x.1.length : Int)) x.1)).length : Int), 0)) fun o1003 =>
  sumK o1003 (fun y1004 =>
  brK (decide (((y1004.1.length : Int) : Int) > 12))
  (some 31)
  (some 0))
  (fun z1005 => sumK z1005 (fun y1006 =>
  some y1006)
  (fun z1007 => emptyK z1007)))
  (none))))
  (bindK (listAt x.1 0) fun e1008 =>
  bindK (ref02_Component e1008) fun r1009 =>
  brK (!r1009)
  (some 30)
  (brK (decide (0 ≤ (1 : Int) ∧ (1 : Int) ≤ (x.1.length : Int) ∧ (x.1.length : Int) ≤ (x.1.length : Int)))
  (bindK (ref03_Check_L4_f (x, (List.drop (Int.toNat 1) (List.take (Int.toNat (x.1.length : Int)) x.1)), ((List.drop (Int.toNat 1) (List.take (Int.toNat (x.1.length : Int)) x.1)).length : Int), 0)) fun o1010 =>
  sumK o1010 (fun y1011 =>
  brK (decide (((y1011.1.length : Int) : Int) > 12))
  (some 31)
  (some 0))
  (fun z1012 => sumK z1012 (fun y1013 =>
  some y1013)
  (fun z1014 => emptyK z1014)))
  (none))))

noncomputable def ref03_Check_sp : FSpec := ⟨37, (.agg (.prod (.list .str) .bool)), (.int .i64), ref03_Check⟩
noncomputable def ref03_Check_lo : List FSpec := [ref02_Component_sp, ref03_Part_sp]
noncomputable def ref03_Check_L4_e : LEnt := ⟨4, ⟨44, 1, [1, 30, 31, 32], (.pair (.box 0 (.pair (.list .str) .bool)) (.pair (.list .str) (.pair (.int .i64) (.int .i64))))⟩, [((.exit 0), ⟨44, 1, [1], (.box 0 (.pair (.list .str) .bool))⟩), (.ret, ⟨44, 0, [2], (.int .i64)⟩)], ref03_Check_L4_f⟩
noncomputable def ref03_Check_ll : List LEnt := [ref03_Check_L4_e]
theorem ref03_Check_ook : OOK Tryd.prog tG (otab ref03_Check_lo) := ook_of (l := ref03_Check_lo) (by
    intro sp hsp
    simp only [ref03_Check_lo, List.mem_cons, List.not_mem_nil, or_false] at hsp
    rcases hsp with rfl | rfl
    · exact ref02_Component_ok
    · exact ref03_Part_ok)
noncomputable def ref03_Check_c : Code := (Tryd.f37.body).getD .skip
theorem ref03_Check_L4_B_eq (n : Nat) (st : ref03_Check_L4_e.head.shape.den) : ref03_Check_L4 (n + 1) st = aexecK tT (otabK ref03_Check_lo) (ltabK ref03_Check_ll) (((loops ref03_Check_c)[0]?).getD .skip) (ref03_Check_L4_e.head.enc st) (lres ref03_Check_L4_e.head ref03_Check_L4_e.exits (ref03_Check_L4 n)) := by kernel_rfl
theorem ref03_Check_L4_lok : LOK Tryd.prog tG (ltab ref03_Check_ll) (((loops ref03_Check_c)[0]?).getD .skip) :=
  lok_of tT_ok ref03_Check_ook tP_mixed (loopsOK_of (by
    have e : loops (((loops ref03_Check_c)[0]?).getD .skip) = [] := by kernel_rfl
    rw [e]
    intro a ha
    cases ha)) ref03_Check_L4_e (F := ref03_Check_L4) (fun st => List.length st.1.1 + List.length st.2.1 + Int.natAbs st.2.2.1 + Int.natAbs st.2.2.2 + 1000) (fun s => by kernel_rfl) (fun st => by kernel_rfl) (fun st => by kernel_rfl) (fun n st => (ref03_Check_L4_B_eq n st).trans (loopF_eq tT ref03_Check_lo ref03_Check_ll (((loops ref03_Check_c)[0]?).getD .skip) ref03_Check_L4_e.head ref03_Check_L4_e.exits (ref03_Check_L4 n) st).symm)
theorem ref03_Check_eq (x : ref03_Check_sp.arg.den) : ref03_Check x = bodyK tT (otabK ref03_Check_lo) (ltabK ref03_Check_ll) Tryd.f37 ref03_Check_sp.arg ref03_Check_sp.res x (fun y => y) := by kernel_rfl
theorem ref03_Check_ok : SpecOK Tryd.prog tG ref03_Check_sp :=
  spec_of_body (c := ref03_Check_c) tT_ok ref03_Check_ook tP_mixed (fn := Tryd.f37) Tryd.func37 (by kernel_rfl) (by kernel_rfl) (loopsOK_of (by
    have e : loops ref03_Check_c = [((loops ref03_Check_c)[0]?).getD .skip] := by kernel_rfl
    rw [e]
    intro a ha
    simp only [List.mem_cons, List.not_mem_nil, or_false] at ha
    rcases ha with rfl
    · exact ref03_Check_L4_lok)) (fun x => enc_closed x (by kernel_rfl)) (by kernel_rfl) (by kernel_rfl) (fun x => (ref03_Check_eq x).trans (bodyF_eq tT ref03_Check_lo ref03_Check_ll Tryd.f37 ref03_Check_sp.arg ref03_Check_sp.res x).symm)

/-- A round of the loop 3 of stockyard/stockyardref03.Kinds. -/
noncomputable def ref03_Kinds_L3_B (rec : (((List ByteArray) × Bool) × Int × (List ByteArray) × Int × Int) → Option ((((List ByteArray) × Bool) × Int) ⊕ Empty)) (st : ((List ByteArray) × Bool) × Int × (List ByteArray) × Int × Int) : Option ((((List ByteArray) × Bool) × Int) ⊕ Empty) :=
  brK (decide ((st.2.2.2.2 : Int) < st.2.2.2.1))
  (bindK (listAt st.2.2.1 st.2.2.2.2) fun e1 =>
  bindK (ref03_Star e1) fun r2 =>
  brK r2.2
  (rec (st.1, (IntKind.wrap .i64 (st.2.1 + 1)), st.2.2.1, st.2.2.2.1, (IntKind.wrap .i64 (st.2.2.2.2 + 1))))
  (rec (st.1, st.2.1, st.2.2.1, st.2.2.2.1, (IntKind.wrap .i64 (st.2.2.2.2 + 1)))))
  (some (.inl (st.1, st.2.1)))

noncomputable def ref03_Kinds_L3 : Nat → (((List ByteArray) × Bool) × Int × (List ByteArray) × Int × Int) → Option ((((List ByteArray) × Bool) × Int) ⊕ Empty)
  | 0, _ => none
  | n + 1, st => ref03_Kinds_L3_B (ref03_Kinds_L3 n) st

noncomputable def ref03_Kinds_L3_f (st : ((List ByteArray) × Bool) × Int × (List ByteArray) × Int × Int) : Option ((((List ByteArray) × Bool) × Int) ⊕ Empty) := ref03_Kinds_L3 (List.length st.1.1 + Int.natAbs st.2.1 + List.length st.2.2.1 + Int.natAbs st.2.2.2.1 + Int.natAbs st.2.2.2.2 + 1000) st

/-- stockyard/stockyardref03.Kinds. -/
noncomputable def ref03_Kinds (x : Pat) : Option (Int × Bool) :=
  bindK (ref03_Kinds_L3_f (x, 0, x.1, (x.1.length : Int), 0)) fun o1001 =>
  sumK o1001 (fun y1002 =>
  some (y1002.2, y1002.1.2))
  (fun z1003 => emptyK z1003)

noncomputable def ref03_Kinds_sp : FSpec := ⟨38, (.agg (.prod (.list .str) .bool)), (.tup (.pair (.int .i64) .bool)), ref03_Kinds⟩
noncomputable def ref03_Kinds_lo : List FSpec := [ref03_Star_sp]
noncomputable def ref03_Kinds_L3_e : LEnt := ⟨3, ⟨28, 1, [1, 4, 10, 11, 12], (.pair (.box 0 (.pair (.list .str) .bool)) (.pair (.int .i64) (.pair (.list .str) (.pair (.int .i64) (.int .i64)))))⟩, [((.exit 0), ⟨28, 1, [1, 4], (.pair (.box 0 (.pair (.list .str) .bool)) (.int .i64))⟩)], ref03_Kinds_L3_f⟩
noncomputable def ref03_Kinds_ll : List LEnt := [ref03_Kinds_L3_e]
theorem ref03_Kinds_ook : OOK Tryd.prog tG (otab ref03_Kinds_lo) := ook_of (l := ref03_Kinds_lo) (by
    intro sp hsp
    simp only [ref03_Kinds_lo, List.mem_cons, List.not_mem_nil, or_false] at hsp
    rcases hsp with rfl
    · exact ref03_Star_ok)
noncomputable def ref03_Kinds_c : Code := (Tryd.f38.body).getD .skip
theorem ref03_Kinds_L3_B_eq (n : Nat) (st : ref03_Kinds_L3_e.head.shape.den) : ref03_Kinds_L3 (n + 1) st = aexecK tT (otabK ref03_Kinds_lo) (ltabK ref03_Kinds_ll) (((loops ref03_Kinds_c)[0]?).getD .skip) (ref03_Kinds_L3_e.head.enc st) (lres ref03_Kinds_L3_e.head ref03_Kinds_L3_e.exits (ref03_Kinds_L3 n)) := by kernel_rfl
theorem ref03_Kinds_L3_lok : LOK Tryd.prog tG (ltab ref03_Kinds_ll) (((loops ref03_Kinds_c)[0]?).getD .skip) :=
  lok_of tT_ok ref03_Kinds_ook tP_mixed (loopsOK_of (by
    have e : loops (((loops ref03_Kinds_c)[0]?).getD .skip) = [] := by kernel_rfl
    rw [e]
    intro a ha
    cases ha)) ref03_Kinds_L3_e (F := ref03_Kinds_L3) (fun st => List.length st.1.1 + Int.natAbs st.2.1 + List.length st.2.2.1 + Int.natAbs st.2.2.2.1 + Int.natAbs st.2.2.2.2 + 1000) (fun s => by kernel_rfl) (fun st => by kernel_rfl) (fun st => by kernel_rfl) (fun n st => (ref03_Kinds_L3_B_eq n st).trans (loopF_eq tT ref03_Kinds_lo ref03_Kinds_ll (((loops ref03_Kinds_c)[0]?).getD .skip) ref03_Kinds_L3_e.head ref03_Kinds_L3_e.exits (ref03_Kinds_L3 n) st).symm)
theorem ref03_Kinds_eq (x : ref03_Kinds_sp.arg.den) : ref03_Kinds x = bodyK tT (otabK ref03_Kinds_lo) (ltabK ref03_Kinds_ll) Tryd.f38 ref03_Kinds_sp.arg ref03_Kinds_sp.res x (fun y => y) := by kernel_rfl
theorem ref03_Kinds_ok : SpecOK Tryd.prog tG ref03_Kinds_sp :=
  spec_of_body (c := ref03_Kinds_c) tT_ok ref03_Kinds_ook tP_mixed (fn := Tryd.f38) Tryd.func38 (by kernel_rfl) (by kernel_rfl) (loopsOK_of (by
    have e : loops ref03_Kinds_c = [((loops ref03_Kinds_c)[0]?).getD .skip] := by kernel_rfl
    rw [e]
    intro a ha
    simp only [List.mem_cons, List.not_mem_nil, or_false] at ha
    rcases ha with rfl
    · exact ref03_Kinds_L3_lok)) (fun x => enc_closed x (by kernel_rfl)) (by kernel_rfl) (by kernel_rfl) (fun x => (ref03_Kinds_eq x).trans (bodyF_eq tT ref03_Kinds_lo ref03_Kinds_ll Tryd.f38 ref03_Kinds_sp.arg ref03_Kinds_sp.res x).symm)


/-- stockyard/stockyardref04.Check. -/
noncomputable def ref04_Check (x : Rul) : Option Int :=
  bindK (ref03_Check x.2.1) fun r1001 =>
  brK (decide ((r1001 : Int) ≠ 0))
  (some 40)
  (bindK (ref03_Check x.2.2) fun r1002 =>
  brK (decide ((r1002 : Int) ≠ 0))
  (some 41)
  (bindK (ref03_Kinds x.2.1) fun r1003 =>
  bindK (ref03_Kinds x.2.2) fun r1004 =>
  brK (decide ((r1003.1 : Int) ≠ r1004.1))
  (some 42)
  (brK (!(r1003.2 == r1004.2))
  (some 42)
  (some 0))))

noncomputable def ref04_Check_sp : FSpec := ⟨25, (.agg (.prod .bool (.prod (.prod (.list .str) .bool) (.prod (.list .str) .bool)))), (.int .i64), ref04_Check⟩
noncomputable def ref04_Check_lo : List FSpec := [ref03_Check_sp, ref03_Kinds_sp]
noncomputable def ref04_Check_ll : List LEnt := []
theorem ref04_Check_ook : OOK Tryd.prog tG (otab ref04_Check_lo) := ook_of (l := ref04_Check_lo) (by
    intro sp hsp
    simp only [ref04_Check_lo, List.mem_cons, List.not_mem_nil, or_false] at hsp
    rcases hsp with rfl | rfl
    · exact ref03_Check_ok
    · exact ref03_Kinds_ok)
noncomputable def ref04_Check_c : Code := (Tryd.f25.body).getD .skip
theorem ref04_Check_eq (x : ref04_Check_sp.arg.den) : ref04_Check x = bodyK tT (otabK ref04_Check_lo) (ltabK ref04_Check_ll) Tryd.f25 ref04_Check_sp.arg ref04_Check_sp.res x (fun y => y) := by kernel_rfl
theorem ref04_Check_ok : SpecOK Tryd.prog tG ref04_Check_sp :=
  spec_of_body (c := ref04_Check_c) tT_ok ref04_Check_ook tP_mixed (fn := Tryd.f25) Tryd.func25 (by kernel_rfl) (by kernel_rfl) (loopsOK_of (by
    have e : loops ref04_Check_c = [] := by kernel_rfl
    rw [e]
    intro a ha
    cases ha)) (fun x => enc_closed x (by kernel_rfl)) (by kernel_rfl) (by kernel_rfl) (fun x => (ref04_Check_eq x).trans (bodyF_eq tT ref04_Check_lo ref04_Check_ll Tryd.f25 ref04_Check_sp.arg ref04_Check_sp.res x).symm)

/-- A round of the loop 2 of stockyard/stockyardref06.Check. -/
noncomputable def ref06_Check_L2_B (rec : ((List Rul) × (List Rul) × Int × Int) → Option ((List Rul) ⊕ ((Int × Int) ⊕ Empty))) (st : (List Rul) × (List Rul) × Int × Int) : Option ((List Rul) ⊕ ((Int × Int) ⊕ Empty)) :=
  brK (decide ((st.2.2.2 : Int) < st.2.2.1))
  (bindK (listAt st.2.1 st.2.2.2) fun e1 =>
  bindK (ref04_Check e1) fun r2 =>
  brK (decide ((r2 : Int) ≠ 0))
  (some (.inr (.inl (st.2.2.2, 60))))
  (rec (st.1, st.2.1, st.2.2.1, (IntKind.wrap .i64 (st.2.2.2 + 1)))))
  (some (.inl st.1))

noncomputable def ref06_Check_L2 : Nat → ((List Rul) × (List Rul) × Int × Int) → Option ((List Rul) ⊕ ((Int × Int) ⊕ Empty))
  | 0, _ => none
  | n + 1, st => ref06_Check_L2_B (ref06_Check_L2 n) st

noncomputable def ref06_Check_L2_f (st : (List Rul) × (List Rul) × Int × Int) : Option ((List Rul) ⊕ ((Int × Int) ⊕ Empty)) := ref06_Check_L2 (List.length st.1 + List.length st.2.1 + Int.natAbs st.2.2.1 + Int.natAbs st.2.2.2 + 1000) st

/-- stockyard/stockyardref06.Check. -/
noncomputable def ref06_Check (x : List Rul) : Option (Int × Int) :=
  bindK (ref06_Check_L2_f (x, x, (x.length : Int), 0)) fun o1001 =>
  sumK o1001 (fun y1002 =>
  brK (decide (((y1002.length : Int) : Int) > 16))
  (some (0, 61))
  (some (0, 0)))
  (fun z1003 => sumK z1003 (fun y1004 =>
  some y1004)
  (fun z1005 => emptyK z1005))

noncomputable def ref06_Check_sp : FSpec := ⟨13, (.list (.prod .bool (.prod (.prod (.list .str) .bool) (.prod (.list .str) .bool)))), (.tup (.pair (.int .i64) (.int .i64))), ref06_Check⟩
noncomputable def ref06_Check_lo : List FSpec := [ref04_Check_sp]
noncomputable def ref06_Check_L2_e : LEnt := ⟨2, ⟨21, 0, [0, 6, 7, 8], (.pair (.list (.prod .bool (.prod (.prod (.list .str) .bool) (.prod (.list .str) .bool)))) (.pair (.list (.prod .bool (.prod (.prod (.list .str) .bool) (.prod (.list .str) .bool)))) (.pair (.int .i64) (.int .i64))))⟩, [((.exit 0), ⟨21, 0, [0], (.list (.prod .bool (.prod (.prod (.list .str) .bool) (.prod (.list .str) .bool))))⟩), (.ret, ⟨21, 0, [2, 3], (.pair (.int .i64) (.int .i64))⟩)], ref06_Check_L2_f⟩
noncomputable def ref06_Check_ll : List LEnt := [ref06_Check_L2_e]
theorem ref06_Check_ook : OOK Tryd.prog tG (otab ref06_Check_lo) := ook_of (l := ref06_Check_lo) (by
    intro sp hsp
    simp only [ref06_Check_lo, List.mem_cons, List.not_mem_nil, or_false] at hsp
    rcases hsp with rfl
    · exact ref04_Check_ok)
noncomputable def ref06_Check_c : Code := (Tryd.f13.body).getD .skip
theorem ref06_Check_L2_B_eq (n : Nat) (st : ref06_Check_L2_e.head.shape.den) : ref06_Check_L2 (n + 1) st = aexecK tT (otabK ref06_Check_lo) (ltabK ref06_Check_ll) (((loops ref06_Check_c)[0]?).getD .skip) (ref06_Check_L2_e.head.enc st) (lres ref06_Check_L2_e.head ref06_Check_L2_e.exits (ref06_Check_L2 n)) := by kernel_rfl
theorem ref06_Check_L2_lok : LOK Tryd.prog tG (ltab ref06_Check_ll) (((loops ref06_Check_c)[0]?).getD .skip) :=
  lok_of tT_ok ref06_Check_ook tP_mixed (loopsOK_of (by
    have e : loops (((loops ref06_Check_c)[0]?).getD .skip) = [] := by kernel_rfl
    rw [e]
    intro a ha
    cases ha)) ref06_Check_L2_e (F := ref06_Check_L2) (fun st => List.length st.1 + List.length st.2.1 + Int.natAbs st.2.2.1 + Int.natAbs st.2.2.2 + 1000) (fun s => by kernel_rfl) (fun st => by kernel_rfl) (fun st => by kernel_rfl) (fun n st => (ref06_Check_L2_B_eq n st).trans (loopF_eq tT ref06_Check_lo ref06_Check_ll (((loops ref06_Check_c)[0]?).getD .skip) ref06_Check_L2_e.head ref06_Check_L2_e.exits (ref06_Check_L2 n) st).symm)
theorem ref06_Check_eq (x : ref06_Check_sp.arg.den) : ref06_Check x = bodyK tT (otabK ref06_Check_lo) (ltabK ref06_Check_ll) Tryd.f13 ref06_Check_sp.arg ref06_Check_sp.res x (fun y => y) := by kernel_rfl
theorem ref06_Check_ok : SpecOK Tryd.prog tG ref06_Check_sp :=
  spec_of_body (c := ref06_Check_c) tT_ok ref06_Check_ook tP_mixed (fn := Tryd.f13) Tryd.func13 (by kernel_rfl) (by kernel_rfl) (loopsOK_of (by
    have e : loops ref06_Check_c = [((loops ref06_Check_c)[0]?).getD .skip] := by kernel_rfl
    rw [e]
    intro a ha
    simp only [List.mem_cons, List.not_mem_nil, or_false] at ha
    rcases ha with rfl
    · exact ref06_Check_L2_lok)) (fun x => enc_closed x (by kernel_rfl)) (by kernel_rfl) (by kernel_rfl) (fun x => (ref06_Check_eq x).trans (bodyF_eq tT ref06_Check_lo ref06_Check_ll Tryd.f13 ref06_Check_sp.arg ref06_Check_sp.res x).symm)


/-- stockyard/stockyardref04.Copy. -/
noncomputable def ref04_Copy (x : Pat) : Option Pat :=
  brK (fits 0 (List.length x.1) 16)
  (some x)
  (none)

noncomputable def ref04_Copy_sp : FSpec := ⟨40, (.agg (.prod (.list .str) .bool)), (.agg (.prod (.list .str) .bool)), ref04_Copy⟩
noncomputable def ref04_Copy_lo : List FSpec := []
noncomputable def ref04_Copy_ll : List LEnt := []
theorem ref04_Copy_ook : OOK Tryd.prog tG (otab ref04_Copy_lo) := ook_of (l := ref04_Copy_lo) (by intro sp hsp; cases hsp)
noncomputable def ref04_Copy_c : Code := (Tryd.f40.body).getD .skip
theorem ref04_Copy_eq (x : ref04_Copy_sp.arg.den) : ref04_Copy x = bodyK tT (otabK ref04_Copy_lo) (ltabK ref04_Copy_ll) Tryd.f40 ref04_Copy_sp.arg ref04_Copy_sp.res x (fun y => y) := by kernel_rfl
theorem ref04_Copy_ok : SpecOK Tryd.prog tG ref04_Copy_sp :=
  spec_of_body (c := ref04_Copy_c) tT_ok ref04_Copy_ook tP_mixed (fn := Tryd.f40) Tryd.func40 (by kernel_rfl) (by kernel_rfl) (loopsOK_of (by
    have e : loops ref04_Copy_c = [] := by kernel_rfl
    rw [e]
    intro a ha
    cases ha)) (fun x => enc_closed x (by kernel_rfl)) (by kernel_rfl) (by kernel_rfl) (fun x => (ref04_Copy_eq x).trans (bodyF_eq tT ref04_Copy_lo ref04_Copy_ll Tryd.f40 ref04_Copy_sp.arg ref04_Copy_sp.res x).symm)


/-- stockyard/stockyardref04.Turn. -/
noncomputable def ref04_Turn (x : Rul) : Option Rul :=
  bindK (ref04_Copy x.2.2) fun r1001 =>
  bindK (ref04_Copy x.2.1) fun r1002 =>
  some (x.1, r1001, r1002)

noncomputable def ref04_Turn_sp : FSpec := ⟨27, (.agg (.prod .bool (.prod (.prod (.list .str) .bool) (.prod (.list .str) .bool)))), (.agg (.prod .bool (.prod (.prod (.list .str) .bool) (.prod (.list .str) .bool)))), ref04_Turn⟩
noncomputable def ref04_Turn_lo : List FSpec := [ref04_Copy_sp]
noncomputable def ref04_Turn_ll : List LEnt := []
theorem ref04_Turn_ook : OOK Tryd.prog tG (otab ref04_Turn_lo) := ook_of (l := ref04_Turn_lo) (by
    intro sp hsp
    simp only [ref04_Turn_lo, List.mem_cons, List.not_mem_nil, or_false] at hsp
    rcases hsp with rfl
    · exact ref04_Copy_ok)
noncomputable def ref04_Turn_c : Code := (Tryd.f27.body).getD .skip
theorem ref04_Turn_eq (x : ref04_Turn_sp.arg.den) : ref04_Turn x = bodyK tT (otabK ref04_Turn_lo) (ltabK ref04_Turn_ll) Tryd.f27 ref04_Turn_sp.arg ref04_Turn_sp.res x (fun y => y) := by kernel_rfl
theorem ref04_Turn_ok : SpecOK Tryd.prog tG ref04_Turn_sp :=
  spec_of_body (c := ref04_Turn_c) tT_ok ref04_Turn_ook tP_mixed (fn := Tryd.f27) Tryd.func27 (by kernel_rfl) (by kernel_rfl) (loopsOK_of (by
    have e : loops ref04_Turn_c = [] := by kernel_rfl
    rw [e]
    intro a ha
    cases ha)) (fun x => enc_closed x (by kernel_rfl)) (by kernel_rfl) (by kernel_rfl) (fun x => (ref04_Turn_eq x).trans (bodyF_eq tT ref04_Turn_lo ref04_Turn_ll Tryd.f27 ref04_Turn_sp.arg ref04_Turn_sp.res x).symm)

/-- A round of the loop 3 of stockyard/stockyardref06.Turn. -/
noncomputable def ref06_Turn_L3_B (rec : ((List Rul) × (List Rul) × Int × Int) → Option ((List Rul) ⊕ Empty)) (st : (List Rul) × (List Rul) × Int × Int) : Option ((List Rul) ⊕ Empty) :=
  brK (decide ((st.2.2.2 : Int) < st.2.2.1))
  (bindK (listAt st.2.1 st.2.2.2) fun e1 =>
  bindK (ref04_Turn e1) fun r2 =>
  brK (fits (List.length st.1) (List.length ([r2] : List Rul)) 72)
  (rec ((st.1 ++ ([r2] : List Rul)), st.2.1, st.2.2.1, (IntKind.wrap .i64 (st.2.2.2 + 1))))
  (none))
  (some (.inl st.1))

noncomputable def ref06_Turn_L3 : Nat → ((List Rul) × (List Rul) × Int × Int) → Option ((List Rul) ⊕ Empty)
  | 0, _ => none
  | n + 1, st => ref06_Turn_L3_B (ref06_Turn_L3 n) st

noncomputable def ref06_Turn_L3_f (st : (List Rul) × (List Rul) × Int × Int) : Option ((List Rul) ⊕ Empty) := ref06_Turn_L3 (List.length st.1 + List.length st.2.1 + Int.natAbs st.2.2.1 + Int.natAbs st.2.2.2 + 1000) st

/-- stockyard/stockyardref06.Turn. -/
noncomputable def ref06_Turn (x : List Rul) : Option (List Rul) :=
  bindK (ref06_Turn_L3_f (([] : List Rul), x, (x.length : Int), 0)) fun o1001 =>
  sumK o1001 (fun y1002 =>
  some y1002)
  (fun z1003 => emptyK z1003)

noncomputable def ref06_Turn_sp : FSpec := ⟨15, (.list (.prod .bool (.prod (.prod (.list .str) .bool) (.prod (.list .str) .bool)))), (.list (.prod .bool (.prod (.prod (.list .str) .bool) (.prod (.list .str) .bool)))), ref06_Turn⟩
noncomputable def ref06_Turn_lo : List FSpec := [ref04_Turn_sp]
noncomputable def ref06_Turn_L3_e : LEnt := ⟨3, ⟨19, 1, [3, 6, 7, 8], (.pair (.own 0 34 (.prod .bool (.prod (.prod (.list .str) .bool) (.prod (.list .str) .bool)))) (.pair (.list (.prod .bool (.prod (.prod (.list .str) .bool) (.prod (.list .str) .bool)))) (.pair (.int .i64) (.int .i64))))⟩, [((.exit 0), ⟨19, 1, [3], (.own 0 34 (.prod .bool (.prod (.prod (.list .str) .bool) (.prod (.list .str) .bool))))⟩)], ref06_Turn_L3_f⟩
noncomputable def ref06_Turn_ll : List LEnt := [ref06_Turn_L3_e]
theorem ref06_Turn_ook : OOK Tryd.prog tG (otab ref06_Turn_lo) := ook_of (l := ref06_Turn_lo) (by
    intro sp hsp
    simp only [ref06_Turn_lo, List.mem_cons, List.not_mem_nil, or_false] at hsp
    rcases hsp with rfl
    · exact ref04_Turn_ok)
noncomputable def ref06_Turn_c : Code := (Tryd.f15.body).getD .skip
theorem ref06_Turn_L3_B_eq (n : Nat) (st : ref06_Turn_L3_e.head.shape.den) : ref06_Turn_L3 (n + 1) st = aexecK tT (otabK ref06_Turn_lo) (ltabK ref06_Turn_ll) (((loops ref06_Turn_c)[0]?).getD .skip) (ref06_Turn_L3_e.head.enc st) (lres ref06_Turn_L3_e.head ref06_Turn_L3_e.exits (ref06_Turn_L3 n)) := by kernel_rfl
theorem ref06_Turn_L3_lok : LOK Tryd.prog tG (ltab ref06_Turn_ll) (((loops ref06_Turn_c)[0]?).getD .skip) :=
  lok_of tT_ok ref06_Turn_ook tP_mixed (loopsOK_of (by
    have e : loops (((loops ref06_Turn_c)[0]?).getD .skip) = [] := by kernel_rfl
    rw [e]
    intro a ha
    cases ha)) ref06_Turn_L3_e (F := ref06_Turn_L3) (fun st => List.length st.1 + List.length st.2.1 + Int.natAbs st.2.2.1 + Int.natAbs st.2.2.2 + 1000) (fun s => by kernel_rfl) (fun st => by kernel_rfl) (fun st => by kernel_rfl) (fun n st => (ref06_Turn_L3_B_eq n st).trans (loopF_eq tT ref06_Turn_lo ref06_Turn_ll (((loops ref06_Turn_c)[0]?).getD .skip) ref06_Turn_L3_e.head ref06_Turn_L3_e.exits (ref06_Turn_L3 n) st).symm)
theorem ref06_Turn_eq (x : ref06_Turn_sp.arg.den) : ref06_Turn x = bodyK tT (otabK ref06_Turn_lo) (ltabK ref06_Turn_ll) Tryd.f15 ref06_Turn_sp.arg ref06_Turn_sp.res x (fun y => y) := by kernel_rfl
theorem ref06_Turn_ok : SpecOK Tryd.prog tG ref06_Turn_sp :=
  spec_of_body (c := ref06_Turn_c) tT_ok ref06_Turn_ook tP_mixed (fn := Tryd.f15) Tryd.func15 (by kernel_rfl) (by kernel_rfl) (loopsOK_of (by
    have e : loops ref06_Turn_c = [((loops ref06_Turn_c)[0]?).getD .skip] := by kernel_rfl
    rw [e]
    intro a ha
    simp only [List.mem_cons, List.not_mem_nil, or_false] at ha
    rcases ha with rfl
    · exact ref06_Turn_L3_lok)) (fun x => enc_closed x (by kernel_rfl)) (by kernel_rfl) (by kernel_rfl) (fun x => (ref06_Turn_eq x).trans (bodyF_eq tT ref06_Turn_lo ref06_Turn_ll Tryd.f15 ref06_Turn_sp.arg ref06_Turn_sp.res x).symm)

/-- A round of the loop 4 of stockyard/stockyardref03.Same. -/
noncomputable def ref03_Same_L4_B (rec : (((List ByteArray) × Bool) × (List ByteArray) × Int × Int) → Option (Unit ⊕ (Bool ⊕ Empty))) (st : ((List ByteArray) × Bool) × (List ByteArray) × Int × Int) : Option (Unit ⊕ (Bool ⊕ Empty)) :=
  brK (decide ((st.2.2.2 : Int) < st.2.2.1))
  (bindK (listAt st.2.1 st.2.2.2) fun e1 =>
  bindK (listAt st.1.1 st.2.2.2) fun e2 =>
  brK (decide (e1 ≠ e2))
  (some (.inr (.inl false)))
  (rec (st.1, st.2.1, st.2.2.1, (IntKind.wrap .i64 (st.2.2.2 + 1)))))
  (some (.inl ()))

noncomputable def ref03_Same_L4 : Nat → (((List ByteArray) × Bool) × (List ByteArray) × Int × Int) → Option (Unit ⊕ (Bool ⊕ Empty))
  | 0, _ => none
  | n + 1, st => ref03_Same_L4_B (ref03_Same_L4 n) st

noncomputable def ref03_Same_L4_f (st : ((List ByteArray) × Bool) × (List ByteArray) × Int × Int) : Option (Unit ⊕ (Bool ⊕ Empty)) := ref03_Same_L4 (List.length st.1.1 + List.length st.2.1 + Int.natAbs st.2.2.1 + Int.natAbs st.2.2.2 + 1000) st

/-- stockyard/stockyardref03.Same. -/
noncomputable def ref03_Same (x : Pat × Pat) : Option Bool :=
  brK (!(x.1.2 == x.2.2))
  (some false)
  (brK (decide (((x.1.1.length : Int) : Int) ≠ (x.2.1.length : Int)))
  (some false)
  (bindK (ref03_Same_L4_f (x.2, x.1.1, (x.1.1.length : Int), 0)) fun o1001 =>
  sumK o1001 (fun y1002 =>
  some true)
  (fun z1003 => sumK z1003 (fun y1004 =>
  some y1004)
  (fun z1005 => emptyK z1005))))

noncomputable def ref03_Same_sp : FSpec := ⟨28, (.pair (.agg (.prod (.list .str) .bool)) (.agg (.prod (.list .str) .bool))), .bool, ref03_Same⟩
noncomputable def ref03_Same_lo : List FSpec := []
noncomputable def ref03_Same_L4_e : LEnt := ⟨4, ⟨37, 1, [3, 22, 23, 24], (.pair (.box 0 (.pair (.list .str) .bool)) (.pair (.list .str) (.pair (.int .i64) (.int .i64))))⟩, [((.exit 0), ⟨37, 0, [], .nil⟩), (.ret, ⟨37, 0, [4], .bool⟩)], ref03_Same_L4_f⟩
noncomputable def ref03_Same_ll : List LEnt := [ref03_Same_L4_e]
theorem ref03_Same_ook : OOK Tryd.prog tG (otab ref03_Same_lo) := ook_of (l := ref03_Same_lo) (by intro sp hsp; cases hsp)
noncomputable def ref03_Same_c : Code := (Tryd.f28.body).getD .skip
theorem ref03_Same_L4_B_eq (n : Nat) (st : ref03_Same_L4_e.head.shape.den) : ref03_Same_L4 (n + 1) st = aexecK tT (otabK ref03_Same_lo) (ltabK ref03_Same_ll) (((loops ref03_Same_c)[0]?).getD .skip) (ref03_Same_L4_e.head.enc st) (lres ref03_Same_L4_e.head ref03_Same_L4_e.exits (ref03_Same_L4 n)) := by kernel_rfl
theorem ref03_Same_L4_lok : LOK Tryd.prog tG (ltab ref03_Same_ll) (((loops ref03_Same_c)[0]?).getD .skip) :=
  lok_of tT_ok ref03_Same_ook tP_mixed (loopsOK_of (by
    have e : loops (((loops ref03_Same_c)[0]?).getD .skip) = [] := by kernel_rfl
    rw [e]
    intro a ha
    cases ha)) ref03_Same_L4_e (F := ref03_Same_L4) (fun st => List.length st.1.1 + List.length st.2.1 + Int.natAbs st.2.2.1 + Int.natAbs st.2.2.2 + 1000) (fun s => by kernel_rfl) (fun st => by kernel_rfl) (fun st => by kernel_rfl) (fun n st => (ref03_Same_L4_B_eq n st).trans (loopF_eq tT ref03_Same_lo ref03_Same_ll (((loops ref03_Same_c)[0]?).getD .skip) ref03_Same_L4_e.head ref03_Same_L4_e.exits (ref03_Same_L4 n) st).symm)
theorem ref03_Same_eq (x : ref03_Same_sp.arg.den) : ref03_Same x = bodyK tT (otabK ref03_Same_lo) (ltabK ref03_Same_ll) Tryd.f28 ref03_Same_sp.arg ref03_Same_sp.res x (fun y => y) := by kernel_rfl
theorem ref03_Same_ok : SpecOK Tryd.prog tG ref03_Same_sp :=
  spec_of_body (c := ref03_Same_c) tT_ok ref03_Same_ook tP_mixed (fn := Tryd.f28) Tryd.func28 (by kernel_rfl) (by kernel_rfl) (loopsOK_of (by
    have e : loops ref03_Same_c = [((loops ref03_Same_c)[0]?).getD .skip] := by kernel_rfl
    rw [e]
    intro a ha
    simp only [List.mem_cons, List.not_mem_nil, or_false] at ha
    rcases ha with rfl
    · exact ref03_Same_L4_lok)) (fun x => enc_closed x (by kernel_rfl)) (by kernel_rfl) (by kernel_rfl) (fun x => (ref03_Same_eq x).trans (bodyF_eq tT ref03_Same_lo ref03_Same_ll Tryd.f28 ref03_Same_sp.arg ref03_Same_sp.res x).symm)


/-- stockyard/stockyardref04.Same. -/
noncomputable def ref04_Same (x : Rul × Rul) : Option Bool :=
  brK (x.1.1 == x.2.1)
  (bindK (ref03_Same (x.1.2.1, x.2.2.1)) fun r1001 =>
  brK r1001
  (bindK (ref03_Same (x.1.2.2, x.2.2.2)) fun r1002 =>
  some r1002)
  (some false))
  (some false)

noncomputable def ref04_Same_sp : FSpec := ⟨16, (.pair (.agg (.prod .bool (.prod (.prod (.list .str) .bool) (.prod (.list .str) .bool)))) (.agg (.prod .bool (.prod (.prod (.list .str) .bool) (.prod (.list .str) .bool))))), .bool, ref04_Same⟩
noncomputable def ref04_Same_lo : List FSpec := [ref03_Same_sp]
noncomputable def ref04_Same_ll : List LEnt := []
theorem ref04_Same_ook : OOK Tryd.prog tG (otab ref04_Same_lo) := ook_of (l := ref04_Same_lo) (by
    intro sp hsp
    simp only [ref04_Same_lo, List.mem_cons, List.not_mem_nil, or_false] at hsp
    rcases hsp with rfl
    · exact ref03_Same_ok)
noncomputable def ref04_Same_c : Code := (Tryd.f16.body).getD .skip
theorem ref04_Same_eq (x : ref04_Same_sp.arg.den) : ref04_Same x = bodyK tT (otabK ref04_Same_lo) (ltabK ref04_Same_ll) Tryd.f16 ref04_Same_sp.arg ref04_Same_sp.res x (fun y => y) := by kernel_rfl
theorem ref04_Same_ok : SpecOK Tryd.prog tG ref04_Same_sp :=
  spec_of_body (c := ref04_Same_c) tT_ok ref04_Same_ook tP_mixed (fn := Tryd.f16) Tryd.func16 (by kernel_rfl) (by kernel_rfl) (loopsOK_of (by
    have e : loops ref04_Same_c = [] := by kernel_rfl
    rw [e]
    intro a ha
    cases ha)) (fun x => enc_closed x (by kernel_rfl)) (by kernel_rfl) (by kernel_rfl) (fun x => (ref04_Same_eq x).trans (bodyF_eq tT ref04_Same_lo ref04_Same_ll Tryd.f16 ref04_Same_sp.arg ref04_Same_sp.res x).symm)

/-- A round of the loop 9 of stockyard/stockyardlaw06.ViewChecks. -/
noncomputable def law06_ViewChecks_L9_B (rec : ((List Rul) × (List Rul) × Int × Int) → Option (Unit ⊕ (Bool ⊕ Empty))) (st : (List Rul) × (List Rul) × Int × Int) : Option (Unit ⊕ (Bool ⊕ Empty)) :=
  brK (decide ((st.2.2.2 : Int) < st.2.2.1))
  (bindK (listAt st.1 st.2.2.2) fun e7 =>
  bindK (listAt st.2.1 st.2.2.2) fun e8 =>
  bindK (ref04_Same (e7, e8)) fun r9 =>
  brK (!r9)
  (some (.inr (.inl false)))
  (rec (st.1, st.2.1, st.2.2.1, (IntKind.wrap .i64 (st.2.2.2 + 1)))))
  (some (.inl ()))

noncomputable def law06_ViewChecks_L9 : Nat → ((List Rul) × (List Rul) × Int × Int) → Option (Unit ⊕ (Bool ⊕ Empty))
  | 0, _ => none
  | n + 1, st => law06_ViewChecks_L9_B (law06_ViewChecks_L9 n) st

noncomputable def law06_ViewChecks_L9_f (st : (List Rul) × (List Rul) × Int × Int) : Option (Unit ⊕ (Bool ⊕ Empty)) := law06_ViewChecks_L9 (List.length st.1 + List.length st.2.1 + Int.natAbs st.2.2.1 + Int.natAbs st.2.2.2 + 1000) st

/-- stockyard/stockyardlaw06.ViewChecks. -/
noncomputable def law06_ViewChecks (x : List Rul) : Option Bool :=
  bindK (law06_small x) fun r1001 =>
  brK (!r1001)
  (bindK (law06_awake ()) fun r1002 =>
  some r1002)
  (bindK (view_Check x) fun r1003 =>
  bindK (ref06_Check x) fun r1004 =>
  bindK (view_Turn x) fun r1005 =>
  bindK (ref06_Turn x) fun r1006 =>
  brK (decide ((r1003.1 : Int) ≠ r1004.1))
  (some false)
  (brK (decide ((r1003.2 : Int) ≠ r1004.2))
  (some false)
  (brK (decide (((r1005.length : Int) : Int) ≠ (r1006.length : Int)))
  (some false)
  (bindK (law06_ViewChecks_L9_f (r1005, r1006, (r1005.length : Int), 0)) fun o1007 =>
  sumK o1007 (fun y1008 =>
  bindK (law06_awake ()) fun r1010 =>
  some r1010)
  (fun z1009 => sumK z1009 (fun y1011 =>
  some y1011)
  (fun z1012 => emptyK z1012))))))

noncomputable def law06_ViewChecks_sp : FSpec := ⟨3, (.list (.prod .bool (.prod (.prod (.list .str) .bool) (.prod (.list .str) .bool)))), .bool, law06_ViewChecks⟩
noncomputable def law06_ViewChecks_lo : List FSpec := [law06_small_sp, law06_awake_sp, view_Check_sp, ref06_Check_sp, view_Turn_sp, ref06_Turn_sp, ref04_Same_sp]
noncomputable def law06_ViewChecks_L9_e : LEnt := ⟨9, ⟨60, 0, [7, 8, 44, 45], (.pair (.list (.prod .bool (.prod (.prod (.list .str) .bool) (.prod (.list .str) .bool)))) (.pair (.list (.prod .bool (.prod (.prod (.list .str) .bool) (.prod (.list .str) .bool)))) (.pair (.int .i64) (.int .i64))))⟩, [((.exit 0), ⟨60, 0, [], .nil⟩), (.ret, ⟨60, 0, [2], .bool⟩)], law06_ViewChecks_L9_f⟩
noncomputable def law06_ViewChecks_ll : List LEnt := [law06_ViewChecks_L9_e]
theorem law06_ViewChecks_ook : OOK Tryd.prog tG (otab law06_ViewChecks_lo) := ook_of (l := law06_ViewChecks_lo) (by
    intro sp hsp
    simp only [law06_ViewChecks_lo, List.mem_cons, List.not_mem_nil, or_false] at hsp
    rcases hsp with rfl | rfl | rfl | rfl | rfl | rfl | rfl
    · exact law06_small_ok
    · exact law06_awake_ok
    · exact view_Check_ok
    · exact ref06_Check_ok
    · exact view_Turn_ok
    · exact ref06_Turn_ok
    · exact ref04_Same_ok)
noncomputable def law06_ViewChecks_c : Code := (Tryd.f3.body).getD .skip
theorem law06_ViewChecks_L9_B_eq (n : Nat) (st : law06_ViewChecks_L9_e.head.shape.den) : law06_ViewChecks_L9 (n + 1) st = aexecK tT (otabK law06_ViewChecks_lo) (ltabK law06_ViewChecks_ll) (((loops law06_ViewChecks_c)[0]?).getD .skip) (law06_ViewChecks_L9_e.head.enc st) (lres law06_ViewChecks_L9_e.head law06_ViewChecks_L9_e.exits (law06_ViewChecks_L9 n)) := by kernel_rfl
theorem law06_ViewChecks_L9_lok : LOK Tryd.prog tG (ltab law06_ViewChecks_ll) (((loops law06_ViewChecks_c)[0]?).getD .skip) :=
  lok_of tT_ok law06_ViewChecks_ook tP_mixed (loopsOK_of (by
    have e : loops (((loops law06_ViewChecks_c)[0]?).getD .skip) = [] := by kernel_rfl
    rw [e]
    intro a ha
    cases ha)) law06_ViewChecks_L9_e (F := law06_ViewChecks_L9) (fun st => List.length st.1 + List.length st.2.1 + Int.natAbs st.2.2.1 + Int.natAbs st.2.2.2 + 1000) (fun s => by kernel_rfl) (fun st => by kernel_rfl) (fun st => by kernel_rfl) (fun n st => (law06_ViewChecks_L9_B_eq n st).trans (loopF_eq tT law06_ViewChecks_lo law06_ViewChecks_ll (((loops law06_ViewChecks_c)[0]?).getD .skip) law06_ViewChecks_L9_e.head law06_ViewChecks_L9_e.exits (law06_ViewChecks_L9 n) st).symm)
theorem law06_ViewChecks_eq (x : law06_ViewChecks_sp.arg.den) : law06_ViewChecks x = bodyK tT (otabK law06_ViewChecks_lo) (ltabK law06_ViewChecks_ll) Tryd.f3 law06_ViewChecks_sp.arg law06_ViewChecks_sp.res x (fun y => y) := by kernel_rfl
theorem law06_ViewChecks_ok : SpecOK Tryd.prog tG law06_ViewChecks_sp :=
  spec_of_body (c := law06_ViewChecks_c) tT_ok law06_ViewChecks_ook tP_mixed (fn := Tryd.f3) Tryd.func3 (by kernel_rfl) (by kernel_rfl) (loopsOK_of (by
    have e : loops law06_ViewChecks_c = [((loops law06_ViewChecks_c)[0]?).getD .skip] := by kernel_rfl
    rw [e]
    intro a ha
    simp only [List.mem_cons, List.not_mem_nil, or_false] at ha
    rcases ha with rfl
    · exact law06_ViewChecks_L9_lok)) (fun x => enc_closed x (by kernel_rfl)) (by kernel_rfl) (by kernel_rfl) (fun x => (law06_ViewChecks_eq x).trans (bodyF_eq tT law06_ViewChecks_lo law06_ViewChecks_ll Tryd.f3 law06_ViewChecks_sp.arg law06_ViewChecks_sp.res x).symm)


/-- stockyard/view.Backward. -/
noncomputable def view_Backward (x : (List Rul) × ByteArray) : Option (ByteArray × Bool) :=
  bindK (view_Turn x.1) fun r1001 =>
  bindK (view_Forward (r1001, x.2)) fun r1002 =>
  some r1002

noncomputable def view_Backward_sp : FSpec := ⟨18, (.pair (.list (.prod .bool (.prod (.prod (.list .str) .bool) (.prod (.list .str) .bool)))) .str), (.tup (.pair .str .bool)), view_Backward⟩
noncomputable def view_Backward_lo : List FSpec := [view_Turn_sp, view_Forward_sp]
noncomputable def view_Backward_ll : List LEnt := []
theorem view_Backward_ook : OOK Tryd.prog tG (otab view_Backward_lo) := ook_of (l := view_Backward_lo) (by
    intro sp hsp
    simp only [view_Backward_lo, List.mem_cons, List.not_mem_nil, or_false] at hsp
    rcases hsp with rfl | rfl
    · exact view_Turn_ok
    · exact view_Forward_ok)
noncomputable def view_Backward_c : Code := (Tryd.f18.body).getD .skip
theorem view_Backward_eq (x : view_Backward_sp.arg.den) : view_Backward x = bodyK tT (otabK view_Backward_lo) (ltabK view_Backward_ll) Tryd.f18 view_Backward_sp.arg view_Backward_sp.res x (fun y => y) := by kernel_rfl
theorem view_Backward_ok : SpecOK Tryd.prog tG view_Backward_sp :=
  spec_of_body (c := view_Backward_c) tT_ok view_Backward_ook tP_mixed (fn := Tryd.f18) Tryd.func18 (by kernel_rfl) (by kernel_rfl) (loopsOK_of (by
    have e : loops view_Backward_c = [] := by kernel_rfl
    rw [e]
    intro a ha
    cases ha)) (fun x => enc_closed x (by kernel_rfl)) (by kernel_rfl) (by kernel_rfl) (fun x => (view_Backward_eq x).trans (bodyF_eq tT view_Backward_lo view_Backward_ll Tryd.f18 view_Backward_sp.arg view_Backward_sp.res x).symm)


/-- stockyard/stockyardlaw06.ViewOneToOne. -/
noncomputable def law06_ViewOneToOne (x : (List Rul) × ByteArray) : Option Bool :=
  bindK (law06_small x.1) fun r1001 =>
  brK (!r1001)
  (bindK (law06_awake ()) fun r1002 =>
  some r1002)
  (brK (decide (((x.2.size : Int) : Int) > 300))
  (bindK (law06_awake ()) fun r1003 =>
  some r1003)
  (bindK (view_Forward x) fun r1004 =>
  brK r1004.2
  (bindK (view_Backward (x.1, r1004.1)) fun r1005 =>
  brK (decide (r1005.1 ≠ x.2))
  (some false)
  (brK (!r1005.2)
  (some false)
  (bindK (view_Backward x) fun r1006 =>
  brK r1006.2
  (bindK (view_Forward (x.1, r1006.1)) fun r1007 =>
  brK (decide (r1007.1 ≠ x.2))
  (some false)
  (brK (!r1007.2)
  (some false)
  (bindK (law06_awake ()) fun r1008 =>
  some r1008)))
  (bindK (law06_awake ()) fun r1009 =>
  some r1009))))
  (bindK (view_Backward x) fun r1010 =>
  brK r1010.2
  (bindK (view_Forward (x.1, r1010.1)) fun r1011 =>
  brK (decide (r1011.1 ≠ x.2))
  (some false)
  (brK (!r1011.2)
  (some false)
  (bindK (law06_awake ()) fun r1012 =>
  some r1012)))
  (bindK (law06_awake ()) fun r1013 =>
  some r1013))))

noncomputable def law06_ViewOneToOne_sp : FSpec := ⟨4, (.pair (.list (.prod .bool (.prod (.prod (.list .str) .bool) (.prod (.list .str) .bool)))) .str), .bool, law06_ViewOneToOne⟩
noncomputable def law06_ViewOneToOne_lo : List FSpec := [law06_small_sp, law06_awake_sp, view_Forward_sp, view_Backward_sp]
noncomputable def law06_ViewOneToOne_ll : List LEnt := []
theorem law06_ViewOneToOne_ook : OOK Tryd.prog tG (otab law06_ViewOneToOne_lo) := ook_of (l := law06_ViewOneToOne_lo) (by
    intro sp hsp
    simp only [law06_ViewOneToOne_lo, List.mem_cons, List.not_mem_nil, or_false] at hsp
    rcases hsp with rfl | rfl | rfl | rfl
    · exact law06_small_ok
    · exact law06_awake_ok
    · exact view_Forward_ok
    · exact view_Backward_ok)
noncomputable def law06_ViewOneToOne_c : Code := (Tryd.f4.body).getD .skip
theorem law06_ViewOneToOne_eq (x : law06_ViewOneToOne_sp.arg.den) : law06_ViewOneToOne x = bodyK tT (otabK law06_ViewOneToOne_lo) (ltabK law06_ViewOneToOne_ll) Tryd.f4 law06_ViewOneToOne_sp.arg law06_ViewOneToOne_sp.res x (fun y => y) := by kernel_rfl
theorem law06_ViewOneToOne_ok : SpecOK Tryd.prog tG law06_ViewOneToOne_sp :=
  spec_of_body (c := law06_ViewOneToOne_c) tT_ok law06_ViewOneToOne_ook tP_mixed (fn := Tryd.f4) Tryd.func4 (by kernel_rfl) (by kernel_rfl) (loopsOK_of (by
    have e : loops law06_ViewOneToOne_c = [] := by kernel_rfl
    rw [e]
    intro a ha
    cases ha)) (fun x => enc_closed x (by kernel_rfl)) (by kernel_rfl) (by kernel_rfl) (fun x => (law06_ViewOneToOne_eq x).trans (bodyF_eq tT law06_ViewOneToOne_lo law06_ViewOneToOne_ll Tryd.f4 law06_ViewOneToOne_sp.arg law06_ViewOneToOne_sp.res x).symm)


/-- stockyard/stockyardlaw06.ViewTurns. -/
noncomputable def law06_ViewTurns (x : (List Rul) × ByteArray) : Option Bool :=
  bindK (law06_small x.1) fun r1001 =>
  brK (!r1001)
  (bindK (law06_awake ()) fun r1002 =>
  some r1002)
  (brK (decide (((x.2.size : Int) : Int) > 300))
  (bindK (law06_awake ()) fun r1003 =>
  some r1003)
  (bindK (view_Turn x.1) fun r1004 =>
  bindK (view_Check x.1) fun r1005 =>
  brK (decide ((r1005.2 : Int) ≠ 0))
  (bindK (law06_awake ()) fun r1006 =>
  some r1006)
  (bindK (view_Check r1004) fun r1007 =>
  brK (decide ((r1007.2 : Int) ≠ 0))
  (some false)
  (bindK (view_Forward (r1004, x.2)) fun r1008 =>
  bindK (view_Backward x) fun r1009 =>
  brK (decide (r1008.1 = r1009.1))
  (brK (r1008.2 == r1009.2)
  (bindK (law06_awake ()) fun r1010 =>
  some r1010)
  (some false))
  (some false)))))

noncomputable def law06_ViewTurns_sp : FSpec := ⟨5, (.pair (.list (.prod .bool (.prod (.prod (.list .str) .bool) (.prod (.list .str) .bool)))) .str), .bool, law06_ViewTurns⟩
noncomputable def law06_ViewTurns_lo : List FSpec := [law06_small_sp, law06_awake_sp, view_Turn_sp, view_Check_sp, view_Forward_sp, view_Backward_sp]
noncomputable def law06_ViewTurns_ll : List LEnt := []
theorem law06_ViewTurns_ook : OOK Tryd.prog tG (otab law06_ViewTurns_lo) := ook_of (l := law06_ViewTurns_lo) (by
    intro sp hsp
    simp only [law06_ViewTurns_lo, List.mem_cons, List.not_mem_nil, or_false] at hsp
    rcases hsp with rfl | rfl | rfl | rfl | rfl | rfl
    · exact law06_small_ok
    · exact law06_awake_ok
    · exact view_Turn_ok
    · exact view_Check_ok
    · exact view_Forward_ok
    · exact view_Backward_ok)
noncomputable def law06_ViewTurns_c : Code := (Tryd.f5.body).getD .skip
theorem law06_ViewTurns_eq (x : law06_ViewTurns_sp.arg.den) : law06_ViewTurns x = bodyK tT (otabK law06_ViewTurns_lo) (ltabK law06_ViewTurns_ll) Tryd.f5 law06_ViewTurns_sp.arg law06_ViewTurns_sp.res x (fun y => y) := by kernel_rfl
theorem law06_ViewTurns_ok : SpecOK Tryd.prog tG law06_ViewTurns_sp :=
  spec_of_body (c := law06_ViewTurns_c) tT_ok law06_ViewTurns_ook tP_mixed (fn := Tryd.f5) Tryd.func5 (by kernel_rfl) (by kernel_rfl) (loopsOK_of (by
    have e : loops law06_ViewTurns_c = [] := by kernel_rfl
    rw [e]
    intro a ha
    cases ha)) (fun x => enc_closed x (by kernel_rfl)) (by kernel_rfl) (by kernel_rfl) (fun x => (law06_ViewTurns_eq x).trans (bodyF_eq tT law06_ViewTurns_lo law06_ViewTurns_ll Tryd.f5 law06_ViewTurns_sp.arg law06_ViewTurns_sp.res x).symm)


/-- strings.HasPrefix. -/
noncomputable def strings_HasPrefix (x : ByteArray × ByteArray) : Option Bool :=
  bindK (stringslite_HasPrefix x) fun r1001 =>
  some r1001

noncomputable def strings_HasPrefix_sp : FSpec := ⟨69, (.pair .str .str), .bool, strings_HasPrefix⟩
noncomputable def strings_HasPrefix_lo : List FSpec := [stringslite_HasPrefix_sp]
noncomputable def strings_HasPrefix_ll : List LEnt := []
theorem strings_HasPrefix_ook : OOK Tryd.prog tG (otab strings_HasPrefix_lo) := ook_of (l := strings_HasPrefix_lo) (by
    intro sp hsp
    simp only [strings_HasPrefix_lo, List.mem_cons, List.not_mem_nil, or_false] at hsp
    rcases hsp with rfl
    · exact stringslite_HasPrefix_ok)
noncomputable def strings_HasPrefix_c : Code := (Tryd.f69.body).getD .skip
theorem strings_HasPrefix_eq (x : strings_HasPrefix_sp.arg.den) : strings_HasPrefix x = bodyK tT (otabK strings_HasPrefix_lo) (ltabK strings_HasPrefix_ll) Tryd.f69 strings_HasPrefix_sp.arg strings_HasPrefix_sp.res x (fun y => y) := by kernel_rfl
theorem strings_HasPrefix_ok : SpecOK Tryd.prog tG strings_HasPrefix_sp :=
  spec_of_body (c := strings_HasPrefix_c) tT_ok strings_HasPrefix_ook tP_mixed (fn := Tryd.f69) Tryd.func69 (by kernel_rfl) (by kernel_rfl) (loopsOK_of (by
    have e : loops strings_HasPrefix_c = [] := by kernel_rfl
    rw [e]
    intro a ha
    cases ha)) (fun x => enc_closed x (by kernel_rfl)) (by kernel_rfl) (by kernel_rfl) (fun x => (strings_HasPrefix_eq x).trans (bodyF_eq tT strings_HasPrefix_lo strings_HasPrefix_ll Tryd.f69 strings_HasPrefix_sp.arg strings_HasPrefix_sp.res x).symm)

/-- A round of the loop 5 of stockyard/stockyardref02.Parts. -/
noncomputable def ref02_Parts_L5_B (rec : ((List ByteArray) × (List ByteArray) × Int × Int) → Option ((List ByteArray) ⊕ (((List ByteArray) × Bool) ⊕ Empty))) (st : (List ByteArray) × (List ByteArray) × Int × Int) : Option ((List ByteArray) ⊕ (((List ByteArray) × Bool) ⊕ Empty)) :=
  brK (decide ((st.2.2.2 : Int) < st.2.2.1))
  (bindK (listAt st.2.1 st.2.2.2) fun e3 =>
  bindK (ref02_Component e3) fun r4 =>
  brK (!r4)
  (some (.inr (.inl (([] : List ByteArray), false))))
  (rec (st.1, st.2.1, st.2.2.1, (IntKind.wrap .i64 (st.2.2.2 + 1)))))
  (some (.inl st.1))

noncomputable def ref02_Parts_L5 : Nat → ((List ByteArray) × (List ByteArray) × Int × Int) → Option ((List ByteArray) ⊕ (((List ByteArray) × Bool) ⊕ Empty))
  | 0, _ => none
  | n + 1, st => ref02_Parts_L5_B (ref02_Parts_L5 n) st

noncomputable def ref02_Parts_L5_f (st : (List ByteArray) × (List ByteArray) × Int × Int) : Option ((List ByteArray) ⊕ (((List ByteArray) × Bool) ⊕ Empty)) := ref02_Parts_L5 (List.length st.1 + List.length st.2.1 + Int.natAbs st.2.2.1 + Int.natAbs st.2.2.2 + 1000) st

/-- stockyard/stockyardref02.Parts. -/
noncomputable def ref02_Parts (x : ByteArray) : Option ((List ByteArray) × Bool) :=
  bindK (strings_HasPrefix (x, (ByteArray.mk #[47, 47]))) fun r1001 =>
  brK (!r1001)
  (some (([] : List ByteArray), false))
  (brK (decide (0 ≤ (2 : Int) ∧ (2 : Int) ≤ (x.size : Int) ∧ (x.size : Int) ≤ (x.size : Int)))
  (bindK (strings_Split ((ByteArray.extract x (Int.toNat 2) (Int.toNat (x.size : Int))), (ByteArray.mk #[47]))) fun r1002 =>
  bindK (ref02_Parts_L5_f (r1002, r1002, (r1002.length : Int), 0)) fun o1003 =>
  sumK o1003 (fun y1004 =>
  some (y1004, true))
  (fun z1005 => sumK z1005 (fun y1006 =>
  some y1006)
  (fun z1007 => emptyK z1007)))
  (none))

noncomputable def ref02_Parts_sp : FSpec := ⟨59, .str, (.tup (.pair (.list .str) .bool)), ref02_Parts⟩
noncomputable def ref02_Parts_lo : List FSpec := [strings_HasPrefix_sp, strings_Split_sp, ref02_Component_sp]
noncomputable def ref02_Parts_L5_e : LEnt := ⟨5, ⟨24, 0, [4, 13, 14, 15], (.pair (.list .str) (.pair (.list .str) (.pair (.int .i64) (.int .i64))))⟩, [((.exit 0), ⟨24, 0, [4], (.list .str)⟩), (.ret, ⟨24, 1, [2, 3], (.pair (.own 0 9 .str) .bool)⟩)], ref02_Parts_L5_f⟩
noncomputable def ref02_Parts_ll : List LEnt := [ref02_Parts_L5_e]
theorem ref02_Parts_ook : OOK Tryd.prog tG (otab ref02_Parts_lo) := ook_of (l := ref02_Parts_lo) (by
    intro sp hsp
    simp only [ref02_Parts_lo, List.mem_cons, List.not_mem_nil, or_false] at hsp
    rcases hsp with rfl | rfl | rfl
    · exact strings_HasPrefix_ok
    · exact strings_Split_ok
    · exact ref02_Component_ok)
noncomputable def ref02_Parts_c : Code := (Tryd.f59.body).getD .skip
theorem ref02_Parts_L5_B_eq (n : Nat) (st : ref02_Parts_L5_e.head.shape.den) : ref02_Parts_L5 (n + 1) st = aexecK tT (otabK ref02_Parts_lo) (ltabK ref02_Parts_ll) (((loops ref02_Parts_c)[0]?).getD .skip) (ref02_Parts_L5_e.head.enc st) (lres ref02_Parts_L5_e.head ref02_Parts_L5_e.exits (ref02_Parts_L5 n)) := by kernel_rfl
theorem ref02_Parts_L5_lok : LOK Tryd.prog tG (ltab ref02_Parts_ll) (((loops ref02_Parts_c)[0]?).getD .skip) :=
  lok_of tT_ok ref02_Parts_ook tP_mixed (loopsOK_of (by
    have e : loops (((loops ref02_Parts_c)[0]?).getD .skip) = [] := by kernel_rfl
    rw [e]
    intro a ha
    cases ha)) ref02_Parts_L5_e (F := ref02_Parts_L5) (fun st => List.length st.1 + List.length st.2.1 + Int.natAbs st.2.2.1 + Int.natAbs st.2.2.2 + 1000) (fun s => by kernel_rfl) (fun st => by kernel_rfl) (fun st => by kernel_rfl) (fun n st => (ref02_Parts_L5_B_eq n st).trans (loopF_eq tT ref02_Parts_lo ref02_Parts_ll (((loops ref02_Parts_c)[0]?).getD .skip) ref02_Parts_L5_e.head ref02_Parts_L5_e.exits (ref02_Parts_L5 n) st).symm)
theorem ref02_Parts_eq (x : ref02_Parts_sp.arg.den) : ref02_Parts x = bodyK tT (otabK ref02_Parts_lo) (ltabK ref02_Parts_ll) Tryd.f59 ref02_Parts_sp.arg ref02_Parts_sp.res x (fun y => y) := by kernel_rfl
theorem ref02_Parts_ok : SpecOK Tryd.prog tG ref02_Parts_sp :=
  spec_of_body (c := ref02_Parts_c) tT_ok ref02_Parts_ook tP_mixed (fn := Tryd.f59) Tryd.func59 (by kernel_rfl) (by kernel_rfl) (loopsOK_of (by
    have e : loops ref02_Parts_c = [((loops ref02_Parts_c)[0]?).getD .skip] := by kernel_rfl
    rw [e]
    intro a ha
    simp only [List.mem_cons, List.not_mem_nil, or_false] at ha
    rcases ha with rfl
    · exact ref02_Parts_L5_lok)) (fun x => enc_closed x (by kernel_rfl)) (by kernel_rfl) (by kernel_rfl) (fun x => (ref02_Parts_eq x).trans (bodyF_eq tT ref02_Parts_lo ref02_Parts_ll Tryd.f59 ref02_Parts_sp.arg ref02_Parts_sp.res x).symm)


/-- stockyard/stockyardref02.Path. -/
noncomputable def ref02_Path (x : ByteArray) : Option ((List ByteArray) × Bool) :=
  bindK (ref02_Parts x) fun r1001 =>
  brK (!r1001.2)
  (some (([] : List ByteArray), false))
  (brK (decide (((r1001.1.length : Int) : Int) < 2))
  (some (([] : List ByteArray), false))
  (some (r1001.1, true)))

noncomputable def ref02_Path_sp : FSpec := ⟨44, .str, (.tup (.pair (.list .str) .bool)), ref02_Path⟩
noncomputable def ref02_Path_lo : List FSpec := [ref02_Parts_sp]
noncomputable def ref02_Path_ll : List LEnt := []
theorem ref02_Path_ook : OOK Tryd.prog tG (otab ref02_Path_lo) := ook_of (l := ref02_Path_lo) (by
    intro sp hsp
    simp only [ref02_Path_lo, List.mem_cons, List.not_mem_nil, or_false] at hsp
    rcases hsp with rfl
    · exact ref02_Parts_ok)
noncomputable def ref02_Path_c : Code := (Tryd.f44.body).getD .skip
theorem ref02_Path_eq (x : ref02_Path_sp.arg.den) : ref02_Path x = bodyK tT (otabK ref02_Path_lo) (ltabK ref02_Path_ll) Tryd.f44 ref02_Path_sp.arg ref02_Path_sp.res x (fun y => y) := by kernel_rfl
theorem ref02_Path_ok : SpecOK Tryd.prog tG ref02_Path_sp :=
  spec_of_body (c := ref02_Path_c) tT_ok ref02_Path_ook tP_mixed (fn := Tryd.f44) Tryd.func44 (by kernel_rfl) (by kernel_rfl) (loopsOK_of (by
    have e : loops ref02_Path_c = [] := by kernel_rfl
    rw [e]
    intro a ha
    cases ha)) (fun x => enc_closed x (by kernel_rfl)) (by kernel_rfl) (by kernel_rfl) (fun x => (ref02_Path_eq x).trans (bodyF_eq tT ref02_Path_lo ref02_Path_ll Tryd.f44 ref02_Path_sp.arg ref02_Path_sp.res x).symm)


/-- stockyard/stockyardref03.Capture. -/
noncomputable def ref03_Capture (x : ByteArray × ByteArray) : Option (ByteArray × Bool) :=
  bindK (ref03_Star x.1) fun r1001 =>
  brK (!r1001.2)
  (some ((ByteArray.mk #[]), (decide (x.1 = x.2))))
  (bindK (strings_HasSuffix (x.2, r1001.1)) fun r1002 =>
  brK (!r1002)
  (some ((ByteArray.mk #[]), false))
  (brK (decide (0 ≤ (0 : Int) ∧ (0 : Int) ≤ (IntKind.wrap .i64 ((x.2.size : Int) - (r1001.1.size : Int))) ∧ (IntKind.wrap .i64 ((x.2.size : Int) - (r1001.1.size : Int))) ≤ (x.2.size : Int)))
  (bindK (ref02_Component (ByteArray.extract x.2 (Int.toNat 0) (Int.toNat (IntKind.wrap .i64 ((x.2.size : Int) - (r1001.1.size : Int)))))) fun r1003 =>
  some ((ByteArray.extract x.2 (Int.toNat 0) (Int.toNat (IntKind.wrap .i64 ((x.2.size : Int) - (r1001.1.size : Int))))), r1003))
  (none)))

noncomputable def ref03_Capture_sp : FSpec := ⟨45, (.pair .str .str), (.tup (.pair .str .bool)), ref03_Capture⟩
noncomputable def ref03_Capture_lo : List FSpec := [ref03_Star_sp, strings_HasSuffix_sp, ref02_Component_sp]
noncomputable def ref03_Capture_ll : List LEnt := []
theorem ref03_Capture_ook : OOK Tryd.prog tG (otab ref03_Capture_lo) := ook_of (l := ref03_Capture_lo) (by
    intro sp hsp
    simp only [ref03_Capture_lo, List.mem_cons, List.not_mem_nil, or_false] at hsp
    rcases hsp with rfl | rfl | rfl
    · exact ref03_Star_ok
    · exact strings_HasSuffix_ok
    · exact ref02_Component_ok)
noncomputable def ref03_Capture_c : Code := (Tryd.f45.body).getD .skip
theorem ref03_Capture_eq (x : ref03_Capture_sp.arg.den) : ref03_Capture x = bodyK tT (otabK ref03_Capture_lo) (ltabK ref03_Capture_ll) Tryd.f45 ref03_Capture_sp.arg ref03_Capture_sp.res x (fun y => y) := by kernel_rfl
theorem ref03_Capture_ok : SpecOK Tryd.prog tG ref03_Capture_sp :=
  spec_of_body (c := ref03_Capture_c) tT_ok ref03_Capture_ook tP_mixed (fn := Tryd.f45) Tryd.func45 (by kernel_rfl) (by kernel_rfl) (loopsOK_of (by
    have e : loops ref03_Capture_c = [] := by kernel_rfl
    rw [e]
    intro a ha
    cases ha)) (fun x => enc_closed x (by kernel_rfl)) (by kernel_rfl) (by kernel_rfl) (fun x => (ref03_Capture_eq x).trans (bodyF_eq tT ref03_Capture_lo ref03_Capture_ll Tryd.f45 ref03_Capture_sp.arg ref03_Capture_sp.res x).symm)

/-- A round of the loop 7 of stockyard/stockyardref03.Match. -/
noncomputable def ref03_Match_L7_B (rec : (((List ByteArray) × Bool) × (List ByteArray) × Int × (List ByteArray) × (List ByteArray) × Int × Int) → Option ((((List ByteArray) × Bool) × (List ByteArray) × Int × List ByteArray) ⊕ (((List ByteArray) × Bool) ⊕ Empty))) (st : ((List ByteArray) × Bool) × (List ByteArray) × Int × (List ByteArray) × (List ByteArray) × Int × Int) : Option ((((List ByteArray) × Bool) × (List ByteArray) × Int × List ByteArray) ⊕ (((List ByteArray) × Bool) ⊕ Empty)) :=
  brK (decide ((st.2.2.2.2.2.2 : Int) < st.2.2.2.2.2.1))
  (bindK (listAt st.2.2.2.2.1 st.2.2.2.2.2.2) fun e3 =>
  bindK (listAt st.2.1 st.2.2.2.2.2.2) fun e4 =>
  bindK (ref03_Capture (e3, e4)) fun r5 =>
  brK (!r5.2)
  (some (.inr (.inl (([] : List ByteArray), false))))
  (bindK (ref03_Star e3) fun r6 =>
  brK r6.2
  (brK (fits (List.length st.2.2.2.1) (List.length ([r5.1] : List ByteArray)) 16)
  (rec (st.1, st.2.1, st.2.2.1, (st.2.2.2.1 ++ ([r5.1] : List ByteArray)), st.2.2.2.2.1, st.2.2.2.2.2.1, (IntKind.wrap .i64 (st.2.2.2.2.2.2 + 1))))
  (none))
  (rec (st.1, st.2.1, st.2.2.1, st.2.2.2.1, st.2.2.2.2.1, st.2.2.2.2.2.1, (IntKind.wrap .i64 (st.2.2.2.2.2.2 + 1))))))
  (some (.inl (st.1, st.2.1, st.2.2.1, st.2.2.2.1)))

noncomputable def ref03_Match_L7 : Nat → (((List ByteArray) × Bool) × (List ByteArray) × Int × (List ByteArray) × (List ByteArray) × Int × Int) → Option ((((List ByteArray) × Bool) × (List ByteArray) × Int × List ByteArray) ⊕ (((List ByteArray) × Bool) ⊕ Empty))
  | 0, _ => none
  | n + 1, st => ref03_Match_L7_B (ref03_Match_L7 n) st

noncomputable def ref03_Match_L7_f (st : ((List ByteArray) × Bool) × (List ByteArray) × Int × (List ByteArray) × (List ByteArray) × Int × Int) : Option ((((List ByteArray) × Bool) × (List ByteArray) × Int × List ByteArray) ⊕ (((List ByteArray) × Bool) ⊕ Empty)) := ref03_Match_L7 (List.length st.1.1 + List.length st.2.1 + Int.natAbs st.2.2.1 + List.length st.2.2.2.1 + List.length st.2.2.2.2.1 + Int.natAbs st.2.2.2.2.2.1 + Int.natAbs st.2.2.2.2.2.2 + 1000) st

/-- stockyard/stockyardref03.Match. -/
noncomputable def ref03_Match (x : Pat × ByteArray) : Option ((List ByteArray) × Bool) :=
  bindK (ref02_Path x.2) fun r1001 =>
  bindK (ref03_Check x.1) fun r1002 =>
  brK (decide ((r1002 : Int) ≠ 0))
  (some (([] : List ByteArray), false))
  (brK (!r1001.2)
  (some (([] : List ByteArray), false))
  (brK (decide (((r1001.1.length : Int) : Int) < (x.1.1.length : Int)))
  (some (([] : List ByteArray), false))
  (brK (!x.1.2)
  (brK (decide (((r1001.1.length : Int) : Int) > (x.1.1.length : Int)))
  (some (([] : List ByteArray), false))
  (brK x.1.2
  (brK (decide (((r1001.1.length : Int) : Int) = (x.1.1.length : Int)))
  (some (([] : List ByteArray), false))
  (bindK (ref03_Match_L7_f (x.1, r1001.1, (x.1.1.length : Int), ([] : List ByteArray), x.1.1, (x.1.1.length : Int), 0)) fun o1003 =>
  sumK o1003 (fun y1004 =>
  brK y1004.1.2
  (brK (decide (0 ≤ (y1004.2.2.1 : Int) ∧ (y1004.2.2.1 : Int) ≤ (y1004.2.1.length : Int) ∧ (y1004.2.1.length : Int) ≤ (y1004.2.1.length : Int)))
  (bindK (strings_Join ((List.drop (Int.toNat y1004.2.2.1) (List.take (Int.toNat (y1004.2.1.length : Int)) y1004.2.1)), (ByteArray.mk #[47]))) fun r1006 =>
  brK (fits (List.length y1004.2.2.2) (List.length ([r1006] : List ByteArray)) 16)
  (some ((y1004.2.2.2 ++ ([r1006] : List ByteArray)), true))
  (none))
  (none))
  (some (y1004.2.2.2, true)))
  (fun z1005 => sumK z1005 (fun y1007 =>
  some y1007)
  (fun z1008 => emptyK z1008))))
  (bindK (ref03_Match_L7_f (x.1, r1001.1, (x.1.1.length : Int), ([] : List ByteArray), x.1.1, (x.1.1.length : Int), 0)) fun o1009 =>
  sumK o1009 (fun y1010 =>
  brK y1010.1.2
  (brK (decide (0 ≤ (y1010.2.2.1 : Int) ∧ (y1010.2.2.1 : Int) ≤ (y1010.2.1.length : Int) ∧ (y1010.2.1.length : Int) ≤ (y1010.2.1.length : Int)))
  (bindK (strings_Join ((List.drop (Int.toNat y1010.2.2.1) (List.take (Int.toNat (y1010.2.1.length : Int)) y1010.2.1)), (ByteArray.mk #[47]))) fun r1012 =>
  brK (fits (List.length y1010.2.2.2) (List.length ([r1012] : List ByteArray)) 16)
  (some ((y1010.2.2.2 ++ ([r1012] : List ByteArray)), true))
  (none))
  (none))
  (some (y1010.2.2.2, true)))
  (fun z1011 => sumK z1011 (fun y1013 =>
  some y1013)
  (fun z1014 => emptyK z1014)))))
  (brK x.1.2
  (brK (decide (((r1001.1.length : Int) : Int) = (x.1.1.length : Int)))
  (some (([] : List ByteArray), false))
  (bindK (ref03_Match_L7_f (x.1, r1001.1, (x.1.1.length : Int), ([] : List ByteArray), x.1.1, (x.1.1.length : Int), 0)) fun o1015 =>
  sumK o1015 (fun y1016 =>
  brK y1016.1.2
  (brK (decide (0 ≤ (y1016.2.2.1 : Int) ∧ (y1016.2.2.1 : Int) ≤ (y1016.2.1.length : Int) ∧ (y1016.2.1.length : Int) ≤ (y1016.2.1.length : Int)))
  (bindK (strings_Join ((List.drop (Int.toNat y1016.2.2.1) (List.take (Int.toNat (y1016.2.1.length : Int)) y1016.2.1)), (ByteArray.mk #[47]))) fun r1018 =>
  brK (fits (List.length y1016.2.2.2) (List.length ([r1018] : List ByteArray)) 16)
  (some ((y1016.2.2.2 ++ ([r1018] : List ByteArray)), true))
  (none))
  (none))
  (some (y1016.2.2.2, true)))
  (fun z1017 => sumK z1017 (fun y1019 =>
  some y1019)
  (fun z1020 => emptyK z1020))))
  (bindK (ref03_Match_L7_f (x.1, r1001.1, (x.1.1.length : Int), ([] : List ByteArray), x.1.1, (x.1.1.length : Int), 0)) fun o1021 =>
  sumK o1021 (fun y1022 =>
  brK y1022.1.2
  (brK (decide (0 ≤ (y1022.2.2.1 : Int) ∧ (y1022.2.2.1 : Int) ≤ (y1022.2.1.length : Int) ∧ (y1022.2.1.length : Int) ≤ (y1022.2.1.length : Int)))
  (bindK (strings_Join ((List.drop (Int.toNat y1022.2.2.1) (List.take (Int.toNat (y1022.2.1.length : Int)) y1022.2.1)), (ByteArray.mk #[47]))) fun r1024 =>
  brK (fits (List.length y1022.2.2.2) (List.length ([r1024] : List ByteArray)) 16)
  (some ((y1022.2.2.2 ++ ([r1024] : List ByteArray)), true))
  (none))
  (none))
  (some (y1022.2.2.2, true)))
  (fun z1023 => sumK z1023 (fun y1025 =>
  some y1025)
  (fun z1026 => emptyK z1026)))))))

noncomputable def ref03_Match_sp : FSpec := ⟨32, (.pair (.agg (.prod (.list .str) .bool)) .str), (.tup (.pair (.list .str) .bool)), ref03_Match⟩
noncomputable def ref03_Match_lo : List FSpec := [ref02_Path_sp, ref03_Check_sp, ref03_Capture_sp, ref03_Star_sp, strings_Join_sp]
noncomputable def ref03_Match_L7_e : LEnt := ⟨7, ⟨98, 2, [2, 6, 8, 9, 59, 60, 61], (.pair (.box 0 (.pair (.list .str) .bool)) (.pair (.list .str) (.pair (.int .i64) (.pair (.own 1 9 .str) (.pair (.list .str) (.pair (.int .i64) (.int .i64)))))))⟩, [((.exit 0), ⟨98, 2, [2, 6, 8, 9], (.pair (.box 0 (.pair (.list .str) .bool)) (.pair (.list .str) (.pair (.int .i64) (.own 1 9 .str))))⟩), (.ret, ⟨98, 1, [4, 5], (.pair (.own 0 9 .str) .bool)⟩)], ref03_Match_L7_f⟩
noncomputable def ref03_Match_ll : List LEnt := [ref03_Match_L7_e]
theorem ref03_Match_ook : OOK Tryd.prog tG (otab ref03_Match_lo) := ook_of (l := ref03_Match_lo) (by
    intro sp hsp
    simp only [ref03_Match_lo, List.mem_cons, List.not_mem_nil, or_false] at hsp
    rcases hsp with rfl | rfl | rfl | rfl | rfl
    · exact ref02_Path_ok
    · exact ref03_Check_ok
    · exact ref03_Capture_ok
    · exact ref03_Star_ok
    · exact strings_Join_ok)
noncomputable def ref03_Match_c : Code := (Tryd.f32.body).getD .skip
theorem ref03_Match_L7_B_eq (n : Nat) (st : ref03_Match_L7_e.head.shape.den) : ref03_Match_L7 (n + 1) st = aexecK tT (otabK ref03_Match_lo) (ltabK ref03_Match_ll) (((loops ref03_Match_c)[0]?).getD .skip) (ref03_Match_L7_e.head.enc st) (lres ref03_Match_L7_e.head ref03_Match_L7_e.exits (ref03_Match_L7 n)) := by kernel_rfl
theorem ref03_Match_L7_lok : LOK Tryd.prog tG (ltab ref03_Match_ll) (((loops ref03_Match_c)[0]?).getD .skip) :=
  lok_of tT_ok ref03_Match_ook tP_mixed (loopsOK_of (by
    have e : loops (((loops ref03_Match_c)[0]?).getD .skip) = [] := by kernel_rfl
    rw [e]
    intro a ha
    cases ha)) ref03_Match_L7_e (F := ref03_Match_L7) (fun st => List.length st.1.1 + List.length st.2.1 + Int.natAbs st.2.2.1 + List.length st.2.2.2.1 + List.length st.2.2.2.2.1 + Int.natAbs st.2.2.2.2.2.1 + Int.natAbs st.2.2.2.2.2.2 + 1000) (fun s => by kernel_rfl) (fun st => by kernel_rfl) (fun st => by kernel_rfl) (fun n st => (ref03_Match_L7_B_eq n st).trans (loopF_eq tT ref03_Match_lo ref03_Match_ll (((loops ref03_Match_c)[0]?).getD .skip) ref03_Match_L7_e.head ref03_Match_L7_e.exits (ref03_Match_L7 n) st).symm)
theorem ref03_Match_eq (x : ref03_Match_sp.arg.den) : ref03_Match x = bodyK tT (otabK ref03_Match_lo) (ltabK ref03_Match_ll) Tryd.f32 ref03_Match_sp.arg ref03_Match_sp.res x (fun y => y) := by kernel_rfl
theorem ref03_Match_ok : SpecOK Tryd.prog tG ref03_Match_sp :=
  spec_of_body (c := ref03_Match_c) tT_ok ref03_Match_ook tP_mixed (fn := Tryd.f32) Tryd.func32 (by kernel_rfl) (by kernel_rfl) (loopsOK_of (by
    have e : loops ref03_Match_c = [((loops ref03_Match_c)[0]?).getD .skip] := by kernel_rfl
    rw [e]
    intro a ha
    simp only [List.mem_cons, List.not_mem_nil, or_false] at ha
    rcases ha with rfl
    · exact ref03_Match_L7_lok)) (fun x => enc_closed x (by kernel_rfl)) (by kernel_rfl) (by kernel_rfl) (fun x => (ref03_Match_eq x).trans (bodyF_eq tT ref03_Match_lo ref03_Match_ll Tryd.f32 ref03_Match_sp.arg ref03_Match_sp.res x).symm)


/-- stockyard/stockyardlaw06.matches. -/
noncomputable def law06_matches (x : Pat × ByteArray) : Option Bool :=
  bindK (ref03_Match x) fun r1001 =>
  some r1001.2

noncomputable def law06_matches_sp : FSpec := ⟨19, (.pair (.agg (.prod (.list .str) .bool)) .str), .bool, law06_matches⟩
noncomputable def law06_matches_lo : List FSpec := [ref03_Match_sp]
noncomputable def law06_matches_ll : List LEnt := []
theorem law06_matches_ook : OOK Tryd.prog tG (otab law06_matches_lo) := ook_of (l := law06_matches_lo) (by
    intro sp hsp
    simp only [law06_matches_lo, List.mem_cons, List.not_mem_nil, or_false] at hsp
    rcases hsp with rfl
    · exact ref03_Match_ok)
noncomputable def law06_matches_c : Code := (Tryd.f19.body).getD .skip
theorem law06_matches_eq (x : law06_matches_sp.arg.den) : law06_matches x = bodyK tT (otabK law06_matches_lo) (ltabK law06_matches_ll) Tryd.f19 law06_matches_sp.arg law06_matches_sp.res x (fun y => y) := by kernel_rfl
theorem law06_matches_ok : SpecOK Tryd.prog tG law06_matches_sp :=
  spec_of_body (c := law06_matches_c) tT_ok law06_matches_ook tP_mixed (fn := Tryd.f19) Tryd.func19 (by kernel_rfl) (by kernel_rfl) (loopsOK_of (by
    have e : loops law06_matches_c = [] := by kernel_rfl
    rw [e]
    intro a ha
    cases ha)) (fun x => enc_closed x (by kernel_rfl)) (by kernel_rfl) (by kernel_rfl) (fun x => (law06_matches_eq x).trans (bodyF_eq tT law06_matches_lo law06_matches_ll Tryd.f19 law06_matches_sp.arg law06_matches_sp.res x).symm)


/-- stockyard/stockyardref03.wildcards. -/
noncomputable def ref03_wildcards (x : Pat) : Option Int :=
  bindK (ref03_Kinds x) fun r1001 =>
  brK r1001.2
  (some (IntKind.wrap .i64 (r1001.1 + 1)))
  (some r1001.1)

noncomputable def ref03_wildcards_sp : FSpec := ⟨48, (.agg (.prod (.list .str) .bool)), (.int .i64), ref03_wildcards⟩
noncomputable def ref03_wildcards_lo : List FSpec := [ref03_Kinds_sp]
noncomputable def ref03_wildcards_ll : List LEnt := []
theorem ref03_wildcards_ook : OOK Tryd.prog tG (otab ref03_wildcards_lo) := ook_of (l := ref03_wildcards_lo) (by
    intro sp hsp
    simp only [ref03_wildcards_lo, List.mem_cons, List.not_mem_nil, or_false] at hsp
    rcases hsp with rfl
    · exact ref03_Kinds_ok)
noncomputable def ref03_wildcards_c : Code := (Tryd.f48.body).getD .skip
theorem ref03_wildcards_eq (x : ref03_wildcards_sp.arg.den) : ref03_wildcards x = bodyK tT (otabK ref03_wildcards_lo) (ltabK ref03_wildcards_ll) Tryd.f48 ref03_wildcards_sp.arg ref03_wildcards_sp.res x (fun y => y) := by kernel_rfl
theorem ref03_wildcards_ok : SpecOK Tryd.prog tG ref03_wildcards_sp :=
  spec_of_body (c := ref03_wildcards_c) tT_ok ref03_wildcards_ook tP_mixed (fn := Tryd.f48) Tryd.func48 (by kernel_rfl) (by kernel_rfl) (loopsOK_of (by
    have e : loops ref03_wildcards_c = [] := by kernel_rfl
    rw [e]
    intro a ha
    cases ha)) (fun x => enc_closed x (by kernel_rfl)) (by kernel_rfl) (by kernel_rfl) (fun x => (ref03_wildcards_eq x).trans (bodyF_eq tT ref03_wildcards_lo ref03_wildcards_ll Tryd.f48 ref03_wildcards_sp.arg ref03_wildcards_sp.res x).symm)


/-- stockyard/stockyardref02.Join. -/
noncomputable def ref02_Join (x : List ByteArray) : Option ByteArray :=
  bindK (strings_Join (x, (ByteArray.mk #[47]))) fun r1001 =>
  brK (decide (ByteArray.size (ByteArray.mk #[47, 47]) + ByteArray.size r1001 ≤ 140737488355328))
  (some ((ByteArray.mk #[47, 47]) ++ r1001))
  (none)

noncomputable def ref02_Join_sp : FSpec := ⟨51, (.list .str), .str, ref02_Join⟩
noncomputable def ref02_Join_lo : List FSpec := [strings_Join_sp]
noncomputable def ref02_Join_ll : List LEnt := []
theorem ref02_Join_ook : OOK Tryd.prog tG (otab ref02_Join_lo) := ook_of (l := ref02_Join_lo) (by
    intro sp hsp
    simp only [ref02_Join_lo, List.mem_cons, List.not_mem_nil, or_false] at hsp
    rcases hsp with rfl
    · exact strings_Join_ok)
noncomputable def ref02_Join_c : Code := (Tryd.f51.body).getD .skip
theorem ref02_Join_eq (x : ref02_Join_sp.arg.den) : ref02_Join x = bodyK tT (otabK ref02_Join_lo) (ltabK ref02_Join_ll) Tryd.f51 ref02_Join_sp.arg ref02_Join_sp.res x (fun y => y) := by kernel_rfl
theorem ref02_Join_ok : SpecOK Tryd.prog tG ref02_Join_sp :=
  spec_of_body (c := ref02_Join_c) tT_ok ref02_Join_ook tP_mixed (fn := Tryd.f51) Tryd.func51 (by kernel_rfl) (by kernel_rfl) (loopsOK_of (by
    have e : loops ref02_Join_c = [] := by kernel_rfl
    rw [e]
    intro a ha
    cases ha)) (fun x => enc_closed x (by kernel_rfl)) (by kernel_rfl) (by kernel_rfl) (fun x => (ref02_Join_eq x).trans (bodyF_eq tT ref02_Join_lo ref02_Join_ll Tryd.f51 ref02_Join_sp.arg ref02_Join_sp.res x).symm)

/-- A round of the loop 9 of stockyard/stockyardref03.Fill. -/
noncomputable def ref03_Fill_L9_B (rec : ((List ByteArray) × ((List ByteArray) × Bool) × (List ByteArray) × Int × (List ByteArray) × Int × Int) → Option (((List ByteArray) × ((List ByteArray) × Bool) × (List ByteArray) × Int) ⊕ ((ByteArray × Int) ⊕ Empty))) (st : (List ByteArray) × ((List ByteArray) × Bool) × (List ByteArray) × Int × (List ByteArray) × Int × Int) : Option (((List ByteArray) × ((List ByteArray) × Bool) × (List ByteArray) × Int) ⊕ ((ByteArray × Int) ⊕ Empty)) :=
  brK (decide ((st.2.2.2.2.2.2 : Int) < st.2.2.2.2.2.1))
  (bindK (listAt st.2.2.2.2.1 st.2.2.2.2.2.2) fun e3 =>
  bindK (ref03_Star e3) fun r4 =>
  brK r4.2
  (bindK (listAt st.1 st.2.2.2.1) fun e5 =>
  bindK (ref02_Component e5) fun r6 =>
  brK (!r6)
  (some (.inr (.inl ((ByteArray.mk #[]), 32))))
  (bindK (listAt st.1 st.2.2.2.1) fun e7 =>
  brK (decide (ByteArray.size e7 + ByteArray.size r4.1 ≤ 140737488355328))
  (brK (fits (List.length st.2.2.1) (List.length ([(e7 ++ r4.1)] : List ByteArray)) 16)
  (rec (st.1, st.2.1, (st.2.2.1 ++ ([(e7 ++ r4.1)] : List ByteArray)), (IntKind.wrap .i64 (st.2.2.2.1 + 1)), st.2.2.2.2.1, st.2.2.2.2.2.1, (IntKind.wrap .i64 (st.2.2.2.2.2.2 + 1))))
  (none))
  (none)))
  (brK (fits (List.length st.2.2.1) (List.length ([e3] : List ByteArray)) 16)
  (rec (st.1, st.2.1, (st.2.2.1 ++ ([e3] : List ByteArray)), st.2.2.2.1, st.2.2.2.2.1, st.2.2.2.2.2.1, (IntKind.wrap .i64 (st.2.2.2.2.2.2 + 1))))
  (none)))
  (some (.inl (st.1, st.2.1, st.2.2.1, st.2.2.2.1)))

noncomputable def ref03_Fill_L9 : Nat → ((List ByteArray) × ((List ByteArray) × Bool) × (List ByteArray) × Int × (List ByteArray) × Int × Int) → Option (((List ByteArray) × ((List ByteArray) × Bool) × (List ByteArray) × Int) ⊕ ((ByteArray × Int) ⊕ Empty))
  | 0, _ => none
  | n + 1, st => ref03_Fill_L9_B (ref03_Fill_L9 n) st

noncomputable def ref03_Fill_L9_f (st : (List ByteArray) × ((List ByteArray) × Bool) × (List ByteArray) × Int × (List ByteArray) × Int × Int) : Option (((List ByteArray) × ((List ByteArray) × Bool) × (List ByteArray) × Int) ⊕ ((ByteArray × Int) ⊕ Empty)) := ref03_Fill_L9 (List.length st.1 + List.length st.2.1.1 + List.length st.2.2.1 + Int.natAbs st.2.2.2.1 + List.length st.2.2.2.2.1 + Int.natAbs st.2.2.2.2.2.1 + Int.natAbs st.2.2.2.2.2.2 + 1000) st

/-- A round of the loop 20 of stockyard/stockyardref03.Fill. -/
noncomputable def ref03_Fill_L20_B (rec : ((List ByteArray) × (List ByteArray) × Int × Int) → Option ((List ByteArray) ⊕ ((ByteArray × Int) ⊕ Empty))) (st : (List ByteArray) × (List ByteArray) × Int × Int) : Option ((List ByteArray) ⊕ ((ByteArray × Int) ⊕ Empty)) :=
  brK (decide ((st.2.2.2 : Int) < st.2.2.1))
  (bindK (listAt st.2.1 st.2.2.2) fun e13 =>
  bindK (ref02_Component e13) fun r14 =>
  brK (!r14)
  (some (.inr (.inl ((ByteArray.mk #[]), 32))))
  (brK (fits (List.length st.1) (List.length ([e13] : List ByteArray)) 16)
  (rec ((st.1 ++ ([e13] : List ByteArray)), st.2.1, st.2.2.1, (IntKind.wrap .i64 (st.2.2.2 + 1))))
  (none)))
  (some (.inl st.1))

noncomputable def ref03_Fill_L20 : Nat → ((List ByteArray) × (List ByteArray) × Int × Int) → Option ((List ByteArray) ⊕ ((ByteArray × Int) ⊕ Empty))
  | 0, _ => none
  | n + 1, st => ref03_Fill_L20_B (ref03_Fill_L20 n) st

noncomputable def ref03_Fill_L20_f (st : (List ByteArray) × (List ByteArray) × Int × Int) : Option ((List ByteArray) ⊕ ((ByteArray × Int) ⊕ Empty)) := ref03_Fill_L20 (List.length st.1 + List.length st.2.1 + Int.natAbs st.2.2.1 + Int.natAbs st.2.2.2 + 1000) st

/-- stockyard/stockyardref03.Fill. -/
noncomputable def ref03_Fill (x : Pat × List ByteArray) : Option (ByteArray × Int) :=
  bindK (ref03_Check x.1) fun r1001 =>
  brK (decide ((r1001 : Int) ≠ 0))
  (some ((ByteArray.mk #[]), r1001))
  (bindK (ref03_wildcards x.1) fun r1002 =>
  brK (decide (((x.2.length : Int) : Int) ≠ r1002))
  (some ((ByteArray.mk #[]), 32))
  (bindK (ref03_Fill_L9_f (x.2, x.1, ([] : List ByteArray), 0, x.1.1, (x.1.1.length : Int), 0)) fun o1003 =>
  sumK o1003 (fun y1004 =>
  brK y1004.2.1.2
  (bindK (listAt y1004.1 y1004.2.2.2) fun e1006 =>
  bindK (strings_Split (e1006, (ByteArray.mk #[47]))) fun r1007 =>
  bindK (ref03_Fill_L20_f (y1004.2.2.1, r1007, (r1007.length : Int), 0)) fun o1008 =>
  sumK o1008 (fun y1009 =>
  bindK (ref02_Join y1009) fun r1011 =>
  some (r1011, 0))
  (fun z1010 => sumK z1010 (fun y1012 =>
  some y1012)
  (fun z1013 => emptyK z1013)))
  (bindK (ref02_Join y1004.2.2.1) fun r1014 =>
  some (r1014, 0)))
  (fun z1005 => sumK z1005 (fun y1015 =>
  some y1015)
  (fun z1016 => emptyK z1016))))

noncomputable def ref03_Fill_sp : FSpec := ⟨33, (.pair (.agg (.prod (.list .str) .bool)) (.list .str)), (.tup (.pair .str (.int .i64))), ref03_Fill⟩
noncomputable def ref03_Fill_lo : List FSpec := [ref03_Check_sp, ref03_wildcards_sp, ref03_Star_sp, ref02_Component_sp, strings_Split_sp, ref02_Join_sp]
noncomputable def ref03_Fill_L9_e : LEnt := ⟨9, ⟨79, 2, [1, 2, 7, 8, 26, 27, 28], (.pair (.list .str) (.pair (.box 0 (.pair (.list .str) .bool)) (.pair (.own 1 9 .str) (.pair (.int .i64) (.pair (.list .str) (.pair (.int .i64) (.int .i64)))))))⟩, [((.exit 0), ⟨79, 2, [1, 2, 7, 8], (.pair (.list .str) (.pair (.box 0 (.pair (.list .str) .bool)) (.pair (.own 1 9 .str) (.int .i64))))⟩), (.ret, ⟨79, 0, [4, 5], (.pair .str (.int .i64))⟩)], ref03_Fill_L9_f⟩
noncomputable def ref03_Fill_L20_e : LEnt := ⟨20, ⟨79, 1, [7, 63, 64, 65], (.pair (.own 0 9 .str) (.pair (.list .str) (.pair (.int .i64) (.int .i64))))⟩, [((.exit 2), ⟨79, 1, [7], (.own 0 9 .str)⟩), (.ret, ⟨79, 0, [4, 5], (.pair .str (.int .i64))⟩)], ref03_Fill_L20_f⟩
noncomputable def ref03_Fill_ll : List LEnt := [ref03_Fill_L9_e, ref03_Fill_L20_e]
theorem ref03_Fill_ook : OOK Tryd.prog tG (otab ref03_Fill_lo) := ook_of (l := ref03_Fill_lo) (by
    intro sp hsp
    simp only [ref03_Fill_lo, List.mem_cons, List.not_mem_nil, or_false] at hsp
    rcases hsp with rfl | rfl | rfl | rfl | rfl | rfl
    · exact ref03_Check_ok
    · exact ref03_wildcards_ok
    · exact ref03_Star_ok
    · exact ref02_Component_ok
    · exact strings_Split_ok
    · exact ref02_Join_ok)
noncomputable def ref03_Fill_c : Code := (Tryd.f33.body).getD .skip
theorem ref03_Fill_L20_B_eq (n : Nat) (st : ref03_Fill_L20_e.head.shape.den) : ref03_Fill_L20 (n + 1) st = aexecK tT (otabK ref03_Fill_lo) (ltabK ref03_Fill_ll) (((loops ref03_Fill_c)[1]?).getD .skip) (ref03_Fill_L20_e.head.enc st) (lres ref03_Fill_L20_e.head ref03_Fill_L20_e.exits (ref03_Fill_L20 n)) := by kernel_rfl
theorem ref03_Fill_L20_lok : LOK Tryd.prog tG (ltab ref03_Fill_ll) (((loops ref03_Fill_c)[1]?).getD .skip) :=
  lok_of tT_ok ref03_Fill_ook tP_mixed (loopsOK_of (by
    have e : loops (((loops ref03_Fill_c)[1]?).getD .skip) = [] := by kernel_rfl
    rw [e]
    intro a ha
    cases ha)) ref03_Fill_L20_e (F := ref03_Fill_L20) (fun st => List.length st.1 + List.length st.2.1 + Int.natAbs st.2.2.1 + Int.natAbs st.2.2.2 + 1000) (fun s => by kernel_rfl) (fun st => by kernel_rfl) (fun st => by kernel_rfl) (fun n st => (ref03_Fill_L20_B_eq n st).trans (loopF_eq tT ref03_Fill_lo ref03_Fill_ll (((loops ref03_Fill_c)[1]?).getD .skip) ref03_Fill_L20_e.head ref03_Fill_L20_e.exits (ref03_Fill_L20 n) st).symm)
theorem ref03_Fill_L9_B_eq (n : Nat) (st : ref03_Fill_L9_e.head.shape.den) : ref03_Fill_L9 (n + 1) st = aexecK tT (otabK ref03_Fill_lo) (ltabK ref03_Fill_ll) (((loops ref03_Fill_c)[0]?).getD .skip) (ref03_Fill_L9_e.head.enc st) (lres ref03_Fill_L9_e.head ref03_Fill_L9_e.exits (ref03_Fill_L9 n)) := by kernel_rfl
theorem ref03_Fill_L9_lok : LOK Tryd.prog tG (ltab ref03_Fill_ll) (((loops ref03_Fill_c)[0]?).getD .skip) :=
  lok_of tT_ok ref03_Fill_ook tP_mixed (loopsOK_of (by
    have e : loops (((loops ref03_Fill_c)[0]?).getD .skip) = [] := by kernel_rfl
    rw [e]
    intro a ha
    cases ha)) ref03_Fill_L9_e (F := ref03_Fill_L9) (fun st => List.length st.1 + List.length st.2.1.1 + List.length st.2.2.1 + Int.natAbs st.2.2.2.1 + List.length st.2.2.2.2.1 + Int.natAbs st.2.2.2.2.2.1 + Int.natAbs st.2.2.2.2.2.2 + 1000) (fun s => by kernel_rfl) (fun st => by kernel_rfl) (fun st => by kernel_rfl) (fun n st => (ref03_Fill_L9_B_eq n st).trans (loopF_eq tT ref03_Fill_lo ref03_Fill_ll (((loops ref03_Fill_c)[0]?).getD .skip) ref03_Fill_L9_e.head ref03_Fill_L9_e.exits (ref03_Fill_L9 n) st).symm)
theorem ref03_Fill_eq (x : ref03_Fill_sp.arg.den) : ref03_Fill x = bodyK tT (otabK ref03_Fill_lo) (ltabK ref03_Fill_ll) Tryd.f33 ref03_Fill_sp.arg ref03_Fill_sp.res x (fun y => y) := by kernel_rfl
theorem ref03_Fill_ok : SpecOK Tryd.prog tG ref03_Fill_sp :=
  spec_of_body (c := ref03_Fill_c) tT_ok ref03_Fill_ook tP_mixed (fn := Tryd.f33) Tryd.func33 (by kernel_rfl) (by kernel_rfl) (loopsOK_of (by
    have e : loops ref03_Fill_c = [((loops ref03_Fill_c)[0]?).getD .skip, ((loops ref03_Fill_c)[1]?).getD .skip] := by kernel_rfl
    rw [e]
    intro a ha
    simp only [List.mem_cons, List.not_mem_nil, or_false] at ha
    rcases ha with rfl | rfl
    · exact ref03_Fill_L9_lok
    · exact ref03_Fill_L20_lok)) (fun x => enc_closed x (by kernel_rfl)) (by kernel_rfl) (by kernel_rfl) (fun x => (ref03_Fill_eq x).trans (bodyF_eq tT ref03_Fill_lo ref03_Fill_ll Tryd.f33 ref03_Fill_sp.arg ref03_Fill_sp.res x).symm)


/-- stockyard/stockyardref04.Forward. -/
noncomputable def ref04_Forward (x : Rul × ByteArray) : Option (ByteArray × Bool) :=
  bindK (ref04_Check x.1) fun r1001 =>
  brK (decide ((r1001 : Int) ≠ 0))
  (some ((ByteArray.mk #[]), false))
  (bindK (ref03_Match (x.1.2.1, x.2)) fun r1002 =>
  brK (!r1002.2)
  (some ((ByteArray.mk #[]), false))
  (bindK (ref03_Fill (x.1.2.2, r1002.1)) fun r1003 =>
  some (r1003.1, (decide ((r1003.2 : Int) = 0)))))

noncomputable def ref04_Forward_sp : FSpec := ⟨20, (.pair (.agg (.prod .bool (.prod (.prod (.list .str) .bool) (.prod (.list .str) .bool)))) .str), (.tup (.pair .str .bool)), ref04_Forward⟩
noncomputable def ref04_Forward_lo : List FSpec := [ref04_Check_sp, ref03_Match_sp, ref03_Fill_sp]
noncomputable def ref04_Forward_ll : List LEnt := []
theorem ref04_Forward_ook : OOK Tryd.prog tG (otab ref04_Forward_lo) := ook_of (l := ref04_Forward_lo) (by
    intro sp hsp
    simp only [ref04_Forward_lo, List.mem_cons, List.not_mem_nil, or_false] at hsp
    rcases hsp with rfl | rfl | rfl
    · exact ref04_Check_ok
    · exact ref03_Match_ok
    · exact ref03_Fill_ok)
noncomputable def ref04_Forward_c : Code := (Tryd.f20.body).getD .skip
theorem ref04_Forward_eq (x : ref04_Forward_sp.arg.den) : ref04_Forward x = bodyK tT (otabK ref04_Forward_lo) (ltabK ref04_Forward_ll) Tryd.f20 ref04_Forward_sp.arg ref04_Forward_sp.res x (fun y => y) := by kernel_rfl
theorem ref04_Forward_ok : SpecOK Tryd.prog tG ref04_Forward_sp :=
  spec_of_body (c := ref04_Forward_c) tT_ok ref04_Forward_ook tP_mixed (fn := Tryd.f20) Tryd.func20 (by kernel_rfl) (by kernel_rfl) (loopsOK_of (by
    have e : loops ref04_Forward_c = [] := by kernel_rfl
    rw [e]
    intro a ha
    cases ha)) (fun x => enc_closed x (by kernel_rfl)) (by kernel_rfl) (by kernel_rfl) (fun x => (ref04_Forward_eq x).trans (bodyF_eq tT ref04_Forward_lo ref04_Forward_ll Tryd.f20 ref04_Forward_sp.arg ref04_Forward_sp.res x).symm)


/-- stockyard/stockyardlaw06.ViewLast. -/
noncomputable def law06_ViewLast (x : (List Rul) × Rul × ByteArray) : Option Bool :=
  brK (fits 0 (List.length x.1) 72)
  (brK (fits (List.length x.1) (List.length ([x.2.1] : List Rul)) 72)
  (bindK (view_Check (x.1 ++ ([x.2.1] : List Rul))) fun r1001 =>
  bindK (law06_small (x.1 ++ ([x.2.1] : List Rul))) fun r1002 =>
  brK (!r1002)
  (bindK (law06_awake ()) fun r1003 =>
  some r1003)
  (brK (decide (((x.2.2.size : Int) : Int) > 300))
  (bindK (law06_awake ()) fun r1004 =>
  some r1004)
  (brK (decide ((r1001.2 : Int) ≠ 0))
  (bindK (law06_awake ()) fun r1005 =>
  some r1005)
  (bindK (view_Forward (x.1, x.2.2)) fun r1006 =>
  bindK (view_Forward ((x.1 ++ ([x.2.1] : List Rul)), x.2.2)) fun r1007 =>
  bindK (law06_matches (x.2.1.2.1, x.2.2)) fun r1008 =>
  brK r1008
  (bindK (ref04_Forward x.2) fun r1009 =>
  brK x.2.1.1
  (brK (decide (r1007.1 = (ByteArray.mk #[])))
  (brK (!r1007.2)
  (bindK (law06_awake ()) fun r1010 =>
  some r1010)
  (some false))
  (some false))
  (brK r1007.2
  (brK (decide (r1007.1 = r1009.1))
  (bindK (law06_awake ()) fun r1011 =>
  some r1011)
  (some false))
  (some false)))
  (brK r1006.2
  (bindK (law06_matches (x.2.1.2.2, r1006.1)) fun r1012 =>
  brK r1012
  (brK (decide (r1007.1 = (ByteArray.mk #[])))
  (brK (!r1007.2)
  (bindK (law06_awake ()) fun r1013 =>
  some r1013)
  (some false))
  (some false))
  (brK (decide (r1006.1 = r1007.1))
  (brK (r1006.2 == r1007.2)
  (bindK (law06_awake ()) fun r1014 =>
  some r1014)
  (some false))
  (some false)))
  (brK (decide (r1006.1 = r1007.1))
  (brK (r1006.2 == r1007.2)
  (bindK (law06_awake ()) fun r1015 =>
  some r1015)
  (some false))
  (some false)))))))
  (none))
  (none)

noncomputable def law06_ViewLast_sp : FSpec := ⟨6, (.pair (.list (.prod .bool (.prod (.prod (.list .str) .bool) (.prod (.list .str) .bool)))) (.pair (.agg (.prod .bool (.prod (.prod (.list .str) .bool) (.prod (.list .str) .bool)))) .str)), .bool, law06_ViewLast⟩
noncomputable def law06_ViewLast_lo : List FSpec := [view_Check_sp, law06_small_sp, law06_awake_sp, view_Forward_sp, law06_matches_sp, ref04_Forward_sp]
noncomputable def law06_ViewLast_ll : List LEnt := []
theorem law06_ViewLast_ook : OOK Tryd.prog tG (otab law06_ViewLast_lo) := ook_of (l := law06_ViewLast_lo) (by
    intro sp hsp
    simp only [law06_ViewLast_lo, List.mem_cons, List.not_mem_nil, or_false] at hsp
    rcases hsp with rfl | rfl | rfl | rfl | rfl | rfl
    · exact view_Check_ok
    · exact law06_small_ok
    · exact law06_awake_ok
    · exact view_Forward_ok
    · exact law06_matches_ok
    · exact ref04_Forward_ok)
noncomputable def law06_ViewLast_c : Code := (Tryd.f6.body).getD .skip
theorem law06_ViewLast_eq (x : law06_ViewLast_sp.arg.den) : law06_ViewLast x = bodyK tT (otabK law06_ViewLast_lo) (ltabK law06_ViewLast_ll) Tryd.f6 law06_ViewLast_sp.arg law06_ViewLast_sp.res x (fun y => y) := by kernel_rfl
theorem law06_ViewLast_ok : SpecOK Tryd.prog tG law06_ViewLast_sp :=
  spec_of_body (c := law06_ViewLast_c) tT_ok law06_ViewLast_ook tP_mixed (fn := Tryd.f6) Tryd.func6 (by kernel_rfl) (by kernel_rfl) (loopsOK_of (by
    have e : loops law06_ViewLast_c = [] := by kernel_rfl
    rw [e]
    intro a ha
    cases ha)) (fun x => enc_closed x (by kernel_rfl)) (by kernel_rfl) (by kernel_rfl) (fun x => (law06_ViewLast_eq x).trans (bodyF_eq tT law06_ViewLast_lo law06_ViewLast_ll Tryd.f6 law06_ViewLast_sp.arg law06_ViewLast_sp.res x).symm)


/-- stockyard/stockyardlaw06.ViewFirst. -/
noncomputable def law06_ViewFirst (x : (List Rul) × Rul × ByteArray) : Option Bool :=
  brK (fits (List.length ([x.2.1] : List Rul)) (List.length x.1) 72)
  (bindK (view_Check (([x.2.1] : List Rul) ++ x.1)) fun r1001 =>
  bindK (law06_small (([x.2.1] : List Rul) ++ x.1)) fun r1002 =>
  brK (!r1002)
  (bindK (law06_awake ()) fun r1003 =>
  some r1003)
  (brK (decide (((x.2.2.size : Int) : Int) > 300))
  (bindK (law06_awake ()) fun r1004 =>
  some r1004)
  (brK (decide ((r1001.2 : Int) ≠ 0))
  (bindK (law06_awake ()) fun r1005 =>
  some r1005)
  (bindK (view_Decides (x.1, x.2.2)) fun r1006 =>
  bindK (view_Decides ((([x.2.1] : List Rul) ++ x.1), x.2.2)) fun r1007 =>
  brK (decide ((r1006 : Int) < 0))
  (bindK (law06_matches (x.2.1.2.1, x.2.2)) fun r1008 =>
  brK ((decide ((r1007 : Int) = 0)) == r1008)
  (brK (decide ((r1007 : Int) ≤ 0))
  (bindK (law06_awake ()) fun r1009 =>
  some r1009)
  (some false))
  (some false))
  (bindK (view_Forward (x.1, x.2.2)) fun r1010 =>
  bindK (view_Forward ((([x.2.1] : List Rul) ++ x.1), x.2.2)) fun r1011 =>
  brK (decide ((r1007 : Int) = (IntKind.wrap .i64 (r1006 + 1))))
  (brK (decide (r1010.1 = r1011.1))
  (brK (r1010.2 == r1011.2)
  (bindK (law06_awake ()) fun r1012 =>
  some r1012)
  (some false))
  (some false))
  (some false))))))
  (none)

noncomputable def law06_ViewFirst_sp : FSpec := ⟨7, (.pair (.list (.prod .bool (.prod (.prod (.list .str) .bool) (.prod (.list .str) .bool)))) (.pair (.agg (.prod .bool (.prod (.prod (.list .str) .bool) (.prod (.list .str) .bool)))) .str)), .bool, law06_ViewFirst⟩
noncomputable def law06_ViewFirst_lo : List FSpec := [view_Check_sp, law06_small_sp, law06_awake_sp, view_Decides_sp, law06_matches_sp, view_Forward_sp]
noncomputable def law06_ViewFirst_ll : List LEnt := []
theorem law06_ViewFirst_ook : OOK Tryd.prog tG (otab law06_ViewFirst_lo) := ook_of (l := law06_ViewFirst_lo) (by
    intro sp hsp
    simp only [law06_ViewFirst_lo, List.mem_cons, List.not_mem_nil, or_false] at hsp
    rcases hsp with rfl | rfl | rfl | rfl | rfl | rfl
    · exact view_Check_ok
    · exact law06_small_ok
    · exact law06_awake_ok
    · exact view_Decides_ok
    · exact law06_matches_ok
    · exact view_Forward_ok)
noncomputable def law06_ViewFirst_c : Code := (Tryd.f7.body).getD .skip
theorem law06_ViewFirst_eq (x : law06_ViewFirst_sp.arg.den) : law06_ViewFirst x = bodyK tT (otabK law06_ViewFirst_lo) (ltabK law06_ViewFirst_ll) Tryd.f7 law06_ViewFirst_sp.arg law06_ViewFirst_sp.res x (fun y => y) := by kernel_rfl
theorem law06_ViewFirst_ok : SpecOK Tryd.prog tG law06_ViewFirst_sp :=
  spec_of_body (c := law06_ViewFirst_c) tT_ok law06_ViewFirst_ook tP_mixed (fn := Tryd.f7) Tryd.func7 (by kernel_rfl) (by kernel_rfl) (loopsOK_of (by
    have e : loops law06_ViewFirst_c = [] := by kernel_rfl
    rw [e]
    intro a ha
    cases ha)) (fun x => enc_closed x (by kernel_rfl)) (by kernel_rfl) (by kernel_rfl) (fun x => (law06_ViewFirst_eq x).trans (bodyF_eq tT law06_ViewFirst_lo law06_ViewFirst_ll Tryd.f7 law06_ViewFirst_sp.arg law06_ViewFirst_sp.res x).symm)


/-- stockyard/stockyardlaw06.ViewDecided. -/
noncomputable def law06_ViewDecided (x : (List Rul) × ByteArray) : Option Bool :=
  bindK (law06_small x.1) fun r1001 =>
  brK (!r1001)
  (bindK (law06_awake ()) fun r1002 =>
  some r1002)
  (brK (decide (((x.2.size : Int) : Int) > 300))
  (bindK (law06_awake ()) fun r1003 =>
  some r1003)
  (bindK (view_Forward x) fun r1004 =>
  bindK (view_Decides x) fun r1005 =>
  brK (!r1004.2)
  (brK (decide (r1004.1 = (ByteArray.mk #[])))
  (brK (decide ((r1005 : Int) < (x.1.length : Int)))
  (bindK (law06_awake ()) fun r1006 =>
  some r1006)
  (some false))
  (some false))
  (brK (decide ((r1005 : Int) < 0))
  (some false)
  (brK (decide ((r1005 : Int) ≥ (x.1.length : Int)))
  (some false)
  (bindK (listAt x.1 r1005) fun e1007 =>
  brK e1007.1
  (some false)
  (bindK (listAt x.1 r1005) fun e1008 =>
  bindK (ref04_Forward (e1008, x.2)) fun r1009 =>
  brK r1009.2
  (brK (decide (r1009.1 = r1004.1))
  (bindK (law06_awake ()) fun r1010 =>
  some r1010)
  (some false))
  (some false)))))))

noncomputable def law06_ViewDecided_sp : FSpec := ⟨8, (.pair (.list (.prod .bool (.prod (.prod (.list .str) .bool) (.prod (.list .str) .bool)))) .str), .bool, law06_ViewDecided⟩
noncomputable def law06_ViewDecided_lo : List FSpec := [law06_small_sp, law06_awake_sp, view_Forward_sp, view_Decides_sp, ref04_Forward_sp]
noncomputable def law06_ViewDecided_ll : List LEnt := []
theorem law06_ViewDecided_ook : OOK Tryd.prog tG (otab law06_ViewDecided_lo) := ook_of (l := law06_ViewDecided_lo) (by
    intro sp hsp
    simp only [law06_ViewDecided_lo, List.mem_cons, List.not_mem_nil, or_false] at hsp
    rcases hsp with rfl | rfl | rfl | rfl | rfl
    · exact law06_small_ok
    · exact law06_awake_ok
    · exact view_Forward_ok
    · exact view_Decides_ok
    · exact ref04_Forward_ok)
noncomputable def law06_ViewDecided_c : Code := (Tryd.f8.body).getD .skip
theorem law06_ViewDecided_eq (x : law06_ViewDecided_sp.arg.den) : law06_ViewDecided x = bodyK tT (otabK law06_ViewDecided_lo) (ltabK law06_ViewDecided_ll) Tryd.f8 law06_ViewDecided_sp.arg law06_ViewDecided_sp.res x (fun y => y) := by kernel_rfl
theorem law06_ViewDecided_ok : SpecOK Tryd.prog tG law06_ViewDecided_sp :=
  spec_of_body (c := law06_ViewDecided_c) tT_ok law06_ViewDecided_ook tP_mixed (fn := Tryd.f8) Tryd.func8 (by kernel_rfl) (by kernel_rfl) (loopsOK_of (by
    have e : loops law06_ViewDecided_c = [] := by kernel_rfl
    rw [e]
    intro a ha
    cases ha)) (fun x => enc_closed x (by kernel_rfl)) (by kernel_rfl) (by kernel_rfl) (fun x => (law06_ViewDecided_eq x).trans (bodyF_eq tT law06_ViewDecided_lo law06_ViewDecided_ll Tryd.f8 law06_ViewDecided_sp.arg law06_ViewDecided_sp.res x).symm)

/-- A round of the loop 2 of stockyard/stockyardref06.Related. -/
noncomputable def ref06_Related_L2_B (rec : ((List Rul) × ByteArray × ByteArray × Int) → Option (Unit ⊕ (Bool ⊕ Empty))) (st : (List Rul) × ByteArray × ByteArray × Int) : Option (Unit ⊕ (Bool ⊕ Empty)) :=
  brK (decide ((st.2.2.2 : Int) ≥ 0))
  (bindK (listAt st.1 st.2.2.2) fun e1 =>
  bindK (ref04_Forward (e1, st.2.1)) fun r2 =>
  brK r2.2
  (brK (decide (r2.1 = st.2.2.1))
  (bindK (listAt st.1 st.2.2.2) fun e3 =>
  brK (!e3.1)
  (some (.inr (.inl true)))
  (bindK (listAt st.1 st.2.2.2) fun e4 =>
  bindK (ref03_Match (e4.2.1, st.2.1)) fun r5 =>
  bindK (listAt st.1 st.2.2.2) fun e6 =>
  bindK (ref03_Match (e6.2.2, st.2.2.1)) fun r7 =>
  brK r5.2
  (some (.inr (.inl false)))
  (brK r7.2
  (some (.inr (.inl false)))
  (rec (st.1, st.2.1, st.2.2.1, (IntKind.wrap .i64 (st.2.2.2 - 1)))))))
  (bindK (listAt st.1 st.2.2.2) fun e8 =>
  bindK (ref03_Match (e8.2.1, st.2.1)) fun r9 =>
  bindK (listAt st.1 st.2.2.2) fun e10 =>
  bindK (ref03_Match (e10.2.2, st.2.2.1)) fun r11 =>
  brK r9.2
  (some (.inr (.inl false)))
  (brK r11.2
  (some (.inr (.inl false)))
  (rec (st.1, st.2.1, st.2.2.1, (IntKind.wrap .i64 (st.2.2.2 - 1)))))))
  (bindK (listAt st.1 st.2.2.2) fun e12 =>
  bindK (ref03_Match (e12.2.1, st.2.1)) fun r13 =>
  bindK (listAt st.1 st.2.2.2) fun e14 =>
  bindK (ref03_Match (e14.2.2, st.2.2.1)) fun r15 =>
  brK r13.2
  (some (.inr (.inl false)))
  (brK r15.2
  (some (.inr (.inl false)))
  (rec (st.1, st.2.1, st.2.2.1, (IntKind.wrap .i64 (st.2.2.2 - 1)))))))
  (some (.inl ()))

noncomputable def ref06_Related_L2 : Nat → ((List Rul) × ByteArray × ByteArray × Int) → Option (Unit ⊕ (Bool ⊕ Empty))
  | 0, _ => none
  | n + 1, st => ref06_Related_L2_B (ref06_Related_L2 n) st

noncomputable def ref06_Related_L2_f (st : (List Rul) × ByteArray × ByteArray × Int) : Option (Unit ⊕ (Bool ⊕ Empty)) := ref06_Related_L2 (List.length st.1 + ByteArray.size st.2.1 + ByteArray.size st.2.2.1 + Int.natAbs st.2.2.2 + 1000) st

/-- stockyard/stockyardref06.Related. -/
noncomputable def ref06_Related (x : (List Rul) × ByteArray × ByteArray) : Option Bool :=
  bindK (ref06_Related_L2_f (x.1, x.2.1, x.2.2, (IntKind.wrap .i64 ((x.1.length : Int) - 1)))) fun o1001 =>
  sumK o1001 (fun y1002 =>
  some false)
  (fun z1003 => sumK z1003 (fun y1004 =>
  some y1004)
  (fun z1005 => emptyK z1005))

noncomputable def ref06_Related_sp : FSpec := ⟨34, (.pair (.list (.prod .bool (.prod (.prod (.list .str) .bool) (.prod (.list .str) .bool)))) (.pair .str .str)), .bool, ref06_Related⟩
noncomputable def ref06_Related_lo : List FSpec := [ref04_Forward_sp, ref03_Match_sp]
noncomputable def ref06_Related_L2_e : LEnt := ⟨2, ⟨68, 0, [0, 1, 2, 7], (.pair (.list (.prod .bool (.prod (.prod (.list .str) .bool) (.prod (.list .str) .bool)))) (.pair .str (.pair .str (.int .i64))))⟩, [((.exit 0), ⟨68, 0, [], .nil⟩), (.ret, ⟨68, 0, [6], .bool⟩)], ref06_Related_L2_f⟩
noncomputable def ref06_Related_ll : List LEnt := [ref06_Related_L2_e]
theorem ref06_Related_ook : OOK Tryd.prog tG (otab ref06_Related_lo) := ook_of (l := ref06_Related_lo) (by
    intro sp hsp
    simp only [ref06_Related_lo, List.mem_cons, List.not_mem_nil, or_false] at hsp
    rcases hsp with rfl | rfl
    · exact ref04_Forward_ok
    · exact ref03_Match_ok)
noncomputable def ref06_Related_c : Code := (Tryd.f34.body).getD .skip
theorem ref06_Related_L2_B_eq (n : Nat) (st : ref06_Related_L2_e.head.shape.den) : ref06_Related_L2 (n + 1) st = aexecK tT (otabK ref06_Related_lo) (ltabK ref06_Related_ll) (((loops ref06_Related_c)[0]?).getD .skip) (ref06_Related_L2_e.head.enc st) (lres ref06_Related_L2_e.head ref06_Related_L2_e.exits (ref06_Related_L2 n)) := by kernel_rfl
theorem ref06_Related_L2_lok : LOK Tryd.prog tG (ltab ref06_Related_ll) (((loops ref06_Related_c)[0]?).getD .skip) :=
  lok_of tT_ok ref06_Related_ook tP_mixed (loopsOK_of (by
    have e : loops (((loops ref06_Related_c)[0]?).getD .skip) = [] := by kernel_rfl
    rw [e]
    intro a ha
    cases ha)) ref06_Related_L2_e (F := ref06_Related_L2) (fun st => List.length st.1 + ByteArray.size st.2.1 + ByteArray.size st.2.2.1 + Int.natAbs st.2.2.2 + 1000) (fun s => by kernel_rfl) (fun st => by kernel_rfl) (fun st => by kernel_rfl) (fun n st => (ref06_Related_L2_B_eq n st).trans (loopF_eq tT ref06_Related_lo ref06_Related_ll (((loops ref06_Related_c)[0]?).getD .skip) ref06_Related_L2_e.head ref06_Related_L2_e.exits (ref06_Related_L2 n) st).symm)
theorem ref06_Related_eq (x : ref06_Related_sp.arg.den) : ref06_Related x = bodyK tT (otabK ref06_Related_lo) (ltabK ref06_Related_ll) Tryd.f34 ref06_Related_sp.arg ref06_Related_sp.res x (fun y => y) := by kernel_rfl
theorem ref06_Related_ok : SpecOK Tryd.prog tG ref06_Related_sp :=
  spec_of_body (c := ref06_Related_c) tT_ok ref06_Related_ook tP_mixed (fn := Tryd.f34) Tryd.func34 (by kernel_rfl) (by kernel_rfl) (loopsOK_of (by
    have e : loops ref06_Related_c = [((loops ref06_Related_c)[0]?).getD .skip] := by kernel_rfl
    rw [e]
    intro a ha
    simp only [List.mem_cons, List.not_mem_nil, or_false] at ha
    rcases ha with rfl
    · exact ref06_Related_L2_lok)) (fun x => enc_closed x (by kernel_rfl)) (by kernel_rfl) (by kernel_rfl) (fun x => (ref06_Related_eq x).trans (bodyF_eq tT ref06_Related_lo ref06_Related_ll Tryd.f34 ref06_Related_sp.arg ref06_Related_sp.res x).symm)

/-- A round of the loop 5 of stockyard/stockyardref06.Forward. -/
noncomputable def ref06_Forward_L5_B (rec : ((List Rul) × ByteArray × (List Rul) × Int × Int) → Option (Unit ⊕ ((ByteArray × Bool) ⊕ Empty))) (st : (List Rul) × ByteArray × (List Rul) × Int × Int) : Option (Unit ⊕ ((ByteArray × Bool) ⊕ Empty)) :=
  brK (decide ((st.2.2.2.2 : Int) < st.2.2.2.1))
  (bindK (listAt st.2.2.1 st.2.2.2.2) fun e2 =>
  bindK (ref04_Forward (e2, st.2.1)) fun r3 =>
  brK r3.2
  (bindK (ref06_Related (st.1, st.2.1, r3.1)) fun r4 =>
  brK r4
  (some (.inr (.inl (r3.1, true))))
  (rec (st.1, st.2.1, st.2.2.1, st.2.2.2.1, (IntKind.wrap .i64 (st.2.2.2.2 + 1)))))
  (rec (st.1, st.2.1, st.2.2.1, st.2.2.2.1, (IntKind.wrap .i64 (st.2.2.2.2 + 1)))))
  (some (.inl ()))

noncomputable def ref06_Forward_L5 : Nat → ((List Rul) × ByteArray × (List Rul) × Int × Int) → Option (Unit ⊕ ((ByteArray × Bool) ⊕ Empty))
  | 0, _ => none
  | n + 1, st => ref06_Forward_L5_B (ref06_Forward_L5 n) st

noncomputable def ref06_Forward_L5_f (st : (List Rul) × ByteArray × (List Rul) × Int × Int) : Option (Unit ⊕ ((ByteArray × Bool) ⊕ Empty)) := ref06_Forward_L5 (List.length st.1 + ByteArray.size st.2.1 + List.length st.2.2.1 + Int.natAbs st.2.2.2.1 + Int.natAbs st.2.2.2.2 + 1000) st

/-- stockyard/stockyardref06.Forward. -/
noncomputable def ref06_Forward (x : (List Rul) × ByteArray) : Option (ByteArray × Bool) :=
  bindK (ref06_Check x.1) fun r1001 =>
  brK (decide ((r1001.2 : Int) ≠ 0))
  (some ((ByteArray.mk #[]), false))
  (bindK (ref06_Forward_L5_f (x.1, x.2, x.1, (x.1.length : Int), 0)) fun o1002 =>
  sumK o1002 (fun y1003 =>
  some ((ByteArray.mk #[]), false))
  (fun z1004 => sumK z1004 (fun y1005 =>
  some y1005)
  (fun z1006 => emptyK z1006)))

noncomputable def ref06_Forward_sp : FSpec := ⟨22, (.pair (.list (.prod .bool (.prod (.prod (.list .str) .bool) (.prod (.list .str) .bool)))) .str), (.tup (.pair .str .bool)), ref06_Forward⟩
noncomputable def ref06_Forward_lo : List FSpec := [ref06_Check_sp, ref04_Forward_sp, ref06_Related_sp]
noncomputable def ref06_Forward_L5_e : LEnt := ⟨5, ⟨40, 0, [0, 1, 19, 20, 21], (.pair (.list (.prod .bool (.prod (.prod (.list .str) .bool) (.prod (.list .str) .bool)))) (.pair .str (.pair (.list (.prod .bool (.prod (.prod (.list .str) .bool) (.prod (.list .str) .bool)))) (.pair (.int .i64) (.int .i64)))))⟩, [((.exit 0), ⟨40, 0, [], .nil⟩), (.ret, ⟨40, 0, [4, 5], (.pair .str .bool)⟩)], ref06_Forward_L5_f⟩
noncomputable def ref06_Forward_ll : List LEnt := [ref06_Forward_L5_e]
theorem ref06_Forward_ook : OOK Tryd.prog tG (otab ref06_Forward_lo) := ook_of (l := ref06_Forward_lo) (by
    intro sp hsp
    simp only [ref06_Forward_lo, List.mem_cons, List.not_mem_nil, or_false] at hsp
    rcases hsp with rfl | rfl | rfl
    · exact ref06_Check_ok
    · exact ref04_Forward_ok
    · exact ref06_Related_ok)
noncomputable def ref06_Forward_c : Code := (Tryd.f22.body).getD .skip
theorem ref06_Forward_L5_B_eq (n : Nat) (st : ref06_Forward_L5_e.head.shape.den) : ref06_Forward_L5 (n + 1) st = aexecK tT (otabK ref06_Forward_lo) (ltabK ref06_Forward_ll) (((loops ref06_Forward_c)[0]?).getD .skip) (ref06_Forward_L5_e.head.enc st) (lres ref06_Forward_L5_e.head ref06_Forward_L5_e.exits (ref06_Forward_L5 n)) := by kernel_rfl
theorem ref06_Forward_L5_lok : LOK Tryd.prog tG (ltab ref06_Forward_ll) (((loops ref06_Forward_c)[0]?).getD .skip) :=
  lok_of tT_ok ref06_Forward_ook tP_mixed (loopsOK_of (by
    have e : loops (((loops ref06_Forward_c)[0]?).getD .skip) = [] := by kernel_rfl
    rw [e]
    intro a ha
    cases ha)) ref06_Forward_L5_e (F := ref06_Forward_L5) (fun st => List.length st.1 + ByteArray.size st.2.1 + List.length st.2.2.1 + Int.natAbs st.2.2.2.1 + Int.natAbs st.2.2.2.2 + 1000) (fun s => by kernel_rfl) (fun st => by kernel_rfl) (fun st => by kernel_rfl) (fun n st => (ref06_Forward_L5_B_eq n st).trans (loopF_eq tT ref06_Forward_lo ref06_Forward_ll (((loops ref06_Forward_c)[0]?).getD .skip) ref06_Forward_L5_e.head ref06_Forward_L5_e.exits (ref06_Forward_L5 n) st).symm)
theorem ref06_Forward_eq (x : ref06_Forward_sp.arg.den) : ref06_Forward x = bodyK tT (otabK ref06_Forward_lo) (ltabK ref06_Forward_ll) Tryd.f22 ref06_Forward_sp.arg ref06_Forward_sp.res x (fun y => y) := by kernel_rfl
theorem ref06_Forward_ok : SpecOK Tryd.prog tG ref06_Forward_sp :=
  spec_of_body (c := ref06_Forward_c) tT_ok ref06_Forward_ook tP_mixed (fn := Tryd.f22) Tryd.func22 (by kernel_rfl) (by kernel_rfl) (loopsOK_of (by
    have e : loops ref06_Forward_c = [((loops ref06_Forward_c)[0]?).getD .skip] := by kernel_rfl
    rw [e]
    intro a ha
    simp only [List.mem_cons, List.not_mem_nil, or_false] at ha
    rcases ha with rfl
    · exact ref06_Forward_L5_lok)) (fun x => enc_closed x (by kernel_rfl)) (by kernel_rfl) (by kernel_rfl) (fun x => (ref06_Forward_eq x).trans (bodyF_eq tT ref06_Forward_lo ref06_Forward_ll Tryd.f22 ref06_Forward_sp.arg ref06_Forward_sp.res x).symm)

/-- A round of the loop 6 of stockyard/stockyardref06.Decides. -/
noncomputable def ref06_Decides_L6_B (rec : (ByteArray × Int × (List Rul) × Int × Int) → Option (Int ⊕ Empty)) (st : ByteArray × Int × (List Rul) × Int × Int) : Option (Int ⊕ Empty) :=
  brK (decide ((st.2.2.2.2 : Int) < st.2.2.2.1))
  (bindK (listAt st.2.2.1 st.2.2.2.2) fun e2 =>
  bindK (ref03_Match (e2.2.1, st.1)) fun r3 =>
  brK r3.2
  (rec (st.1, st.2.2.2.2, st.2.2.1, st.2.2.2.1, (IntKind.wrap .i64 (st.2.2.2.2 + 1))))
  (rec (st.1, st.2.1, st.2.2.1, st.2.2.2.1, (IntKind.wrap .i64 (st.2.2.2.2 + 1)))))
  (some (.inl st.2.1))

noncomputable def ref06_Decides_L6 : Nat → (ByteArray × Int × (List Rul) × Int × Int) → Option (Int ⊕ Empty)
  | 0, _ => none
  | n + 1, st => ref06_Decides_L6_B (ref06_Decides_L6 n) st

noncomputable def ref06_Decides_L6_f (st : ByteArray × Int × (List Rul) × Int × Int) : Option (Int ⊕ Empty) := ref06_Decides_L6 (ByteArray.size st.1 + Int.natAbs st.2.1 + List.length st.2.2.1 + Int.natAbs st.2.2.2.1 + Int.natAbs st.2.2.2.2 + 1000) st

/-- stockyard/stockyardref06.Decides. -/
noncomputable def ref06_Decides (x : (List Rul) × ByteArray) : Option Int :=
  bindK (ref06_Check x.1) fun r1001 =>
  brK (decide ((r1001.2 : Int) ≠ 0))
  (some (-1))
  (bindK (ref06_Decides_L6_f (x.2, (-1), x.1, (x.1.length : Int), 0)) fun o1002 =>
  sumK o1002 (fun y1003 =>
  some y1003)
  (fun z1004 => emptyK z1004))

noncomputable def ref06_Decides_sp : FSpec := ⟨23, (.pair (.list (.prod .bool (.prod (.prod (.list .str) .bool) (.prod (.list .str) .bool)))) .str), (.int .i64), ref06_Decides⟩
noncomputable def ref06_Decides_lo : List FSpec := [ref06_Check_sp, ref03_Match_sp]
noncomputable def ref06_Decides_L6_e : LEnt := ⟨6, ⟨37, 0, [1, 7, 19, 20, 21], (.pair .str (.pair (.int .i64) (.pair (.list (.prod .bool (.prod (.prod (.list .str) .bool) (.prod (.list .str) .bool)))) (.pair (.int .i64) (.int .i64)))))⟩, [((.exit 0), ⟨37, 0, [7], (.int .i64)⟩)], ref06_Decides_L6_f⟩
noncomputable def ref06_Decides_ll : List LEnt := [ref06_Decides_L6_e]
theorem ref06_Decides_ook : OOK Tryd.prog tG (otab ref06_Decides_lo) := ook_of (l := ref06_Decides_lo) (by
    intro sp hsp
    simp only [ref06_Decides_lo, List.mem_cons, List.not_mem_nil, or_false] at hsp
    rcases hsp with rfl | rfl
    · exact ref06_Check_ok
    · exact ref03_Match_ok)
noncomputable def ref06_Decides_c : Code := (Tryd.f23.body).getD .skip
theorem ref06_Decides_L6_B_eq (n : Nat) (st : ref06_Decides_L6_e.head.shape.den) : ref06_Decides_L6 (n + 1) st = aexecK tT (otabK ref06_Decides_lo) (ltabK ref06_Decides_ll) (((loops ref06_Decides_c)[0]?).getD .skip) (ref06_Decides_L6_e.head.enc st) (lres ref06_Decides_L6_e.head ref06_Decides_L6_e.exits (ref06_Decides_L6 n)) := by kernel_rfl
theorem ref06_Decides_L6_lok : LOK Tryd.prog tG (ltab ref06_Decides_ll) (((loops ref06_Decides_c)[0]?).getD .skip) :=
  lok_of tT_ok ref06_Decides_ook tP_mixed (loopsOK_of (by
    have e : loops (((loops ref06_Decides_c)[0]?).getD .skip) = [] := by kernel_rfl
    rw [e]
    intro a ha
    cases ha)) ref06_Decides_L6_e (F := ref06_Decides_L6) (fun st => ByteArray.size st.1 + Int.natAbs st.2.1 + List.length st.2.2.1 + Int.natAbs st.2.2.2.1 + Int.natAbs st.2.2.2.2 + 1000) (fun s => by kernel_rfl) (fun st => by kernel_rfl) (fun st => by kernel_rfl) (fun n st => (ref06_Decides_L6_B_eq n st).trans (loopF_eq tT ref06_Decides_lo ref06_Decides_ll (((loops ref06_Decides_c)[0]?).getD .skip) ref06_Decides_L6_e.head ref06_Decides_L6_e.exits (ref06_Decides_L6 n) st).symm)
theorem ref06_Decides_eq (x : ref06_Decides_sp.arg.den) : ref06_Decides x = bodyK tT (otabK ref06_Decides_lo) (ltabK ref06_Decides_ll) Tryd.f23 ref06_Decides_sp.arg ref06_Decides_sp.res x (fun y => y) := by kernel_rfl
theorem ref06_Decides_ok : SpecOK Tryd.prog tG ref06_Decides_sp :=
  spec_of_body (c := ref06_Decides_c) tT_ok ref06_Decides_ook tP_mixed (fn := Tryd.f23) Tryd.func23 (by kernel_rfl) (by kernel_rfl) (loopsOK_of (by
    have e : loops ref06_Decides_c = [((loops ref06_Decides_c)[0]?).getD .skip] := by kernel_rfl
    rw [e]
    intro a ha
    simp only [List.mem_cons, List.not_mem_nil, or_false] at ha
    rcases ha with rfl
    · exact ref06_Decides_L6_lok)) (fun x => enc_closed x (by kernel_rfl)) (by kernel_rfl) (by kernel_rfl) (fun x => (ref06_Decides_eq x).trans (bodyF_eq tT ref06_Decides_lo ref06_Decides_ll Tryd.f23 ref06_Decides_sp.arg ref06_Decides_sp.res x).symm)


/-- stockyard/stockyardlaw06.ViewMaps. -/
noncomputable def law06_ViewMaps (x : (List Rul) × ByteArray) : Option Bool :=
  bindK (law06_small x.1) fun r1001 =>
  brK (!r1001)
  (bindK (law06_awake ()) fun r1002 =>
  some r1002)
  (brK (decide (((x.2.size : Int) : Int) > 300))
  (bindK (law06_awake ()) fun r1003 =>
  some r1003)
  (bindK (view_Forward x) fun r1004 =>
  bindK (ref06_Forward x) fun r1005 =>
  brK (decide (r1004.1 ≠ r1005.1))
  (some false)
  (brK (!(r1004.2 == r1005.2))
  (some false)
  (bindK (view_Decides x) fun r1006 =>
  bindK (ref06_Decides x) fun r1007 =>
  brK (decide ((r1006 : Int) ≠ r1007))
  (some false)
  (bindK (view_Backward x) fun r1008 =>
  bindK (ref06_Turn x.1) fun r1009 =>
  bindK (ref06_Forward (r1009, x.2)) fun r1010 =>
  bindK (ref06_Check x.1) fun r1011 =>
  brK (decide ((r1011.2 : Int) ≠ 0))
  (brK (decide (r1008.1 = (ByteArray.mk #[])))
  (brK (r1008.2 == false)
  (bindK (law06_awake ()) fun r1012 =>
  some r1012)
  (some false))
  (some false))
  (brK (decide (r1008.1 = r1010.1))
  (brK (r1008.2 == r1010.2)
  (bindK (law06_awake ()) fun r1013 =>
  some r1013)
  (some false))
  (some false)))))))

noncomputable def law06_ViewMaps_sp : FSpec := ⟨9, (.pair (.list (.prod .bool (.prod (.prod (.list .str) .bool) (.prod (.list .str) .bool)))) .str), .bool, law06_ViewMaps⟩
noncomputable def law06_ViewMaps_lo : List FSpec := [law06_small_sp, law06_awake_sp, view_Forward_sp, ref06_Forward_sp, view_Decides_sp, ref06_Decides_sp, view_Backward_sp, ref06_Turn_sp, ref06_Check_sp]
noncomputable def law06_ViewMaps_ll : List LEnt := []
theorem law06_ViewMaps_ook : OOK Tryd.prog tG (otab law06_ViewMaps_lo) := ook_of (l := law06_ViewMaps_lo) (by
    intro sp hsp
    simp only [law06_ViewMaps_lo, List.mem_cons, List.not_mem_nil, or_false] at hsp
    rcases hsp with rfl | rfl | rfl | rfl | rfl | rfl | rfl | rfl | rfl
    · exact law06_small_ok
    · exact law06_awake_ok
    · exact view_Forward_ok
    · exact ref06_Forward_ok
    · exact view_Decides_ok
    · exact ref06_Decides_ok
    · exact view_Backward_ok
    · exact ref06_Turn_ok
    · exact ref06_Check_ok)
noncomputable def law06_ViewMaps_c : Code := (Tryd.f9.body).getD .skip
theorem law06_ViewMaps_eq (x : law06_ViewMaps_sp.arg.den) : law06_ViewMaps x = bodyK tT (otabK law06_ViewMaps_lo) (ltabK law06_ViewMaps_ll) Tryd.f9 law06_ViewMaps_sp.arg law06_ViewMaps_sp.res x (fun y => y) := by kernel_rfl
theorem law06_ViewMaps_ok : SpecOK Tryd.prog tG law06_ViewMaps_sp :=
  spec_of_body (c := law06_ViewMaps_c) tT_ok law06_ViewMaps_ook tP_mixed (fn := Tryd.f9) Tryd.func9 (by kernel_rfl) (by kernel_rfl) (loopsOK_of (by
    have e : loops law06_ViewMaps_c = [] := by kernel_rfl
    rw [e]
    intro a ha
    cases ha)) (fun x => enc_closed x (by kernel_rfl)) (by kernel_rfl) (by kernel_rfl) (fun x => (law06_ViewMaps_eq x).trans (bodyF_eq tT law06_ViewMaps_lo law06_ViewMaps_ll Tryd.f9 law06_ViewMaps_sp.arg law06_ViewMaps_sp.res x).symm)


end Go.Proofs.YtaibnjoobijplaaDoor
