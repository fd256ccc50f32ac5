/- The functions of the program, printed as plain functions, each with the proof that it is what the program's code computes. -/
import Derived.Test.YtcmfkmhmehhkpaaDoorAc
import Derived.Test.YtcmfkmhmehhkpaaDoorL
import Derived.Test.YtcmfkmhmehhkpaaDoorShelf
import Derived.Test.YtcmfkmhmehhkpaaDoorProg
import Derived.KernelRfl
set_option linter.unusedVariables false
set_option maxRecDepth 100000
namespace Go.Proofs.YtcmfkmhmehhkpaaDoor
open Go Go.Ai Go.Proofs

/-- What holds of the program's variables. -/
def tG (w : World) : Prop := ∃ m, w.cell? ⟨0, 0, none⟩ = some (.int .i64 m)

noncomputable def tTab : List (Nat × TI) := [
  (3, ⟨1, 8, .int .i64 0, .int .i64, (.int .i64)⟩),
  (4, ⟨1, 1, .bool false, .bool, .bool⟩),
  (9, ⟨1, 16, .str (ByteArray.mk #[]), .str, .str⟩),
  (22, ⟨1, 24, .snil, .slice 27, (.list (.prod (.list .str) .bool))⟩),
  (23, ⟨1, 24, .snil, .slice 9, (.list .str)⟩),
  (27, ⟨2, 32, .agg [.snil, .bool false], .struct [(0, 1, false), (1, 1, false)], (.prod (.list .str) .bool)⟩),
  (29, ⟨3, 56, .agg [.snil, .bool false, .snil], .struct [(0, 2, true), (2, 1, false)], (.prod (.prod (.list .str) .bool) (.list (.prod (.list .str) .bool)))⟩),
  (48, ⟨1, 24, .snil, .slice 29, (.list (.prod (.prod (.list .str) .bool) (.list (.prod (.list .str) .bool))))⟩),
  (58, ⟨1, 8, .int .u64 0, .int .u64, (.int .u64)⟩),
  (93, ⟨1, 24, .snil, .slice 96, (.list (.prod .str (.prod (.list .str) .bool)))⟩),
  (96, ⟨3, 48, .agg [.str (ByteArray.mk #[]), .snil, .bool false], .struct [(0, 1, false), (1, 2, true)], (.prod .str (.prod (.list .str) .bool))⟩),
  (104, ⟨1, 24, .snil, .slice 22, (.list (.list (.prod (.list .str) .bool)))⟩)]
noncomputable def tT : Nat → Option TI := tabT tTab
theorem tT_ok : TOK Tryd.prog tT := tok_of (by kernel_rfl)
theorem tP_mixed : Tryd.prog.follows .mixedOrders = true := by kernel_rfl

/-- A round of the loop 7 of stockyard/stockyardlaw05.small. -/
noncomputable def law05_small_L7_B (rec : (((List ByteArray) × Bool × List Pat) × Int × (List Pat) × Int × Int × (List ByteArray) × Int × Int) → Option ((((List ByteArray) × Bool × List Pat) × Int × (List Pat) × Int × Int) ⊕ (Bool ⊕ Empty))) (st : ((List ByteArray) × Bool × List Pat) × Int × (List Pat) × Int × Int × (List ByteArray) × Int × Int) : Option ((((List ByteArray) × Bool × List Pat) × Int × (List Pat) × Int × Int) ⊕ (Bool ⊕ Empty)) :=
  brK (decide ((st.2.2.2.2.2.2.2 : Int) < st.2.2.2.2.2.2.1))
  (bindK (listAt st.2.2.2.2.2.1 st.2.2.2.2.2.2.2) fun e2 =>
  brK (decide (((e2.size : Int) : Int) > 60))
  (some (.inr (.inl false)))
  (rec (st.1, st.2.1, st.2.2.1, st.2.2.2.1, st.2.2.2.2.1, st.2.2.2.2.2.1, st.2.2.2.2.2.2.1, (IntKind.wrap .i64 (st.2.2.2.2.2.2.2 + 1)))))
  (some (.inl (st.1, st.2.1, st.2.2.1, st.2.2.2.1, st.2.2.2.2.1)))

noncomputable def law05_small_L7 : Nat → (((List ByteArray) × Bool × List Pat) × Int × (List Pat) × Int × Int × (List ByteArray) × Int × Int) → Option ((((List ByteArray) × Bool × List Pat) × Int × (List Pat) × Int × Int) ⊕ (Bool ⊕ Empty))
  | 0, _ => none
  | n + 1, st => law05_small_L7_B (law05_small_L7 n) st

noncomputable def law05_small_L7_f (st : ((List ByteArray) × Bool × List Pat) × Int × (List Pat) × Int × Int × (List ByteArray) × Int × Int) : Option ((((List ByteArray) × Bool × List Pat) × Int × (List Pat) × Int × Int) ⊕ (Bool ⊕ Empty)) := law05_small_L7 (List.length st.1.1 + List.length st.1.2.2 + Int.natAbs st.2.1 + List.length st.2.2.1 + Int.natAbs st.2.2.2.1 + Int.natAbs st.2.2.2.2.1 + List.length st.2.2.2.2.2.1 + Int.natAbs st.2.2.2.2.2.2.1 + Int.natAbs st.2.2.2.2.2.2.2 + 1000) st

/-- A round of the loop 3 of stockyard/stockyardlaw05.small. -/
noncomputable def law05_small_L3_B (rec : (((List ByteArray) × Bool × List Pat) × Int × (List Pat) × Int × Int) → Option ((((List ByteArray) × Bool × List Pat) × Int) ⊕ (Bool ⊕ Empty))) (st : ((List ByteArray) × Bool × List Pat) × Int × (List Pat) × Int × Int) : Option ((((List ByteArray) × Bool × List Pat) × Int) ⊕ (Bool ⊕ Empty)) :=
  brK (decide ((st.2.2.2.2 : Int) < st.2.2.2.1))
  (bindK (listAt st.2.2.1 st.2.2.2.2) fun e1 =>
  bindK (law05_small_L7_f (st.1, (IntKind.wrap .i64 (st.2.1 + (e1.1.length : Int))), st.2.2.1, st.2.2.2.1, st.2.2.2.2, e1.1, (e1.1.length : Int), 0)) fun o3 =>
  sumK o3 (fun y4 =>
  rec (y4.1, y4.2.1, y4.2.2.1, y4.2.2.2.1, (IntKind.wrap .i64 (y4.2.2.2.2 + 1))))
  (fun z5 => sumK z5 (fun y6 =>
  some (.inr (.inl y6)))
  (fun z7 => emptyK z7)))
  (some (.inl (st.1, st.2.1)))

noncomputable def law05_small_L3 : Nat → (((List ByteArray) × Bool × List Pat) × Int × (List Pat) × Int × Int) → Option ((((List ByteArray) × Bool × List Pat) × Int) ⊕ (Bool ⊕ Empty))
  | 0, _ => none
  | n + 1, st => law05_small_L3_B (law05_small_L3 n) st

noncomputable def law05_small_L3_f (st : ((List ByteArray) × Bool × List Pat) × Int × (List Pat) × Int × Int) : Option ((((List ByteArray) × Bool × List Pat) × Int) ⊕ (Bool ⊕ Empty)) := law05_small_L3 (List.length st.1.1 + List.length st.1.2.2 + Int.natAbs st.2.1 + List.length st.2.2.1 + Int.natAbs st.2.2.2.1 + Int.natAbs st.2.2.2.2 + 1000) st

/-- A round of the loop 14 of stockyard/stockyardlaw05.small. -/
noncomputable def law05_small_L14_B (rec : (((List ByteArray) × Bool × List Pat) × Int × (List ByteArray) × Int × Int) → Option ((((List ByteArray) × Bool × List Pat) × Int) ⊕ (Bool ⊕ Empty))) (st : ((List ByteArray) × Bool × List Pat) × Int × (List ByteArray) × Int × Int) : Option ((((List ByteArray) × Bool × List Pat) × Int) ⊕ (Bool ⊕ Empty)) :=
  brK (decide ((st.2.2.2.2 : Int) < st.2.2.2.1))
  (bindK (listAt st.2.2.1 st.2.2.2.2) fun e11 =>
  brK (decide (((e11.size : Int) : Int) > 60))
  (some (.inr (.inl false)))
  (rec (st.1, st.2.1, st.2.2.1, st.2.2.2.1, (IntKind.wrap .i64 (st.2.2.2.2 + 1)))))
  (some (.inl (st.1, st.2.1)))

noncomputable def law05_small_L14 : Nat → (((List ByteArray) × Bool × List Pat) × Int × (List ByteArray) × Int × Int) → Option ((((List ByteArray) × Bool × List Pat) × Int) ⊕ (Bool ⊕ Empty))
  | 0, _ => none
  | n + 1, st => law05_small_L14_B (law05_small_L14 n) st

noncomputable def law05_small_L14_f (st : ((List ByteArray) × Bool × List Pat) × Int × (List ByteArray) × Int × Int) : Option ((((List ByteArray) × Bool × List Pat) × Int) ⊕ (Bool ⊕ Empty)) := law05_small_L14 (List.length st.1.1 + List.length st.1.2.2 + Int.natAbs st.2.1 + List.length st.2.2.1 + Int.natAbs st.2.2.2.1 + Int.natAbs st.2.2.2.2 + 1000) st

/-- stockyard/stockyardlaw05.small. -/
noncomputable def law05_small (x : Reg) : Option Bool :=
  bindK (law05_small_L3_f ((x.1.1, x.1.2, x.2), (x.1.1.length : Int), x.2, (x.2.length : Int), 0)) fun o1001 =>
  sumK o1001 (fun y1002 =>
  bindK (law05_small_L14_f (y1002.1, y1002.2, y1002.1.1, (y1002.1.1.length : Int), 0)) fun o1004 =>
  sumK o1004 (fun y1005 =>
  brK (decide ((y1005.2 : Int) ≤ 400))
  (brK (decide (((y1005.1.2.2.length : Int) : Int) ≤ 70))
  (some (decide (((y1005.1.1.length : Int) : Int) ≤ 20)))
  (some false))
  (some false))
  (fun z1006 => sumK z1006 (fun y1007 =>
  some y1007)
  (fun z1008 => emptyK z1008)))
  (fun z1003 => sumK z1003 (fun y1009 =>
  some y1009)
  (fun z1010 => emptyK z1010))

noncomputable def law05_small_sp : FSpec := ⟨10, (.agg (.prod (.prod (.list .str) .bool) (.list (.prod (.list .str) .bool)))), .bool, law05_small⟩
noncomputable def law05_small_lo : List FSpec := []
noncomputable def law05_small_L7_e : LEnt := ⟨7, ⟨65, 1, [1, 3, 15, 16, 17, 27, 28, 29], (.pair (.box 0 (.pair (.list .str) (.pair .bool (.list (.prod (.list .str) .bool))))) (.pair (.int .i64) (.pair (.list (.prod (.list .str) .bool)) (.pair (.int .i64) (.pair (.int .i64) (.pair (.list .str) (.pair (.int .i64) (.int .i64))))))))⟩, [((.exit 2), ⟨65, 1, [1, 3, 15, 16, 17], (.pair (.box 0 (.pair (.list .str) (.pair .bool (.list (.prod (.list .str) .bool))))) (.pair (.int .i64) (.pair (.list (.prod (.list .str) .bool)) (.pair (.int .i64) (.int .i64)))))⟩), (.ret, ⟨65, 0, [2], .bool⟩)], law05_small_L7_f⟩
noncomputable def law05_small_L3_e : LEnt := ⟨3, ⟨65, 1, [1, 3, 15, 16, 17], (.pair (.box 0 (.pair (.list .str) (.pair .bool (.list (.prod (.list .str) .bool))))) (.pair (.int .i64) (.pair (.list (.prod (.list .str) .bool)) (.pair (.int .i64) (.int .i64)))))⟩, [((.exit 0), ⟨65, 1, [1, 3], (.pair (.box 0 (.pair (.list .str) (.pair .bool (.list (.prod (.list .str) .bool))))) (.int .i64))⟩), (.ret, ⟨65, 0, [2], .bool⟩)], law05_small_L3_f⟩
noncomputable def law05_small_L14_e : LEnt := ⟨14, ⟨65, 1, [1, 3, 40, 41, 42], (.pair (.box 0 (.pair (.list .str) (.pair .bool (.list (.prod (.list .str) .bool))))) (.pair (.int .i64) (.pair (.list .str) (.pair (.int .i64) (.int .i64)))))⟩, [((.exit 4), ⟨65, 1, [1, 3], (.pair (.box 0 (.pair (.list .str) (.pair .bool (.list (.prod (.list .str) .bool))))) (.int .i64))⟩), (.ret, ⟨65, 0, [2], .bool⟩)], law05_small_L14_f⟩
noncomputable def law05_small_ll : List LEnt := [law05_small_L7_e, law05_small_L3_e, law05_small_L14_e]
theorem law05_small_ook : OOK Tryd.prog tG (otab law05_small_lo) := ook_of (l := law05_small_lo) (by intro sp hsp; cases hsp)
noncomputable def law05_small_c : Code := (Tryd.f10.body).getD .skip
theorem law05_small_L14_B_eq (n : Nat) (st : law05_small_L14_e.head.shape.den) : law05_small_L14 (n + 1) st = aexecK tT (otabK law05_small_lo) noX (itabK tT []) (ltabK law05_small_ll) (((loops law05_small_c)[2]?).getD .skip) (law05_small_L14_e.head.enc st) (lres law05_small_L14_e.head law05_small_L14_e.exits (law05_small_L14 n)) := by kernel_rfl
theorem law05_small_L14_lok : LOK Tryd.prog tG (ltab law05_small_ll) (((loops law05_small_c)[2]?).getD .skip) :=
  lok_of tT_ok law05_small_ook (iok_of tT_ok tP_mixed (l := []) (fun _ h => nomatch h)) tP_mixed (loopsOK_of (by
    have e : loops (((loops law05_small_c)[2]?).getD .skip) = [] := by kernel_rfl
    rw [e]
    intro a ha
    cases ha)) law05_small_L14_e (F := law05_small_L14) (fun st => List.length st.1.1 + List.length st.1.2.2 + Int.natAbs st.2.1 + List.length st.2.2.1 + Int.natAbs st.2.2.2.1 + Int.natAbs st.2.2.2.2 + 1000) (fun s => by kernel_rfl) (fun st => by kernel_rfl) (fun st => by kernel_rfl) (fun n st => (law05_small_L14_B_eq n st).trans (loopF_eq tT law05_small_lo noX [] law05_small_ll (((loops law05_small_c)[2]?).getD .skip) law05_small_L14_e.head law05_small_L14_e.exits (law05_small_L14 n) st).symm)
theorem law05_small_L7_B_eq (n : Nat) (st : law05_small_L7_e.head.shape.den) : law05_small_L7 (n + 1) st = aexecK tT (otabK law05_small_lo) noX (itabK tT []) (ltabK law05_small_ll) (((loops law05_small_c)[1]?).getD .skip) (law05_small_L7_e.head.enc st) (lres law05_small_L7_e.head law05_small_L7_e.exits (law05_small_L7 n)) := by kernel_rfl
theorem law05_small_L7_lok : LOK Tryd.prog tG (ltab law05_small_ll) (((loops law05_small_c)[1]?).getD .skip) :=
  lok_of tT_ok law05_small_ook (iok_of tT_ok tP_mixed (l := []) (fun _ h => nomatch h)) tP_mixed (loopsOK_of (by
    have e : loops (((loops law05_small_c)[1]?).getD .skip) = [] := by kernel_rfl
    rw [e]
    intro a ha
    cases ha)) law05_small_L7_e (F := law05_small_L7) (fun st => List.length st.1.1 + List.length st.1.2.2 + Int.natAbs st.2.1 + List.length st.2.2.1 + Int.natAbs st.2.2.2.1 + Int.natAbs st.2.2.2.2.1 + List.length st.2.2.2.2.2.1 + Int.natAbs st.2.2.2.2.2.2.1 + Int.natAbs st.2.2.2.2.2.2.2 + 1000) (fun s => by kernel_rfl) (fun st => by kernel_rfl) (fun st => by kernel_rfl) (fun n st => (law05_small_L7_B_eq n st).trans (loopF_eq tT law05_small_lo noX [] law05_small_ll (((loops law05_small_c)[1]?).getD .skip) law05_small_L7_e.head law05_small_L7_e.exits (law05_small_L7 n) st).symm)
theorem law05_small_L3_B_eq (n : Nat) (st : law05_small_L3_e.head.shape.den) : law05_small_L3 (n + 1) st = aexecK tT (otabK law05_small_lo) noX (itabK tT []) (ltabK law05_small_ll) (((loops law05_small_c)[0]?).getD .skip) (law05_small_L3_e.head.enc st) (lres law05_small_L3_e.head law05_small_L3_e.exits (law05_small_L3 n)) := by kernel_rfl
theorem law05_small_L3_lok : LOK Tryd.prog tG (ltab law05_small_ll) (((loops law05_small_c)[0]?).getD .skip) :=
  lok_of tT_ok law05_small_ook (iok_of tT_ok tP_mixed (l := []) (fun _ h => nomatch h)) tP_mixed (loopsOK_of (by
    have e : loops (((loops law05_small_c)[0]?).getD .skip) = [((loops law05_small_c)[1]?).getD .skip] := by kernel_rfl
    rw [e]
    intro a ha
    simp only [List.mem_cons, List.not_mem_nil, or_false] at ha
    rcases ha with rfl
    · exact law05_small_L7_lok)) law05_small_L3_e (F := law05_small_L3) (fun st => List.length st.1.1 + List.length st.1.2.2 + Int.natAbs st.2.1 + List.length st.2.2.1 + Int.natAbs st.2.2.2.1 + Int.natAbs st.2.2.2.2 + 1000) (fun s => by kernel_rfl) (fun st => by kernel_rfl) (fun st => by kernel_rfl) (fun n st => (law05_small_L3_B_eq n st).trans (loopF_eq tT law05_small_lo noX [] law05_small_ll (((loops law05_small_c)[0]?).getD .skip) law05_small_L3_e.head law05_small_L3_e.exits (law05_small_L3 n) st).symm)
theorem law05_small_h (x : law05_small_sp.arg.den) : law05_small_sp.f x = bodyF tT (otab law05_small_lo) noX (itab tT []) (ltab law05_small_ll) Tryd.f10 law05_small_sp.arg law05_small_sp.res x := by
  rw [bodyF_eq]
  kernel_rfl
theorem law05_small_ok : SpecOK Tryd.prog tG law05_small_sp :=
  spec_of_body (c := law05_small_c) tT_ok law05_small_ook (iok_of tT_ok tP_mixed (l := []) (fun _ h => nomatch h)) tP_mixed (fn := Tryd.f10) Tryd.func10 (by kernel_rfl) (by kernel_rfl) (loopsOK_of (by
    have e : loops law05_small_c = [((loops law05_small_c)[0]?).getD .skip, ((loops law05_small_c)[1]?).getD .skip, ((loops law05_small_c)[2]?).getD .skip] := by kernel_rfl
    rw [e]
    intro a ha
    simp only [List.mem_cons, List.not_mem_nil, or_false] at ha
    rcases ha with rfl | rfl | rfl
    · exact law05_small_L3_lok
    · exact law05_small_L7_lok
    · exact law05_small_L14_lok)) (fun x => enc_closed x (by kernel_rfl)) (by kernel_rfl) (by kernel_rfl) law05_small_h


/-- internal/stringslite.HasPrefix. -/
noncomputable def stringslite_HasPrefix (x : ByteArray × ByteArray) : Option Bool :=
  brK (decide (((x.1.size : Int) : Int) ≥ (x.2.size : Int)))
  (brK (decide (0 ≤ (0 : Int) ∧ (0 : Int) ≤ (x.2.size : Int) ∧ (x.2.size : Int) ≤ (x.1.size : Int)))
  (some (decide ((ByteArray.extract x.1 (Int.toNat 0) (Int.toNat (x.2.size : Int))) = x.2)))
  (none))
  (some false)

noncomputable def stringslite_HasPrefix_sp : FSpec := ⟨77, (.pair .str .str), .bool, stringslite_HasPrefix⟩
noncomputable def stringslite_HasPrefix_lo : List FSpec := []
noncomputable def stringslite_HasPrefix_ll : List LEnt := []
theorem stringslite_HasPrefix_ook : OOK Tryd.prog tG (otab stringslite_HasPrefix_lo) := ook_of (l := stringslite_HasPrefix_lo) (by intro sp hsp; cases hsp)
noncomputable def stringslite_HasPrefix_c : Code := (Tryd.f77.body).getD .skip
theorem stringslite_HasPrefix_h (x : stringslite_HasPrefix_sp.arg.den) : stringslite_HasPrefix_sp.f x = bodyF tT (otab stringslite_HasPrefix_lo) noX (itab tT []) (ltab stringslite_HasPrefix_ll) Tryd.f77 stringslite_HasPrefix_sp.arg stringslite_HasPrefix_sp.res x := by
  rw [bodyF_eq]
  kernel_rfl
theorem stringslite_HasPrefix_ok : SpecOK Tryd.prog tG stringslite_HasPrefix_sp :=
  spec_of_body (c := stringslite_HasPrefix_c) tT_ok stringslite_HasPrefix_ook (iok_of tT_ok tP_mixed (l := []) (fun _ h => nomatch h)) tP_mixed (fn := Tryd.f77) Tryd.func77 (by kernel_rfl) (by kernel_rfl) (loopsOK_of (by
    have e : loops stringslite_HasPrefix_c = [] := by kernel_rfl
    rw [e]
    intro a ha
    cases ha)) (fun x => enc_closed x (by kernel_rfl)) (by kernel_rfl) (by kernel_rfl) stringslite_HasPrefix_h


/-- internal/stringslite.CutPrefix. -/
noncomputable def stringslite_CutPrefix (x : ByteArray × ByteArray) : Option (ByteArray × Bool) :=
  bindK (stringslite_HasPrefix x) fun r1001 =>
  brK (!r1001)
  (some (x.1, false))
  (brK (decide (0 ≤ ((x.2.size : Int) : Int) ∧ ((x.2.size : Int) : Int) ≤ (x.1.size : Int) ∧ (x.1.size : Int) ≤ (x.1.size : Int)))
  (some ((ByteArray.extract x.1 (Int.toNat (x.2.size : Int)) (Int.toNat (x.1.size : Int))), true))
  (none))

noncomputable def stringslite_CutPrefix_sp : FSpec := ⟨83, (.pair .str .str), (.tup (.pair .str .bool)), stringslite_CutPrefix⟩
noncomputable def stringslite_CutPrefix_lo : List FSpec := [stringslite_HasPrefix_sp]
noncomputable def stringslite_CutPrefix_ll : List LEnt := []
theorem stringslite_CutPrefix_ook : OOK Tryd.prog tG (otab stringslite_CutPrefix_lo) := ook_of (l := stringslite_CutPrefix_lo) (by
    intro sp hsp
    simp only [stringslite_CutPrefix_lo, List.mem_cons, List.not_mem_nil, or_false] at hsp
    rcases hsp with rfl
    · exact stringslite_HasPrefix_ok)
noncomputable def stringslite_CutPrefix_c : Code := (Tryd.f83.body).getD .skip
theorem stringslite_CutPrefix_h (x : stringslite_CutPrefix_sp.arg.den) : stringslite_CutPrefix_sp.f x = bodyF tT (otab stringslite_CutPrefix_lo) noX (itab tT []) (ltab stringslite_CutPrefix_ll) Tryd.f83 stringslite_CutPrefix_sp.arg stringslite_CutPrefix_sp.res x := by
  rw [bodyF_eq]
  kernel_rfl
theorem stringslite_CutPrefix_ok : SpecOK Tryd.prog tG stringslite_CutPrefix_sp :=
  spec_of_body (c := stringslite_CutPrefix_c) tT_ok stringslite_CutPrefix_ook (iok_of tT_ok tP_mixed (l := []) (fun _ h => nomatch h)) tP_mixed (fn := Tryd.f83) Tryd.func83 (by kernel_rfl) (by kernel_rfl) (loopsOK_of (by
    have e : loops stringslite_CutPrefix_c = [] := by kernel_rfl
    rw [e]
    intro a ha
    cases ha)) (fun x => enc_closed x (by kernel_rfl)) (by kernel_rfl) (by kernel_rfl) stringslite_CutPrefix_h


/-- strings.CutPrefix. -/
noncomputable def strings_CutPrefix (x : ByteArray × ByteArray) : Option (ByteArray × Bool) :=
  bindK (stringslite_CutPrefix x) fun r1001 =>
  some r1001

noncomputable def strings_CutPrefix_sp : FSpec := ⟨59, (.pair .str .str), (.tup (.pair .str .bool)), strings_CutPrefix⟩
noncomputable def strings_CutPrefix_lo : List FSpec := [stringslite_CutPrefix_sp]
noncomputable def strings_CutPrefix_ll : List LEnt := []
theorem strings_CutPrefix_ook : OOK Tryd.prog tG (otab strings_CutPrefix_lo) := ook_of (l := strings_CutPrefix_lo) (by
    intro sp hsp
    simp only [strings_CutPrefix_lo, List.mem_cons, List.not_mem_nil, or_false] at hsp
    rcases hsp with rfl
    · exact stringslite_CutPrefix_ok)
noncomputable def strings_CutPrefix_c : Code := (Tryd.f59.body).getD .skip
theorem strings_CutPrefix_h (x : strings_CutPrefix_sp.arg.den) : strings_CutPrefix_sp.f x = bodyF tT (otab strings_CutPrefix_lo) noX (itab tT []) (ltab strings_CutPrefix_ll) Tryd.f59 strings_CutPrefix_sp.arg strings_CutPrefix_sp.res x := by
  rw [bodyF_eq]
  kernel_rfl
theorem strings_CutPrefix_ok : SpecOK Tryd.prog tG strings_CutPrefix_sp :=
  spec_of_body (c := strings_CutPrefix_c) tT_ok strings_CutPrefix_ook (iok_of tT_ok tP_mixed (l := []) (fun _ h => nomatch h)) tP_mixed (fn := Tryd.f59) Tryd.func59 (by kernel_rfl) (by kernel_rfl) (loopsOK_of (by
    have e : loops strings_CutPrefix_c = [] := by kernel_rfl
    rw [e]
    intro a ha
    cases ha)) (fun x => enc_closed x (by kernel_rfl)) (by kernel_rfl) (by kernel_rfl) strings_CutPrefix_h


/-- stockyard/path.allowed. -/
noncomputable def path_allowed (x : Int) : Option Bool :=
  brK (decide ((x : Int) ≥ 65))
  (brK (decide ((x : Int) ≤ 90))
  (some true)
  (brK (decide ((x : Int) ≥ 97))
  (brK (decide ((x : Int) ≤ 122))
  (some true)
  (brK (decide ((x : Int) ≥ 48))
  (brK (decide ((x : Int) ≤ 57))
  (some true)
  (brK (decide ((x : Int) = 95))
  (some true)
  (brK (decide ((x : Int) = 46))
  (some true)
  (brK (decide ((x : Int) = 43))
  (some true)
  (some (decide ((x : Int) = 45)))))))
  (brK (decide ((x : Int) = 95))
  (some true)
  (brK (decide ((x : Int) = 46))
  (some true)
  (brK (decide ((x : Int) = 43))
  (some true)
  (some (decide ((x : Int) = 45))))))))
  (brK (decide ((x : Int) ≥ 48))
  (brK (decide ((x : Int) ≤ 57))
  (some true)
  (brK (decide ((x : Int) = 95))
  (some true)
  (brK (decide ((x : Int) = 46))
  (some true)
  (brK (decide ((x : Int) = 43))
  (some true)
  (some (decide ((x : Int) = 45)))))))
  (brK (decide ((x : Int) = 95))
  (some true)
  (brK (decide ((x : Int) = 46))
  (some true)
  (brK (decide ((x : Int) = 43))
  (some true)
  (some (decide ((x : Int) = 45)))))))))
  (brK (decide ((x : Int) ≥ 97))
  (brK (decide ((x : Int) ≤ 122))
  (some true)
  (brK (decide ((x : Int) ≥ 48))
  (brK (decide ((x : Int) ≤ 57))
  (some true)
  (brK (decide ((x : Int) = 95))
  (some true)
  (brK (decide ((x : Int) = 46))
  (some true)
  (brK (decide ((x : Int) = 43))
  (some true)
  (some (decide ((x : Int) = 45)))))))
  (brK (decide ((x : Int) = 95))
  (some true)
  (brK (decide ((x : Int) = 46))
  (some true)
  (brK (decide ((x : Int) = 43))
  (some true)
  (some (decide ((x : Int) = 45))))))))
  (brK (decide ((x : Int) ≥ 48))
  (brK (decide ((x : Int) ≤ 57))
  (some true)
  (brK (decide ((x : Int) = 95))
  (some true)
  (brK (decide ((x : Int) = 46))
  (some true)
  (brK (decide ((x : Int) = 43))
  (some true)
  (some (decide ((x : Int) = 45)))))))
  (brK (decide ((x : Int) = 95))
  (some true)
  (brK (decide ((x : Int) = 46))
  (some true)
  (brK (decide ((x : Int) = 43))
  (some true)
  (some (decide ((x : Int) = 45))))))))

noncomputable def path_allowed_sp : FSpec := ⟨84, (.int .u8), .bool, path_allowed⟩
noncomputable def path_allowed_lo : List FSpec := []
noncomputable def path_allowed_ll : List LEnt := []
theorem path_allowed_ook : OOK Tryd.prog tG (otab path_allowed_lo) := ook_of (l := path_allowed_lo) (by intro sp hsp; cases hsp)
noncomputable def path_allowed_c : Code := (Tryd.f84.body).getD .skip
theorem path_allowed_h (x : path_allowed_sp.arg.den) : path_allowed_sp.f x = bodyF tT (otab path_allowed_lo) noX (itab tT []) (ltab path_allowed_ll) Tryd.f84 path_allowed_sp.arg path_allowed_sp.res x := by
  rw [bodyF_eq]
  kernel_rfl
theorem path_allowed_ok : SpecOK Tryd.prog tG path_allowed_sp :=
  spec_of_body (c := path_allowed_c) tT_ok path_allowed_ook (iok_of tT_ok tP_mixed (l := []) (fun _ h => nomatch h)) tP_mixed (fn := Tryd.f84) Tryd.func84 (by kernel_rfl) (by kernel_rfl) (loopsOK_of (by
    have e : loops path_allowed_c = [] := by kernel_rfl
    rw [e]
    intro a ha
    cases ha)) (fun x => enc_closed x (by kernel_rfl)) (by kernel_rfl) (by kernel_rfl) path_allowed_h

/-- A round of the loop 4 of stockyard/path.Component. -/
noncomputable def path_Component_L4_B (rec : (ByteArray × Int × Int) → Option (Unit ⊕ (Bool ⊕ Empty))) (st : ByteArray × Int × Int) : Option (Unit ⊕ (Bool ⊕ Empty)) :=
  brK (decide ((st.2.2 : Int) < st.2.1))
  (bindK (strAt st.1 st.2.2) fun c2 =>
  bindK (path_allowed c2) fun r3 =>
  brK (!r3)
  (some (.inr (.inl false)))
  (rec (st.1, st.2.1, (IntKind.wrap .i64 (st.2.2 + 1)))))
  (some (.inl ()))

noncomputable def path_Component_L4 : Nat → (ByteArray × Int × Int) → Option (Unit ⊕ (Bool ⊕ Empty))
  | 0, _ => none
  | n + 1, st => path_Component_L4_B (path_Component_L4 n) st

noncomputable def path_Component_L4_f (st : ByteArray × Int × Int) : Option (Unit ⊕ (Bool ⊕ Empty)) := path_Component_L4 (ByteArray.size st.1 + Int.natAbs st.2.1 + Int.natAbs st.2.2 + 1000) st

/-- stockyard/path.Component. -/
noncomputable def path_Component (x : ByteArray) : Option Bool :=
  brK (decide (x = (ByteArray.mk #[])))
  (some false)
  (bindK (strAt x 0) fun c1001 =>
  brK (decide ((c1001 : Int) = 46))
  (some false)
  (bindK (path_Component_L4_f (x, (x.size : Int), 0)) fun o1002 =>
  sumK o1002 (fun y1003 =>
  some true)
  (fun z1004 => sumK z1004 (fun y1005 =>
  some y1005)
  (fun z1006 => emptyK z1006))))

noncomputable def path_Component_sp : FSpec := ⟨61, .str, .bool, path_Component⟩
noncomputable def path_Component_lo : List FSpec := [path_allowed_sp]
noncomputable def path_Component_L4_e : LEnt := ⟨4, ⟨22, 0, [0, 12, 13], (.pair .str (.pair (.int .i64) (.int .i64)))⟩, [((.exit 0), ⟨22, 0, [], .nil⟩), (.ret, ⟨22, 0, [2], .bool⟩)], path_Component_L4_f⟩
noncomputable def path_Component_ll : List LEnt := [path_Component_L4_e]
theorem path_Component_ook : OOK Tryd.prog tG (otab path_Component_lo) := ook_of (l := path_Component_lo) (by
    intro sp hsp
    simp only [path_Component_lo, List.mem_cons, List.not_mem_nil, or_false] at hsp
    rcases hsp with rfl
    · exact path_allowed_ok)
noncomputable def path_Component_c : Code := (Tryd.f61.body).getD .skip
theorem path_Component_L4_B_eq (n : Nat) (st : path_Component_L4_e.head.shape.den) : path_Component_L4 (n + 1) st = aexecK tT (otabK path_Component_lo) noX (itabK tT []) (ltabK path_Component_ll) (((loops path_Component_c)[0]?).getD .skip) (path_Component_L4_e.head.enc st) (lres path_Component_L4_e.head path_Component_L4_e.exits (path_Component_L4 n)) := by kernel_rfl
theorem path_Component_L4_lok : LOK Tryd.prog tG (ltab path_Component_ll) (((loops path_Component_c)[0]?).getD .skip) :=
  lok_of tT_ok path_Component_ook (iok_of tT_ok tP_mixed (l := []) (fun _ h => nomatch h)) tP_mixed (loopsOK_of (by
    have e : loops (((loops path_Component_c)[0]?).getD .skip) = [] := by kernel_rfl
    rw [e]
    intro a ha
    cases ha)) path_Component_L4_e (F := path_Component_L4) (fun st => ByteArray.size st.1 + Int.natAbs st.2.1 + Int.natAbs st.2.2 + 1000) (fun s => by kernel_rfl) (fun st => by kernel_rfl) (fun st => by kernel_rfl) (fun n st => (path_Component_L4_B_eq n st).trans (loopF_eq tT path_Component_lo noX [] path_Component_ll (((loops path_Component_c)[0]?).getD .skip) path_Component_L4_e.head path_Component_L4_e.exits (path_Component_L4 n) st).symm)
theorem path_Component_h (x : path_Component_sp.arg.den) : path_Component_sp.f x = bodyF tT (otab path_Component_lo) noX (itab tT []) (ltab path_Component_ll) Tryd.f61 path_Component_sp.arg path_Component_sp.res x := by
  rw [bodyF_eq]
  kernel_rfl
theorem path_Component_ok : SpecOK Tryd.prog tG path_Component_sp :=
  spec_of_body (c := path_Component_c) tT_ok path_Component_ook (iok_of tT_ok tP_mixed (l := []) (fun _ h => nomatch h)) tP_mixed (fn := Tryd.f61) Tryd.func61 (by kernel_rfl) (by kernel_rfl) (loopsOK_of (by
    have e : loops path_Component_c = [((loops path_Component_c)[0]?).getD .skip] := by kernel_rfl
    rw [e]
    intro a ha
    simp only [List.mem_cons, List.not_mem_nil, or_false] at ha
    rcases ha with rfl
    · exact path_Component_L4_lok)) (fun x => enc_closed x (by kernel_rfl)) (by kernel_rfl) (by kernel_rfl) path_Component_h


/-- stockyard/pattern.formOf. -/
noncomputable def pattern_formOf (x : ByteArray) : Option (Int × ByteArray) :=
  bindK (strings_CutPrefix (x, (ByteArray.mk #[42]))) fun r1001 =>
  brK r1001.2
  (brK (decide (ByteArray.size (ByteArray.mk #[97]) + ByteArray.size r1001.1 ≤ 140737488355328))
  (bindK (path_Component ((ByteArray.mk #[97]) ++ r1001.1)) fun r1002 =>
  brK r1002
  (some (2, r1001.1))
  (some (0, (ByteArray.mk #[]))))
  (none))
  (bindK (path_Component x) fun r1003 =>
  brK r1003
  (some (1, (ByteArray.mk #[])))
  (some (0, (ByteArray.mk #[]))))

noncomputable def pattern_formOf_sp : FSpec := ⟨63, .str, (.tup (.pair (.int .i64) .str)), pattern_formOf⟩
noncomputable def pattern_formOf_lo : List FSpec := [strings_CutPrefix_sp, path_Component_sp]
noncomputable def pattern_formOf_ll : List LEnt := []
theorem pattern_formOf_ook : OOK Tryd.prog tG (otab pattern_formOf_lo) := ook_of (l := pattern_formOf_lo) (by
    intro sp hsp
    simp only [pattern_formOf_lo, List.mem_cons, List.not_mem_nil, or_false] at hsp
    rcases hsp with rfl | rfl
    · exact strings_CutPrefix_ok
    · exact path_Component_ok)
noncomputable def pattern_formOf_c : Code := (Tryd.f63.body).getD .skip
theorem pattern_formOf_h (x : pattern_formOf_sp.arg.den) : pattern_formOf_sp.f x = bodyF tT (otab pattern_formOf_lo) noX (itab tT []) (ltab pattern_formOf_ll) Tryd.f63 pattern_formOf_sp.arg pattern_formOf_sp.res x := by
  rw [bodyF_eq]
  kernel_rfl
theorem pattern_formOf_ok : SpecOK Tryd.prog tG pattern_formOf_sp :=
  spec_of_body (c := pattern_formOf_c) tT_ok pattern_formOf_ook (iok_of tT_ok tP_mixed (l := []) (fun _ h => nomatch h)) tP_mixed (fn := Tryd.f63) Tryd.func63 (by kernel_rfl) (by kernel_rfl) (loopsOK_of (by
    have e : loops pattern_formOf_c = [] := by kernel_rfl
    rw [e]
    intro a ha
    cases ha)) (fun x => enc_closed x (by kernel_rfl)) (by kernel_rfl) (by kernel_rfl) pattern_formOf_h

/-- A round of the loop 4 of stockyard/pattern.shape. -/
noncomputable def pattern_shape_L4_B (rec : ((List ByteArray) × Int × Int) → Option (Unit ⊕ (Bool ⊕ Empty))) (st : (List ByteArray) × Int × Int) : Option (Unit ⊕ (Bool ⊕ Empty)) :=
  brK (decide ((st.2.2 : Int) < st.2.1))
  (bindK (listAt st.1 st.2.2) fun e1 =>
  bindK (pattern_formOf e1) fun r2 =>
  brK (decide ((r2.1 : Int) = 0))
  (some (.inr (.inl false)))
  (brK (decide ((st.2.2 : Int) = 0))
  (brK (decide ((r2.1 : Int) ≠ 1))
  (some (.inr (.inl false)))
  (rec (st.1, st.2.1, (IntKind.wrap .i64 (st.2.2 + 1)))))
  (rec (st.1, st.2.1, (IntKind.wrap .i64 (st.2.2 + 1))))))
  (some (.inl ()))

noncomputable def pattern_shape_L4 : Nat → ((List ByteArray) × Int × Int) → Option (Unit ⊕ (Bool ⊕ Empty))
  | 0, _ => none
  | n + 1, st => pattern_shape_L4_B (pattern_shape_L4 n) st

noncomputable def pattern_shape_L4_f (st : (List ByteArray) × Int × Int) : Option (Unit ⊕ (Bool ⊕ Empty)) := pattern_shape_L4 (List.length st.1 + Int.natAbs st.2.1 + Int.natAbs st.2.2 + 1000) st

/-- stockyard/pattern.shape. -/
noncomputable def pattern_shape (x : Pat) : Option Bool :=
  brK (decide (((x.1.length : Int) : Int) = 0))
  (some false)
  (brK (decide (((x.1.length : Int) : Int) = 1))
  (brK (!x.2)
  (some false)
  (bindK (pattern_shape_L4_f (x.1, (x.1.length : Int), 0)) fun o1001 =>
  sumK o1001 (fun y1002 =>
  some true)
  (fun z1003 => sumK z1003 (fun y1004 =>
  some y1004)
  (fun z1005 => emptyK z1005))))
  (bindK (pattern_shape_L4_f (x.1, (x.1.length : Int), 0)) fun o1006 =>
  sumK o1006 (fun y1007 =>
  some true)
  (fun z1008 => sumK z1008 (fun y1009 =>
  some y1009)
  (fun z1010 => emptyK z1010))))

noncomputable def pattern_shape_sp : FSpec := ⟨49, (.agg (.prod (.list .str) .bool)), .bool, pattern_shape⟩
noncomputable def pattern_shape_lo : List FSpec := [pattern_formOf_sp]
noncomputable def pattern_shape_L4_e : LEnt := ⟨4, ⟨46, 0, [23, 24, 25], (.pair (.list .str) (.pair (.int .i64) (.int .i64)))⟩, [((.exit 0), ⟨46, 0, [], .nil⟩), (.ret, ⟨46, 0, [2], .bool⟩)], pattern_shape_L4_f⟩
noncomputable def pattern_shape_ll : List LEnt := [pattern_shape_L4_e]
theorem pattern_shape_ook : OOK Tryd.prog tG (otab pattern_shape_lo) := ook_of (l := pattern_shape_lo) (by
    intro sp hsp
    simp only [pattern_shape_lo, List.mem_cons, List.not_mem_nil, or_false] at hsp
    rcases hsp with rfl
    · exact pattern_formOf_ok)
noncomputable def pattern_shape_c : Code := (Tryd.f49.body).getD .skip
theorem pattern_shape_L4_B_eq (n : Nat) (st : pattern_shape_L4_e.head.shape.den) : pattern_shape_L4 (n + 1) st = aexecK tT (otabK pattern_shape_lo) noX (itabK tT []) (ltabK pattern_shape_ll) (((loops pattern_shape_c)[0]?).getD .skip) (pattern_shape_L4_e.head.enc st) (lres pattern_shape_L4_e.head pattern_shape_L4_e.exits (pattern_shape_L4 n)) := by kernel_rfl
theorem pattern_shape_L4_lok : LOK Tryd.prog tG (ltab pattern_shape_ll) (((loops pattern_shape_c)[0]?).getD .skip) :=
  lok_of tT_ok pattern_shape_ook (iok_of tT_ok tP_mixed (l := []) (fun _ h => nomatch h)) tP_mixed (loopsOK_of (by
    have e : loops (((loops pattern_shape_c)[0]?).getD .skip) = [] := by kernel_rfl
    rw [e]
    intro a ha
    cases ha)) pattern_shape_L4_e (F := pattern_shape_L4) (fun st => List.length st.1 + Int.natAbs st.2.1 + Int.natAbs st.2.2 + 1000) (fun s => by kernel_rfl) (fun st => by kernel_rfl) (fun st => by kernel_rfl) (fun n st => (pattern_shape_L4_B_eq n st).trans (loopF_eq tT pattern_shape_lo noX [] pattern_shape_ll (((loops pattern_shape_c)[0]?).getD .skip) pattern_shape_L4_e.head pattern_shape_L4_e.exits (pattern_shape_L4 n) st).symm)
theorem pattern_shape_h (x : pattern_shape_sp.arg.den) : pattern_shape_sp.f x = bodyF tT (otab pattern_shape_lo) noX (itab tT []) (ltab pattern_shape_ll) Tryd.f49 pattern_shape_sp.arg pattern_shape_sp.res x := by
  rw [bodyF_eq]
  kernel_rfl
theorem pattern_shape_ok : SpecOK Tryd.prog tG pattern_shape_sp :=
  spec_of_body (c := pattern_shape_c) tT_ok pattern_shape_ook (iok_of tT_ok tP_mixed (l := []) (fun _ h => nomatch h)) tP_mixed (fn := Tryd.f49) Tryd.func49 (by kernel_rfl) (by kernel_rfl) (loopsOK_of (by
    have e : loops pattern_shape_c = [((loops pattern_shape_c)[0]?).getD .skip] := by kernel_rfl
    rw [e]
    intro a ha
    simp only [List.mem_cons, List.not_mem_nil, or_false] at ha
    rcases ha with rfl
    · exact pattern_shape_L4_lok)) (fun x => enc_closed x (by kernel_rfl)) (by kernel_rfl) (by kernel_rfl) pattern_shape_h


/-- stockyard/pattern.Check. -/
noncomputable def pattern_Check (x : Pat) : Option Int :=
  bindK (pattern_shape x) fun r1001 =>
  brK (!r1001)
  (some 30)
  (brK (decide (((x.1.length : Int) : Int) > 12))
  (some 31)
  (some 0))

noncomputable def pattern_Check_sp : FSpec := ⟨25, (.agg (.prod (.list .str) .bool)), (.int .i64), pattern_Check⟩
noncomputable def pattern_Check_lo : List FSpec := [pattern_shape_sp]
noncomputable def pattern_Check_ll : List LEnt := []
theorem pattern_Check_ook : OOK Tryd.prog tG (otab pattern_Check_lo) := ook_of (l := pattern_Check_lo) (by
    intro sp hsp
    simp only [pattern_Check_lo, List.mem_cons, List.not_mem_nil, or_false] at hsp
    rcases hsp with rfl
    · exact pattern_shape_ok)
noncomputable def pattern_Check_c : Code := (Tryd.f25.body).getD .skip
theorem pattern_Check_h (x : pattern_Check_sp.arg.den) : pattern_Check_sp.f x = bodyF tT (otab pattern_Check_lo) noX (itab tT []) (ltab pattern_Check_ll) Tryd.f25 pattern_Check_sp.arg pattern_Check_sp.res x := by
  rw [bodyF_eq]
  kernel_rfl
theorem pattern_Check_ok : SpecOK Tryd.prog tG pattern_Check_sp :=
  spec_of_body (c := pattern_Check_c) tT_ok pattern_Check_ook (iok_of tT_ok tP_mixed (l := []) (fun _ h => nomatch h)) tP_mixed (fn := Tryd.f25) Tryd.func25 (by kernel_rfl) (by kernel_rfl) (loopsOK_of (by
    have e : loops pattern_Check_c = [] := by kernel_rfl
    rw [e]
    intro a ha
    cases ha)) (fun x => enc_closed x (by kernel_rfl)) (by kernel_rfl) (by kernel_rfl) pattern_Check_h

/-- A round of the loop 4 of stockyard/region.Check. -/
noncomputable def region_Check_L4_B (rec : (((List ByteArray) × Bool × List Pat) × (List Pat) × Int × Int) → Option (((List ByteArray) × Bool × List Pat) ⊕ (Int ⊕ Empty))) (st : ((List ByteArray) × Bool × List Pat) × (List Pat) × Int × Int) : Option (((List ByteArray) × Bool × List Pat) ⊕ (Int ⊕ Empty)) :=
  brK (decide ((st.2.2.2 : Int) < st.2.2.1))
  (bindK (listAt st.2.1 st.2.2.2) fun e2 =>
  bindK (pattern_Check e2) fun r3 =>
  brK (decide ((r3 : Int) ≠ 0))
  (some (.inr (.inl 51)))
  (rec (st.1, st.2.1, st.2.2.1, (IntKind.wrap .i64 (st.2.2.2 + 1)))))
  (some (.inl st.1))

noncomputable def region_Check_L4 : Nat → (((List ByteArray) × Bool × List Pat) × (List Pat) × Int × Int) → Option (((List ByteArray) × Bool × List Pat) ⊕ (Int ⊕ Empty))
  | 0, _ => none
  | n + 1, st => region_Check_L4_B (region_Check_L4 n) st

noncomputable def region_Check_L4_f (st : ((List ByteArray) × Bool × List Pat) × (List Pat) × Int × Int) : Option (((List ByteArray) × Bool × List Pat) ⊕ (Int ⊕ Empty)) := region_Check_L4 (List.length st.1.1 + List.length st.1.2.2 + List.length st.2.1 + Int.natAbs st.2.2.1 + Int.natAbs st.2.2.2 + 1000) st

/-- stockyard/region.Check. -/
noncomputable def region_Check (x : Reg) : Option Int :=
  bindK (pattern_Check x.1) fun r1001 =>
  brK (decide ((r1001 : Int) ≠ 0))
  (some 50)
  (bindK (region_Check_L4_f ((x.1.1, x.1.2, x.2), x.2, (x.2.length : Int), 0)) fun o1002 =>
  sumK o1002 (fun y1003 =>
  brK (decide (((y1003.2.2.length : Int) : Int) > 64))
  (some 52)
  (some 0))
  (fun z1004 => sumK z1004 (fun y1005 =>
  some y1005)
  (fun z1006 => emptyK z1006)))

noncomputable def region_Check_sp : FSpec := ⟨11, (.agg (.prod (.prod (.list .str) .bool) (.list (.prod (.list .str) .bool)))), (.int .i64), region_Check⟩
noncomputable def region_Check_lo : List FSpec := [pattern_Check_sp]
noncomputable def region_Check_L4_e : LEnt := ⟨4, ⟨24, 1, [1, 10, 11, 12], (.pair (.box 0 (.pair (.list .str) (.pair .bool (.list (.prod (.list .str) .bool))))) (.pair (.list (.prod (.list .str) .bool)) (.pair (.int .i64) (.int .i64))))⟩, [((.exit 0), ⟨24, 1, [1], (.box 0 (.pair (.list .str) (.pair .bool (.list (.prod (.list .str) .bool)))))⟩), (.ret, ⟨24, 0, [2], (.int .i64)⟩)], region_Check_L4_f⟩
noncomputable def region_Check_ll : List LEnt := [region_Check_L4_e]
theorem region_Check_ook : OOK Tryd.prog tG (otab region_Check_lo) := ook_of (l := region_Check_lo) (by
    intro sp hsp
    simp only [region_Check_lo, List.mem_cons, List.not_mem_nil, or_false] at hsp
    rcases hsp with rfl
    · exact pattern_Check_ok)
noncomputable def region_Check_c : Code := (Tryd.f11.body).getD .skip
theorem region_Check_L4_B_eq (n : Nat) (st : region_Check_L4_e.head.shape.den) : region_Check_L4 (n + 1) st = aexecK tT (otabK region_Check_lo) noX (itabK tT []) (ltabK region_Check_ll) (((loops region_Check_c)[0]?).getD .skip) (region_Check_L4_e.head.enc st) (lres region_Check_L4_e.head region_Check_L4_e.exits (region_Check_L4 n)) := by kernel_rfl
theorem region_Check_L4_lok : LOK Tryd.prog tG (ltab region_Check_ll) (((loops region_Check_c)[0]?).getD .skip) :=
  lok_of tT_ok region_Check_ook (iok_of tT_ok tP_mixed (l := []) (fun _ h => nomatch h)) tP_mixed (loopsOK_of (by
    have e : loops (((loops region_Check_c)[0]?).getD .skip) = [] := by kernel_rfl
    rw [e]
    intro a ha
    cases ha)) region_Check_L4_e (F := region_Check_L4) (fun st => List.length st.1.1 + List.length st.1.2.2 + List.length st.2.1 + Int.natAbs st.2.2.1 + Int.natAbs st.2.2.2 + 1000) (fun s => by kernel_rfl) (fun st => by kernel_rfl) (fun st => by kernel_rfl) (fun n st => (region_Check_L4_B_eq n st).trans (loopF_eq tT region_Check_lo noX [] region_Check_ll (((loops region_Check_c)[0]?).getD .skip) region_Check_L4_e.head region_Check_L4_e.exits (region_Check_L4 n) st).symm)
theorem region_Check_h (x : region_Check_sp.arg.den) : region_Check_sp.f x = bodyF tT (otab region_Check_lo) noX (itab tT []) (ltab region_Check_ll) Tryd.f11 region_Check_sp.arg region_Check_sp.res x := by
  rw [bodyF_eq]
  kernel_rfl
theorem region_Check_ok : SpecOK Tryd.prog tG region_Check_sp :=
  spec_of_body (c := region_Check_c) tT_ok region_Check_ook (iok_of tT_ok tP_mixed (l := []) (fun _ h => nomatch h)) tP_mixed (fn := Tryd.f11) Tryd.func11 (by kernel_rfl) (by kernel_rfl) (loopsOK_of (by
    have e : loops region_Check_c = [((loops region_Check_c)[0]?).getD .skip] := by kernel_rfl
    rw [e]
    intro a ha
    simp only [List.mem_cons, List.not_mem_nil, or_false] at ha
    rcases ha with rfl
    · exact region_Check_L4_lok)) (fun x => enc_closed x (by kernel_rfl)) (by kernel_rfl) (by kernel_rfl) region_Check_h


/-- stockyard/holes.Long. -/
noncomputable def holes_Long (x : Pat × Int) : Option Bool :=
  brK (decide ((x.2 : Int) = (x.1.1.length : Int)))
  (brK (!x.1.2)
  (some true)
  (brK (decide ((x.2 : Int) > (x.1.1.length : Int)))
  (some x.1.2)
  (some false)))
  (brK (decide ((x.2 : Int) > (x.1.1.length : Int)))
  (some x.1.2)
  (some false))

noncomputable def holes_Long_sp : FSpec := ⟨31, (.pair (.agg (.prod (.list .str) .bool)) (.int .i64)), .bool, holes_Long⟩
noncomputable def holes_Long_lo : List FSpec := []
noncomputable def holes_Long_ll : List LEnt := []
theorem holes_Long_ook : OOK Tryd.prog tG (otab holes_Long_lo) := ook_of (l := holes_Long_lo) (by intro sp hsp; cases hsp)
noncomputable def holes_Long_c : Code := (Tryd.f31.body).getD .skip
theorem holes_Long_h (x : holes_Long_sp.arg.den) : holes_Long_sp.f x = bodyF tT (otab holes_Long_lo) noX (itab tT []) (ltab holes_Long_ll) Tryd.f31 holes_Long_sp.arg holes_Long_sp.res x := by
  rw [bodyF_eq]
  kernel_rfl
theorem holes_Long_ok : SpecOK Tryd.prog tG holes_Long_sp :=
  spec_of_body (c := holes_Long_c) tT_ok holes_Long_ook (iok_of tT_ok tP_mixed (l := []) (fun _ h => nomatch h)) tP_mixed (fn := Tryd.f31) Tryd.func31 (by kernel_rfl) (by kernel_rfl) (loopsOK_of (by
    have e : loops holes_Long_c = [] := by kernel_rfl
    rw [e]
    intro a ha
    cases ha)) (fun x => enc_closed x (by kernel_rfl)) (by kernel_rfl) (by kernel_rfl) holes_Long_h


/-- stockyard/holes.Part. -/
noncomputable def holes_Part (x : Pat × Int) : Option ByteArray :=
  brK (decide ((x.2 : Int) < (x.1.1.length : Int)))
  (bindK (listAt x.1.1 x.2) fun e1001 =>
  some e1001)
  (some (ByteArray.mk #[42]))

noncomputable def holes_Part_sp : FSpec := ⟨34, (.pair (.agg (.prod (.list .str) .bool)) (.int .i64)), .str, holes_Part⟩
noncomputable def holes_Part_lo : List FSpec := []
noncomputable def holes_Part_ll : List LEnt := []
theorem holes_Part_ook : OOK Tryd.prog tG (otab holes_Part_lo) := ook_of (l := holes_Part_lo) (by intro sp hsp; cases hsp)
noncomputable def holes_Part_c : Code := (Tryd.f34.body).getD .skip
theorem holes_Part_h (x : holes_Part_sp.arg.den) : holes_Part_sp.f x = bodyF tT (otab holes_Part_lo) noX (itab tT []) (ltab holes_Part_ll) Tryd.f34 holes_Part_sp.arg holes_Part_sp.res x := by
  rw [bodyF_eq]
  kernel_rfl
theorem holes_Part_ok : SpecOK Tryd.prog tG holes_Part_sp :=
  spec_of_body (c := holes_Part_c) tT_ok holes_Part_ook (iok_of tT_ok tP_mixed (l := []) (fun _ h => nomatch h)) tP_mixed (fn := Tryd.f34) Tryd.func34 (by kernel_rfl) (by kernel_rfl) (loopsOK_of (by
    have e : loops holes_Part_c = [] := by kernel_rfl
    rw [e]
    intro a ha
    cases ha)) (fun x => enc_closed x (by kernel_rfl)) (by kernel_rfl) (by kernel_rfl) holes_Part_h


/-- internal/stringslite.HasSuffix. -/
noncomputable def stringslite_HasSuffix (x : ByteArray × ByteArray) : Option Bool :=
  brK (decide (((x.1.size : Int) : Int) ≥ (x.2.size : Int)))
  (brK (decide (0 ≤ ((IntKind.wrap .i64 ((x.1.size : Int) - (x.2.size : Int))) : Int) ∧ ((IntKind.wrap .i64 ((x.1.size : Int) - (x.2.size : Int))) : Int) ≤ (x.1.size : Int) ∧ (x.1.size : Int) ≤ (x.1.size : Int)))
  (some (decide ((ByteArray.extract x.1 (Int.toNat (IntKind.wrap .i64 ((x.1.size : Int) - (x.2.size : Int)))) (Int.toNat (x.1.size : Int))) = x.2)))
  (none))
  (some false)

noncomputable def stringslite_HasSuffix_sp : FSpec := ⟨79, (.pair .str .str), .bool, stringslite_HasSuffix⟩
noncomputable def stringslite_HasSuffix_lo : List FSpec := []
noncomputable def stringslite_HasSuffix_ll : List LEnt := []
theorem stringslite_HasSuffix_ook : OOK Tryd.prog tG (otab stringslite_HasSuffix_lo) := ook_of (l := stringslite_HasSuffix_lo) (by intro sp hsp; cases hsp)
noncomputable def stringslite_HasSuffix_c : Code := (Tryd.f79.body).getD .skip
theorem stringslite_HasSuffix_h (x : stringslite_HasSuffix_sp.arg.den) : stringslite_HasSuffix_sp.f x = bodyF tT (otab stringslite_HasSuffix_lo) noX (itab tT []) (ltab stringslite_HasSuffix_ll) Tryd.f79 stringslite_HasSuffix_sp.arg stringslite_HasSuffix_sp.res x := by
  rw [bodyF_eq]
  kernel_rfl
theorem stringslite_HasSuffix_ok : SpecOK Tryd.prog tG stringslite_HasSuffix_sp :=
  spec_of_body (c := stringslite_HasSuffix_c) tT_ok stringslite_HasSuffix_ook (iok_of tT_ok tP_mixed (l := []) (fun _ h => nomatch h)) tP_mixed (fn := Tryd.f79) Tryd.func79 (by kernel_rfl) (by kernel_rfl) (loopsOK_of (by
    have e : loops stringslite_HasSuffix_c = [] := by kernel_rfl
    rw [e]
    intro a ha
    cases ha)) (fun x => enc_closed x (by kernel_rfl)) (by kernel_rfl) (by kernel_rfl) stringslite_HasSuffix_h


/-- strings.HasSuffix. -/
noncomputable def strings_HasSuffix (x : ByteArray × ByteArray) : Option Bool :=
  bindK (stringslite_HasSuffix x) fun r1001 =>
  some r1001

noncomputable def strings_HasSuffix_sp : FSpec := ⟨51, (.pair .str .str), .bool, strings_HasSuffix⟩
noncomputable def strings_HasSuffix_lo : List FSpec := [stringslite_HasSuffix_sp]
noncomputable def strings_HasSuffix_ll : List LEnt := []
theorem strings_HasSuffix_ook : OOK Tryd.prog tG (otab strings_HasSuffix_lo) := ook_of (l := strings_HasSuffix_lo) (by
    intro sp hsp
    simp only [strings_HasSuffix_lo, List.mem_cons, List.not_mem_nil, or_false] at hsp
    rcases hsp with rfl
    · exact stringslite_HasSuffix_ok)
noncomputable def strings_HasSuffix_c : Code := (Tryd.f51.body).getD .skip
theorem strings_HasSuffix_h (x : strings_HasSuffix_sp.arg.den) : strings_HasSuffix_sp.f x = bodyF tT (otab strings_HasSuffix_lo) noX (itab tT []) (ltab strings_HasSuffix_ll) Tryd.f51 strings_HasSuffix_sp.arg strings_HasSuffix_sp.res x := by
  rw [bodyF_eq]
  kernel_rfl
theorem strings_HasSuffix_ok : SpecOK Tryd.prog tG strings_HasSuffix_sp :=
  spec_of_body (c := strings_HasSuffix_c) tT_ok strings_HasSuffix_ook (iok_of tT_ok tP_mixed (l := []) (fun _ h => nomatch h)) tP_mixed (fn := Tryd.f51) Tryd.func51 (by kernel_rfl) (by kernel_rfl) (loopsOK_of (by
    have e : loops strings_HasSuffix_c = [] := by kernel_rfl
    rw [e]
    intro a ha
    cases ha)) (fun x => enc_closed x (by kernel_rfl)) (by kernel_rfl) (by kernel_rfl) strings_HasSuffix_h


/-- stockyard/pattern.capture. -/
noncomputable def pattern_capture (x : ByteArray × ByteArray) : Option (ByteArray × Bool) :=
  brK (decide (((x.1.size : Int) : Int) > (x.2.size : Int)))
  (bindK (strings_HasSuffix x) fun r1001 =>
  brK r1001
  (brK (decide (0 ≤ (0 : Int) ∧ (0 : Int) ≤ (IntKind.wrap .i64 ((x.1.size : Int) - (x.2.size : Int))) ∧ (IntKind.wrap .i64 ((x.1.size : Int) - (x.2.size : Int))) ≤ (x.1.size : Int)))
  (some ((ByteArray.extract x.1 (Int.toNat 0) (Int.toNat (IntKind.wrap .i64 ((x.1.size : Int) - (x.2.size : Int))))), true))
  (none))
  (some ((ByteArray.mk #[]), false)))
  (some ((ByteArray.mk #[]), false))

noncomputable def pattern_capture_sp : FSpec := ⟨64, (.pair .str .str), (.tup (.pair .str .bool)), pattern_capture⟩
noncomputable def pattern_capture_lo : List FSpec := [strings_HasSuffix_sp]
noncomputable def pattern_capture_ll : List LEnt := []
theorem pattern_capture_ook : OOK Tryd.prog tG (otab pattern_capture_lo) := ook_of (l := pattern_capture_lo) (by
    intro sp hsp
    simp only [pattern_capture_lo, List.mem_cons, List.not_mem_nil, or_false] at hsp
    rcases hsp with rfl
    · exact strings_HasSuffix_ok)
noncomputable def pattern_capture_c : Code := (Tryd.f64.body).getD .skip
theorem pattern_capture_h (x : pattern_capture_sp.arg.den) : pattern_capture_sp.f x = bodyF tT (otab pattern_capture_lo) noX (itab tT []) (ltab pattern_capture_ll) Tryd.f64 pattern_capture_sp.arg pattern_capture_sp.res x := by
  rw [bodyF_eq]
  kernel_rfl
theorem pattern_capture_ok : SpecOK Tryd.prog tG pattern_capture_sp :=
  spec_of_body (c := pattern_capture_c) tT_ok pattern_capture_ook (iok_of tT_ok tP_mixed (l := []) (fun _ h => nomatch h)) tP_mixed (fn := Tryd.f64) Tryd.func64 (by kernel_rfl) (by kernel_rfl) (loopsOK_of (by
    have e : loops pattern_capture_c = [] := by kernel_rfl
    rw [e]
    intro a ha
    cases ha)) (fun x => enc_closed x (by kernel_rfl)) (by kernel_rfl) (by kernel_rfl) pattern_capture_h


/-- stockyard/pattern.narrower. -/
noncomputable def pattern_narrower (x : ByteArray × ByteArray) : Option (ByteArray × Bool) :=
  bindK (pattern_formOf x.1) fun r1001 =>
  bindK (pattern_formOf x.2) fun r1002 =>
  brK (decide ((r1001.1 : Int) = 1))
  (brK (decide ((r1002.1 : Int) = 1))
  (some (x.1, (decide (x.1 = x.2))))
  (brK (decide ((r1001.1 : Int) = 1))
  (bindK (pattern_capture (x.1, r1002.2)) fun r1003 =>
  some (x.1, r1003.2))
  (brK (decide ((r1002.1 : Int) = 1))
  (bindK (pattern_capture (x.2, r1001.2)) fun r1004 =>
  some (x.2, r1004.2))
  (bindK (strings_HasSuffix (r1001.2, r1002.2)) fun r1005 =>
  brK r1005
  (some (x.1, true))
  (bindK (strings_HasSuffix (r1002.2, r1001.2)) fun r1006 =>
  some (x.2, r1006))))))
  (brK (decide ((r1001.1 : Int) = 1))
  (bindK (pattern_capture (x.1, r1002.2)) fun r1007 =>
  some (x.1, r1007.2))
  (brK (decide ((r1002.1 : Int) = 1))
  (bindK (pattern_capture (x.2, r1001.2)) fun r1008 =>
  some (x.2, r1008.2))
  (bindK (strings_HasSuffix (r1001.2, r1002.2)) fun r1009 =>
  brK r1009
  (some (x.1, true))
  (bindK (strings_HasSuffix (r1002.2, r1001.2)) fun r1010 =>
  some (x.2, r1010)))))

noncomputable def pattern_narrower_sp : FSpec := ⟨75, (.pair .str .str), (.tup (.pair .str .bool)), pattern_narrower⟩
noncomputable def pattern_narrower_lo : List FSpec := [pattern_formOf_sp, pattern_capture_sp, strings_HasSuffix_sp]
noncomputable def pattern_narrower_ll : List LEnt := []
theorem pattern_narrower_ook : OOK Tryd.prog tG (otab pattern_narrower_lo) := ook_of (l := pattern_narrower_lo) (by
    intro sp hsp
    simp only [pattern_narrower_lo, List.mem_cons, List.not_mem_nil, or_false] at hsp
    rcases hsp with rfl | rfl | rfl
    · exact pattern_formOf_ok
    · exact pattern_capture_ok
    · exact strings_HasSuffix_ok)
noncomputable def pattern_narrower_c : Code := (Tryd.f75.body).getD .skip
theorem pattern_narrower_h (x : pattern_narrower_sp.arg.den) : pattern_narrower_sp.f x = bodyF tT (otab pattern_narrower_lo) noX (itab tT []) (ltab pattern_narrower_ll) Tryd.f75 pattern_narrower_sp.arg pattern_narrower_sp.res x := by
  rw [bodyF_eq]
  kernel_rfl
theorem pattern_narrower_ok : SpecOK Tryd.prog tG pattern_narrower_sp :=
  spec_of_body (c := pattern_narrower_c) tT_ok pattern_narrower_ook (iok_of tT_ok tP_mixed (l := []) (fun _ h => nomatch h)) tP_mixed (fn := Tryd.f75) Tryd.func75 (by kernel_rfl) (by kernel_rfl) (loopsOK_of (by
    have e : loops pattern_narrower_c = [] := by kernel_rfl
    rw [e]
    intro a ha
    cases ha)) (fun x => enc_closed x (by kernel_rfl)) (by kernel_rfl) (by kernel_rfl) pattern_narrower_h

/-- A round of the loop 12 of stockyard/pattern.Meet. -/
noncomputable def pattern_Meet_L12_B (rec : (((List ByteArray) × Bool) × ((List ByteArray) × Bool) × Int × (List ByteArray) × (List ByteArray) × Int × Int) → Option ((((List ByteArray) × Bool) × ((List ByteArray) × Bool) × Int × List ByteArray) ⊕ ((((List ByteArray) × Bool) × Bool) ⊕ Empty))) (st : ((List ByteArray) × Bool) × ((List ByteArray) × Bool) × Int × (List ByteArray) × (List ByteArray) × Int × Int) : Option ((((List ByteArray) × Bool) × ((List ByteArray) × Bool) × Int × List ByteArray) ⊕ ((((List ByteArray) × Bool) × Bool) ⊕ Empty)) :=
  brK (decide ((st.2.2.2.2.2.2 : Int) < st.2.2.2.2.2.1))
  (bindK (listAt st.2.2.2.2.1 st.2.2.2.2.2.2) fun e3 =>
  bindK (listAt st.1.1 st.2.2.2.2.2.2) fun e4 =>
  bindK (pattern_narrower (e3, e4)) fun r5 =>
  brK (!r5.2)
  (some (.inr (.inl ((([] : List ByteArray), false), false))))
  (brK (fits (List.length st.2.2.2.1) (List.length ([r5.1] : List ByteArray)) 16)
  (rec (st.1, st.2.1, st.2.2.1, (st.2.2.2.1 ++ ([r5.1] : List ByteArray)), st.2.2.2.2.1, st.2.2.2.2.2.1, (IntKind.wrap .i64 (st.2.2.2.2.2.2 + 1))))
  (none)))
  (some (.inl (st.1, st.2.1, st.2.2.1, st.2.2.2.1)))

noncomputable def pattern_Meet_L12 : Nat → (((List ByteArray) × Bool) × ((List ByteArray) × Bool) × Int × (List ByteArray) × (List ByteArray) × Int × Int) → Option ((((List ByteArray) × Bool) × ((List ByteArray) × Bool) × Int × List ByteArray) ⊕ ((((List ByteArray) × Bool) × Bool) ⊕ Empty))
  | 0, _ => none
  | n + 1, st => pattern_Meet_L12_B (pattern_Meet_L12 n) st

noncomputable def pattern_Meet_L12_f (st : ((List ByteArray) × Bool) × ((List ByteArray) × Bool) × Int × (List ByteArray) × (List ByteArray) × Int × Int) : Option ((((List ByteArray) × Bool) × ((List ByteArray) × Bool) × Int × List ByteArray) ⊕ ((((List ByteArray) × Bool) × Bool) ⊕ Empty)) := pattern_Meet_L12 (List.length st.1.1 + List.length st.2.1.1 + Int.natAbs st.2.2.1 + List.length st.2.2.2.1 + List.length st.2.2.2.2.1 + Int.natAbs st.2.2.2.2.2.1 + Int.natAbs st.2.2.2.2.2.2 + 1000) st

/-- stockyard/pattern.Meet. -/
noncomputable def pattern_Meet (x : Pat × Pat) : Option (Pat × Bool) :=
  bindK (pattern_Check x.1) fun r1001 =>
  brK (decide ((r1001 : Int) ≠ 0))
  (some ((([] : List ByteArray), false), false))
  (bindK (pattern_Check x.2) fun r1002 =>
  brK (decide ((r1002 : Int) ≠ 0))
  (some ((([] : List ByteArray), false), false))
  (brK (decide (((x.1.1.length : Int) : Int) > (x.2.1.length : Int)))
  (brK (decide (((x.2.1.length : Int) : Int) < (x.1.1.length : Int)))
  (brK (!x.2.2)
  (some ((([] : List ByteArray), false), false))
  (brK (decide (((x.2.1.length : Int) : Int) = (x.1.1.length : Int)))
  (brK (!(x.2.2 == x.1.2))
  (some ((([] : List ByteArray), false), false))
  (brK (decide (0 ≤ (0 : Int) ∧ (0 : Int) ≤ (x.1.1.length : Int) ∧ ((16 : Nat) : Int) * (x.1.1.length : Int) ≤ 281474976710656 ∧ ((x.1.1.length : Int) : Int) ≤ 9223372036854775807))
  (bindK (pattern_Meet_L12_f (x.1, (([] : List ByteArray), false), (x.2.1.length : Int), (List.replicate (Int.toNat 0) (ByteArray.mk #[])), x.2.1, (x.2.1.length : Int), 0)) fun o1003 =>
  sumK o1003 (fun y1004 =>
  brK (decide (0 ≤ (y1004.2.2.1 : Int) ∧ (y1004.2.2.1 : Int) ≤ (y1004.2.2.2.length : Int) ∧ (y1004.2.2.1 : Int) = y1004.2.2.1))
  (brK (decide (0 ≤ (y1004.2.2.1 : Int) ∧ (y1004.2.2.1 : Int) ≤ (y1004.1.1.length : Int) ∧ (y1004.1.1.length : Int) ≤ (y1004.1.1.length : Int)))
  (brK (fits (List.length (List.take (Int.toNat y1004.2.2.1) y1004.2.2.2)) (List.length (List.drop (Int.toNat y1004.2.2.1) (List.take (Int.toNat (y1004.1.1.length : Int)) y1004.1.1))) 16)
  (some ((((List.take (Int.toNat y1004.2.2.1) y1004.2.2.2) ++ (List.drop (Int.toNat y1004.2.2.1) (List.take (Int.toNat (y1004.1.1.length : Int)) y1004.1.1))), y1004.1.2), true))
  (none))
  (none))
  (none))
  (fun z1005 => sumK z1005 (fun y1006 =>
  some y1006)
  (fun z1007 => emptyK z1007)))
  (none)))
  (brK (decide (0 ≤ (0 : Int) ∧ (0 : Int) ≤ (x.1.1.length : Int) ∧ ((16 : Nat) : Int) * (x.1.1.length : Int) ≤ 281474976710656 ∧ ((x.1.1.length : Int) : Int) ≤ 9223372036854775807))
  (bindK (pattern_Meet_L12_f (x.1, (([] : List ByteArray), false), (x.2.1.length : Int), (List.replicate (Int.toNat 0) (ByteArray.mk #[])), x.2.1, (x.2.1.length : Int), 0)) fun o1008 =>
  sumK o1008 (fun y1009 =>
  brK (decide (0 ≤ (y1009.2.2.1 : Int) ∧ (y1009.2.2.1 : Int) ≤ (y1009.2.2.2.length : Int) ∧ (y1009.2.2.1 : Int) = y1009.2.2.1))
  (brK (decide (0 ≤ (y1009.2.2.1 : Int) ∧ (y1009.2.2.1 : Int) ≤ (y1009.1.1.length : Int) ∧ (y1009.1.1.length : Int) ≤ (y1009.1.1.length : Int)))
  (brK (fits (List.length (List.take (Int.toNat y1009.2.2.1) y1009.2.2.2)) (List.length (List.drop (Int.toNat y1009.2.2.1) (List.take (Int.toNat (y1009.1.1.length : Int)) y1009.1.1))) 16)
  (some ((((List.take (Int.toNat y1009.2.2.1) y1009.2.2.2) ++ (List.drop (Int.toNat y1009.2.2.1) (List.take (Int.toNat (y1009.1.1.length : Int)) y1009.1.1))), y1009.1.2), true))
  (none))
  (none))
  (none))
  (fun z1010 => sumK z1010 (fun y1011 =>
  some y1011)
  (fun z1012 => emptyK z1012)))
  (none))))
  (brK (decide (((x.2.1.length : Int) : Int) = (x.1.1.length : Int)))
  (brK (!(x.2.2 == x.1.2))
  (some ((([] : List ByteArray), false), false))
  (brK (decide (0 ≤ (0 : Int) ∧ (0 : Int) ≤ (x.1.1.length : Int) ∧ ((16 : Nat) : Int) * (x.1.1.length : Int) ≤ 281474976710656 ∧ ((x.1.1.length : Int) : Int) ≤ 9223372036854775807))
  (bindK (pattern_Meet_L12_f (x.1, (([] : List ByteArray), false), (x.2.1.length : Int), (List.replicate (Int.toNat 0) (ByteArray.mk #[])), x.2.1, (x.2.1.length : Int), 0)) fun o1013 =>
  sumK o1013 (fun y1014 =>
  brK (decide (0 ≤ (y1014.2.2.1 : Int) ∧ (y1014.2.2.1 : Int) ≤ (y1014.2.2.2.length : Int) ∧ (y1014.2.2.1 : Int) = y1014.2.2.1))
  (brK (decide (0 ≤ (y1014.2.2.1 : Int) ∧ (y1014.2.2.1 : Int) ≤ (y1014.1.1.length : Int) ∧ (y1014.1.1.length : Int) ≤ (y1014.1.1.length : Int)))
  (brK (fits (List.length (List.take (Int.toNat y1014.2.2.1) y1014.2.2.2)) (List.length (List.drop (Int.toNat y1014.2.2.1) (List.take (Int.toNat (y1014.1.1.length : Int)) y1014.1.1))) 16)
  (some ((((List.take (Int.toNat y1014.2.2.1) y1014.2.2.2) ++ (List.drop (Int.toNat y1014.2.2.1) (List.take (Int.toNat (y1014.1.1.length : Int)) y1014.1.1))), y1014.1.2), true))
  (none))
  (none))
  (none))
  (fun z1015 => sumK z1015 (fun y1016 =>
  some y1016)
  (fun z1017 => emptyK z1017)))
  (none)))
  (brK (decide (0 ≤ (0 : Int) ∧ (0 : Int) ≤ (x.1.1.length : Int) ∧ ((16 : Nat) : Int) * (x.1.1.length : Int) ≤ 281474976710656 ∧ ((x.1.1.length : Int) : Int) ≤ 9223372036854775807))
  (bindK (pattern_Meet_L12_f (x.1, (([] : List ByteArray), false), (x.2.1.length : Int), (List.replicate (Int.toNat 0) (ByteArray.mk #[])), x.2.1, (x.2.1.length : Int), 0)) fun o1018 =>
  sumK o1018 (fun y1019 =>
  brK (decide (0 ≤ (y1019.2.2.1 : Int) ∧ (y1019.2.2.1 : Int) ≤ (y1019.2.2.2.length : Int) ∧ (y1019.2.2.1 : Int) = y1019.2.2.1))
  (brK (decide (0 ≤ (y1019.2.2.1 : Int) ∧ (y1019.2.2.1 : Int) ≤ (y1019.1.1.length : Int) ∧ (y1019.1.1.length : Int) ≤ (y1019.1.1.length : Int)))
  (brK (fits (List.length (List.take (Int.toNat y1019.2.2.1) y1019.2.2.2)) (List.length (List.drop (Int.toNat y1019.2.2.1) (List.take (Int.toNat (y1019.1.1.length : Int)) y1019.1.1))) 16)
  (some ((((List.take (Int.toNat y1019.2.2.1) y1019.2.2.2) ++ (List.drop (Int.toNat y1019.2.2.1) (List.take (Int.toNat (y1019.1.1.length : Int)) y1019.1.1))), y1019.1.2), true))
  (none))
  (none))
  (none))
  (fun z1020 => sumK z1020 (fun y1021 =>
  some y1021)
  (fun z1022 => emptyK z1022)))
  (none))))
  (brK (decide (((x.1.1.length : Int) : Int) < (x.2.1.length : Int)))
  (brK (!x.1.2)
  (some ((([] : List ByteArray), false), false))
  (brK (decide (((x.1.1.length : Int) : Int) = (x.2.1.length : Int)))
  (brK (!(x.1.2 == x.2.2))
  (some ((([] : List ByteArray), false), false))
  (brK (decide (0 ≤ (0 : Int) ∧ (0 : Int) ≤ (x.2.1.length : Int) ∧ ((16 : Nat) : Int) * (x.2.1.length : Int) ≤ 281474976710656 ∧ ((x.2.1.length : Int) : Int) ≤ 9223372036854775807))
  (bindK (pattern_Meet_L12_f (x.2, (([] : List ByteArray), false), (x.1.1.length : Int), (List.replicate (Int.toNat 0) (ByteArray.mk #[])), x.1.1, (x.1.1.length : Int), 0)) fun o1023 =>
  sumK o1023 (fun y1024 =>
  brK (decide (0 ≤ (y1024.2.2.1 : Int) ∧ (y1024.2.2.1 : Int) ≤ (y1024.2.2.2.length : Int) ∧ (y1024.2.2.1 : Int) = y1024.2.2.1))
  (brK (decide (0 ≤ (y1024.2.2.1 : Int) ∧ (y1024.2.2.1 : Int) ≤ (y1024.1.1.length : Int) ∧ (y1024.1.1.length : Int) ≤ (y1024.1.1.length : Int)))
  (brK (fits (List.length (List.take (Int.toNat y1024.2.2.1) y1024.2.2.2)) (List.length (List.drop (Int.toNat y1024.2.2.1) (List.take (Int.toNat (y1024.1.1.length : Int)) y1024.1.1))) 16)
  (some ((((List.take (Int.toNat y1024.2.2.1) y1024.2.2.2) ++ (List.drop (Int.toNat y1024.2.2.1) (List.take (Int.toNat (y1024.1.1.length : Int)) y1024.1.1))), y1024.1.2), true))
  (none))
  (none))
  (none))
  (fun z1025 => sumK z1025 (fun y1026 =>
  some y1026)
  (fun z1027 => emptyK z1027)))
  (none)))
  (brK (decide (0 ≤ (0 : Int) ∧ (0 : Int) ≤ (x.2.1.length : Int) ∧ ((16 : Nat) : Int) * (x.2.1.length : Int) ≤ 281474976710656 ∧ ((x.2.1.length : Int) : Int) ≤ 9223372036854775807))
  (bindK (pattern_Meet_L12_f (x.2, (([] : List ByteArray), false), (x.1.1.length : Int), (List.replicate (Int.toNat 0) (ByteArray.mk #[])), x.1.1, (x.1.1.length : Int), 0)) fun o1028 =>
  sumK o1028 (fun y1029 =>
  brK (decide (0 ≤ (y1029.2.2.1 : Int) ∧ (y1029.2.2.1 : Int) ≤ (y1029.2.2.2.length : Int) ∧ (y1029.2.2.1 : Int) = y1029.2.2.1))
  (brK (decide (0 ≤ (y1029.2.2.1 : Int) ∧ (y1029.2.2.1 : Int) ≤ (y1029.1.1.length : Int) ∧ (y1029.1.1.length : Int) ≤ (y1029.1.1.length : Int)))
  (brK (fits (List.length (List.take (Int.toNat y1029.2.2.1) y1029.2.2.2)) (List.length (List.drop (Int.toNat y1029.2.2.1) (List.take (Int.toNat (y1029.1.1.length : Int)) y1029.1.1))) 16)
  (some ((((List.take (Int.toNat y1029.2.2.1) y1029.2.2.2) ++ (List.drop (Int.toNat y1029.2.2.1) (List.take (Int.toNat (y1029.1.1.length : Int)) y1029.1.1))), y1029.1.2), true))
  (none))
  (none))
  (none))
  (fun z1030 => sumK z1030 (fun y1031 =>
  some y1031)
  (fun z1032 => emptyK z1032)))
  (none))))
  (brK (decide (((x.1.1.length : Int) : Int) = (x.2.1.length : Int)))
  (brK (!(x.1.2 == x.2.2))
  (some ((([] : List ByteArray), false), false))
  (brK (decide (0 ≤ (0 : Int) ∧ (0 : Int) ≤ (x.2.1.length : Int) ∧ ((16 : Nat) : Int) * (x.2.1.length : Int) ≤ 281474976710656 ∧ ((x.2.1.length : Int) : Int) ≤ 9223372036854775807))
  (bindK (pattern_Meet_L12_f (x.2, (([] : List ByteArray), false), (x.1.1.length : Int), (List.replicate (Int.toNat 0) (ByteArray.mk #[])), x.1.1, (x.1.1.length : Int), 0)) fun o1033 =>
  sumK o1033 (fun y1034 =>
  brK (decide (0 ≤ (y1034.2.2.1 : Int) ∧ (y1034.2.2.1 : Int) ≤ (y1034.2.2.2.length : Int) ∧ (y1034.2.2.1 : Int) = y1034.2.2.1))
  (brK (decide (0 ≤ (y1034.2.2.1 : Int) ∧ (y1034.2.2.1 : Int) ≤ (y1034.1.1.length : Int) ∧ (y1034.1.1.length : Int) ≤ (y1034.1.1.length : Int)))
  (brK (fits (List.length (List.take (Int.toNat y1034.2.2.1) y1034.2.2.2)) (List.length (List.drop (Int.toNat y1034.2.2.1) (List.take (Int.toNat (y1034.1.1.length : Int)) y1034.1.1))) 16)
  (some ((((List.take (Int.toNat y1034.2.2.1) y1034.2.2.2) ++ (List.drop (Int.toNat y1034.2.2.1) (List.take (Int.toNat (y1034.1.1.length : Int)) y1034.1.1))), y1034.1.2), true))
  (none))
  (none))
  (none))
  (fun z1035 => sumK z1035 (fun y1036 =>
  some y1036)
  (fun z1037 => emptyK z1037)))
  (none)))
  (brK (decide (0 ≤ (0 : Int) ∧ (0 : Int) ≤ (x.2.1.length : Int) ∧ ((16 : Nat) : Int) * (x.2.1.length : Int) ≤ 281474976710656 ∧ ((x.2.1.length : Int) : Int) ≤ 9223372036854775807))
  (bindK (pattern_Meet_L12_f (x.2, (([] : List ByteArray), false), (x.1.1.length : Int), (List.replicate (Int.toNat 0) (ByteArray.mk #[])), x.1.1, (x.1.1.length : Int), 0)) fun o1038 =>
  sumK o1038 (fun y1039 =>
  brK (decide (0 ≤ (y1039.2.2.1 : Int) ∧ (y1039.2.2.1 : Int) ≤ (y1039.2.2.2.length : Int) ∧ (y1039.2.2.1 : Int) = y1039.2.2.1))
  (brK (decide (0 ≤ (y1039.2.2.1 : Int) ∧ (y1039.2.2.1 : Int) ≤ (y1039.1.1.length : Int) ∧ (y1039.1.1.length : Int) ≤ (y1039.1.1.length : Int)))
  (brK (fits (List.length (List.take (Int.toNat y1039.2.2.1) y1039.2.2.2)) (List.length (List.drop (Int.toNat y1039.2.2.1) (List.take (Int.toNat (y1039.1.1.length : Int)) y1039.1.1))) 16)
  (some ((((List.take (Int.toNat y1039.2.2.1) y1039.2.2.2) ++ (List.drop (Int.toNat y1039.2.2.1) (List.take (Int.toNat (y1039.1.1.length : Int)) y1039.1.1))), y1039.1.2), true))
  (none))
  (none))
  (none))
  (fun z1040 => sumK z1040 (fun y1041 =>
  some y1041)
  (fun z1042 => emptyK z1042)))
  (none))))))

noncomputable def pattern_Meet_sp : FSpec := ⟨42, (.pair (.agg (.prod (.list .str) .bool)) (.agg (.prod (.list .str) .bool))), (.tup (.pair (.agg (.prod (.list .str) .bool)) .bool)), pattern_Meet⟩
noncomputable def pattern_Meet_lo : List FSpec := [pattern_Check_sp, pattern_narrower_sp]
noncomputable def pattern_Meet_L12_e : LEnt := ⟨12, ⟨102, 4, [3, 4, 6, 7, 64, 65, 66], (.pair (.box 0 (.pair (.list .str) .bool)) (.pair (.box 1 (.pair (.own 2 9 .str) .bool)) (.pair (.int .i64) (.pair (.own 3 9 .str) (.pair (.list .str) (.pair (.int .i64) (.int .i64)))))))⟩, [((.exit 1), ⟨102, 4, [3, 4, 6, 7], (.pair (.box 0 (.pair (.list .str) .bool)) (.pair (.box 1 (.pair (.own 2 9 .str) .bool)) (.pair (.int .i64) (.own 3 9 .str))))⟩), (.ret, ⟨102, 2, [4, 5], (.pair (.box 0 (.pair (.own 1 9 .str) .bool)) .bool)⟩)], pattern_Meet_L12_f⟩
noncomputable def pattern_Meet_ll : List LEnt := [pattern_Meet_L12_e]
theorem pattern_Meet_ook : OOK Tryd.prog tG (otab pattern_Meet_lo) := ook_of (l := pattern_Meet_lo) (by
    intro sp hsp
    simp only [pattern_Meet_lo, List.mem_cons, List.not_mem_nil, or_false] at hsp
    rcases hsp with rfl | rfl
    · exact pattern_Check_ok
    · exact pattern_narrower_ok)
noncomputable def pattern_Meet_c : Code := (Tryd.f42.body).getD .skip
theorem pattern_Meet_L12_B_eq (n : Nat) (st : pattern_Meet_L12_e.head.shape.den) : pattern_Meet_L12 (n + 1) st = aexecK tT (otabK pattern_Meet_lo) noX (itabK tT []) (ltabK pattern_Meet_ll) (((loops pattern_Meet_c)[0]?).getD .skip) (pattern_Meet_L12_e.head.enc st) (lres pattern_Meet_L12_e.head pattern_Meet_L12_e.exits (pattern_Meet_L12 n)) := by kernel_rfl
theorem pattern_Meet_L12_lok : LOK Tryd.prog tG (ltab pattern_Meet_ll) (((loops pattern_Meet_c)[0]?).getD .skip) :=
  lok_of tT_ok pattern_Meet_ook (iok_of tT_ok tP_mixed (l := []) (fun _ h => nomatch h)) tP_mixed (loopsOK_of (by
    have e : loops (((loops pattern_Meet_c)[0]?).getD .skip) = [] := by kernel_rfl
    rw [e]
    intro a ha
    cases ha)) pattern_Meet_L12_e (F := pattern_Meet_L12) (fun st => List.length st.1.1 + List.length st.2.1.1 + Int.natAbs st.2.2.1 + List.length st.2.2.2.1 + List.length st.2.2.2.2.1 + Int.natAbs st.2.2.2.2.2.1 + Int.natAbs st.2.2.2.2.2.2 + 1000) (fun s => by kernel_rfl) (fun st => by kernel_rfl) (fun st => by kernel_rfl) (fun n st => (pattern_Meet_L12_B_eq n st).trans (loopF_eq tT pattern_Meet_lo noX [] pattern_Meet_ll (((loops pattern_Meet_c)[0]?).getD .skip) pattern_Meet_L12_e.head pattern_Meet_L12_e.exits (pattern_Meet_L12 n) st).symm)
theorem pattern_Meet_h (x : pattern_Meet_sp.arg.den) : pattern_Meet_sp.f x = bodyF tT (otab pattern_Meet_lo) noX (itab tT []) (ltab pattern_Meet_ll) Tryd.f42 pattern_Meet_sp.arg pattern_Meet_sp.res x := by
  rw [bodyF_eq]
  kernel_rfl
theorem pattern_Meet_ok : SpecOK Tryd.prog tG pattern_Meet_sp :=
  spec_of_body (c := pattern_Meet_c) tT_ok pattern_Meet_ook (iok_of tT_ok tP_mixed (l := []) (fun _ h => nomatch h)) tP_mixed (fn := Tryd.f42) Tryd.func42 (by kernel_rfl) (by kernel_rfl) (loopsOK_of (by
    have e : loops pattern_Meet_c = [((loops pattern_Meet_c)[0]?).getD .skip] := by kernel_rfl
    rw [e]
    intro a ha
    simp only [List.mem_cons, List.not_mem_nil, or_false] at ha
    rcases ha with rfl
    · exact pattern_Meet_L12_lok)) (fun x => enc_closed x (by kernel_rfl)) (by kernel_rfl) (by kernel_rfl) pattern_Meet_h

/-- A round of the loop 5 of stockyard/pattern.Within. -/
noncomputable def pattern_Within_L5_B (rec : (((List ByteArray) × Bool) × (List ByteArray) × Int × Int) → Option (Unit ⊕ (Bool ⊕ Empty))) (st : ((List ByteArray) × Bool) × (List ByteArray) × Int × Int) : Option (Unit ⊕ (Bool ⊕ Empty)) :=
  brK (decide ((st.2.2.2 : Int) < st.2.2.1))
  (bindK (listAt st.2.1 st.2.2.2) fun e2 =>
  bindK (listAt st.1.1 st.2.2.2) fun e3 =>
  brK (decide (e3 ≠ e2))
  (some (.inr (.inl false)))
  (rec (st.1, st.2.1, st.2.2.1, (IntKind.wrap .i64 (st.2.2.2 + 1)))))
  (some (.inl ()))

noncomputable def pattern_Within_L5 : Nat → (((List ByteArray) × Bool) × (List ByteArray) × Int × Int) → Option (Unit ⊕ (Bool ⊕ Empty))
  | 0, _ => none
  | n + 1, st => pattern_Within_L5_B (pattern_Within_L5 n) st

noncomputable def pattern_Within_L5_f (st : ((List ByteArray) × Bool) × (List ByteArray) × Int × Int) : Option (Unit ⊕ (Bool ⊕ Empty)) := pattern_Within_L5 (List.length st.1.1 + List.length st.2.1 + Int.natAbs st.2.2.1 + Int.natAbs st.2.2.2 + 1000) st

/-- stockyard/pattern.Within. -/
noncomputable def pattern_Within (x : Pat × Pat) : Option Bool :=
  bindK (pattern_Meet x) fun r1001 =>
  brK (!r1001.2)
  (some false)
  (brK (!(r1001.1.2 == x.1.2))
  (some false)
  (brK (decide (((r1001.1.1.length : Int) : Int) ≠ (x.1.1.length : Int)))
  (some false)
  (bindK (pattern_Within_L5_f (r1001.1, x.1.1, (x.1.1.length : Int), 0)) fun o1002 =>
  sumK o1002 (fun y1003 =>
  some true)
  (fun z1004 => sumK z1004 (fun y1005 =>
  some y1005)
  (fun z1006 => emptyK z1006)))))

noncomputable def pattern_Within_sp : FSpec := ⟨60, (.pair (.agg (.prod (.list .str) .bool)) (.agg (.prod (.list .str) .bool))), .bool, pattern_Within⟩
noncomputable def pattern_Within_lo : List FSpec := [pattern_Meet_sp]
noncomputable def pattern_Within_L5_e : LEnt := ⟨5, ⟨49, 1, [5, 34, 35, 36], (.pair (.box 0 (.pair (.list .str) .bool)) (.pair (.list .str) (.pair (.int .i64) (.int .i64))))⟩, [((.exit 0), ⟨49, 0, [], .nil⟩), (.ret, ⟨49, 0, [4], .bool⟩)], pattern_Within_L5_f⟩
noncomputable def pattern_Within_ll : List LEnt := [pattern_Within_L5_e]
theorem pattern_Within_ook : OOK Tryd.prog tG (otab pattern_Within_lo) := ook_of (l := pattern_Within_lo) (by
    intro sp hsp
    simp only [pattern_Within_lo, List.mem_cons, List.not_mem_nil, or_false] at hsp
    rcases hsp with rfl
    · exact pattern_Meet_ok)
noncomputable def pattern_Within_c : Code := (Tryd.f60.body).getD .skip
theorem pattern_Within_L5_B_eq (n : Nat) (st : pattern_Within_L5_e.head.shape.den) : pattern_Within_L5 (n + 1) st = aexecK tT (otabK pattern_Within_lo) noX (itabK tT []) (ltabK pattern_Within_ll) (((loops pattern_Within_c)[0]?).getD .skip) (pattern_Within_L5_e.head.enc st) (lres pattern_Within_L5_e.head pattern_Within_L5_e.exits (pattern_Within_L5 n)) := by kernel_rfl
theorem pattern_Within_L5_lok : LOK Tryd.prog tG (ltab pattern_Within_ll) (((loops pattern_Within_c)[0]?).getD .skip) :=
  lok_of tT_ok pattern_Within_ook (iok_of tT_ok tP_mixed (l := []) (fun _ h => nomatch h)) tP_mixed (loopsOK_of (by
    have e : loops (((loops pattern_Within_c)[0]?).getD .skip) = [] := by kernel_rfl
    rw [e]
    intro a ha
    cases ha)) pattern_Within_L5_e (F := pattern_Within_L5) (fun st => List.length st.1.1 + List.length st.2.1 + Int.natAbs st.2.2.1 + Int.natAbs st.2.2.2 + 1000) (fun s => by kernel_rfl) (fun st => by kernel_rfl) (fun st => by kernel_rfl) (fun n st => (pattern_Within_L5_B_eq n st).trans (loopF_eq tT pattern_Within_lo noX [] pattern_Within_ll (((loops pattern_Within_c)[0]?).getD .skip) pattern_Within_L5_e.head pattern_Within_L5_e.exits (pattern_Within_L5 n) st).symm)
theorem pattern_Within_h (x : pattern_Within_sp.arg.den) : pattern_Within_sp.f x = bodyF tT (otab pattern_Within_lo) noX (itab tT []) (ltab pattern_Within_ll) Tryd.f60 pattern_Within_sp.arg pattern_Within_sp.res x := by
  rw [bodyF_eq]
  kernel_rfl
theorem pattern_Within_ok : SpecOK Tryd.prog tG pattern_Within_sp :=
  spec_of_body (c := pattern_Within_c) tT_ok pattern_Within_ook (iok_of tT_ok tP_mixed (l := []) (fun _ h => nomatch h)) tP_mixed (fn := Tryd.f60) Tryd.func60 (by kernel_rfl) (by kernel_rfl) (loopsOK_of (by
    have e : loops pattern_Within_c = [((loops pattern_Within_c)[0]?).getD .skip] := by kernel_rfl
    rw [e]
    intro a ha
    simp only [List.mem_cons, List.not_mem_nil, or_false] at ha
    rcases ha with rfl
    · exact pattern_Within_L5_lok)) (fun x => enc_closed x (by kernel_rfl)) (by kernel_rfl) (by kernel_rfl) pattern_Within_h


/-- stockyard/holes.Inside. -/
noncomputable def holes_Inside (x : ByteArray × ByteArray) : Option Bool :=
  bindK (pattern_Within ((([(ByteArray.mk #[97]), x.1] : List ByteArray), false), ([(ByteArray.mk #[97]), x.2] : List ByteArray), false)) fun r1001 =>
  some r1001

noncomputable def holes_Inside_sp : FSpec := ⟨33, (.pair .str .str), .bool, holes_Inside⟩
noncomputable def holes_Inside_lo : List FSpec := [pattern_Within_sp]
noncomputable def holes_Inside_ll : List LEnt := []
theorem holes_Inside_ook : OOK Tryd.prog tG (otab holes_Inside_lo) := ook_of (l := holes_Inside_lo) (by
    intro sp hsp
    simp only [holes_Inside_lo, List.mem_cons, List.not_mem_nil, or_false] at hsp
    rcases hsp with rfl
    · exact pattern_Within_ok)
noncomputable def holes_Inside_c : Code := (Tryd.f33.body).getD .skip
theorem holes_Inside_h (x : holes_Inside_sp.arg.den) : holes_Inside_sp.f x = bodyF tT (otab holes_Inside_lo) noX (itab tT []) (ltab holes_Inside_ll) Tryd.f33 holes_Inside_sp.arg holes_Inside_sp.res x := by
  rw [bodyF_eq]
  kernel_rfl
theorem holes_Inside_ok : SpecOK Tryd.prog tG holes_Inside_sp :=
  spec_of_body (c := holes_Inside_c) tT_ok holes_Inside_ook (iok_of tT_ok tP_mixed (l := []) (fun _ h => nomatch h)) tP_mixed (fn := Tryd.f33) Tryd.func33 (by kernel_rfl) (by kernel_rfl) (loopsOK_of (by
    have e : loops holes_Inside_c = [] := by kernel_rfl
    rw [e]
    intro a ha
    cases ha)) (fun x => enc_closed x (by kernel_rfl)) (by kernel_rfl) (by kernel_rfl) holes_Inside_h

/-- A round of the loop 4 of stockyard/holes.Covers. -/
noncomputable def holes_Covers_L4_B (rec : (Int × ((List ByteArray) × Bool) × ((List ByteArray) × Bool) × Int) → Option (Unit ⊕ (Bool ⊕ Empty))) (st : Int × ((List ByteArray) × Bool) × ((List ByteArray) × Bool) × Int) : Option (Unit ⊕ (Bool ⊕ Empty)) :=
  brK (decide ((st.2.2.2 : Int) < st.1))
  (bindK (holes_Part st.2.2) fun r2 =>
  bindK (holes_Part (st.2.1, st.2.2.2)) fun r3 =>
  bindK (holes_Inside (r2, r3)) fun r4 =>
  brK (!r4)
  (some (.inr (.inl false)))
  (rec (st.1, st.2.1, st.2.2.1, (IntKind.wrap .i64 (st.2.2.2 + 1)))))
  (some (.inl ()))

noncomputable def holes_Covers_L4 : Nat → (Int × ((List ByteArray) × Bool) × ((List ByteArray) × Bool) × Int) → Option (Unit ⊕ (Bool ⊕ Empty))
  | 0, _ => none
  | n + 1, st => holes_Covers_L4_B (holes_Covers_L4 n) st

noncomputable def holes_Covers_L4_f (st : Int × ((List ByteArray) × Bool) × ((List ByteArray) × Bool) × Int) : Option (Unit ⊕ (Bool ⊕ Empty)) := holes_Covers_L4 (Int.natAbs st.1 + List.length st.2.1.1 + List.length st.2.2.1.1 + Int.natAbs st.2.2.2 + 1000) st

/-- stockyard/holes.Covers. -/
noncomputable def holes_Covers (x : Pat × Pat × Int × Int) : Option Bool :=
  bindK (holes_Long (x.1, x.2.2.1)) fun r1001 =>
  brK (!r1001)
  (some false)
  (bindK (holes_Covers_L4_f (x.2.2.1, x.1, x.2.1, x.2.2.2)) fun o1002 =>
  sumK o1002 (fun y1003 =>
  some true)
  (fun z1004 => sumK z1004 (fun y1005 =>
  some y1005)
  (fun z1006 => emptyK z1006)))

noncomputable def holes_Covers_sp : FSpec := ⟨57, (.pair (.agg (.prod (.list .str) .bool)) (.pair (.agg (.prod (.list .str) .bool)) (.pair (.int .i64) (.int .i64)))), .bool, holes_Covers⟩
noncomputable def holes_Covers_lo : List FSpec := [holes_Long_sp, holes_Part_sp, holes_Inside_sp]
noncomputable def holes_Covers_L4_e : LEnt := ⟨4, ⟨28, 2, [2, 4, 5, 9], (.pair (.int .i64) (.pair (.box 0 (.pair (.list .str) .bool)) (.pair (.box 1 (.pair (.list .str) .bool)) (.int .i64))))⟩, [((.exit 0), ⟨28, 0, [], .nil⟩), (.ret, ⟨28, 0, [8], .bool⟩)], holes_Covers_L4_f⟩
noncomputable def holes_Covers_ll : List LEnt := [holes_Covers_L4_e]
theorem holes_Covers_ook : OOK Tryd.prog tG (otab holes_Covers_lo) := ook_of (l := holes_Covers_lo) (by
    intro sp hsp
    simp only [holes_Covers_lo, List.mem_cons, List.not_mem_nil, or_false] at hsp
    rcases hsp with rfl | rfl | rfl
    · exact holes_Long_ok
    · exact holes_Part_ok
    · exact holes_Inside_ok)
noncomputable def holes_Covers_c : Code := (Tryd.f57.body).getD .skip
theorem holes_Covers_L4_B_eq (n : Nat) (st : holes_Covers_L4_e.head.shape.den) : holes_Covers_L4 (n + 1) st = aexecK tT (otabK holes_Covers_lo) noX (itabK tT []) (ltabK holes_Covers_ll) (((loops holes_Covers_c)[0]?).getD .skip) (holes_Covers_L4_e.head.enc st) (lres holes_Covers_L4_e.head holes_Covers_L4_e.exits (holes_Covers_L4 n)) := by kernel_rfl
theorem holes_Covers_L4_lok : LOK Tryd.prog tG (ltab holes_Covers_ll) (((loops holes_Covers_c)[0]?).getD .skip) :=
  lok_of tT_ok holes_Covers_ook (iok_of tT_ok tP_mixed (l := []) (fun _ h => nomatch h)) tP_mixed (loopsOK_of (by
    have e : loops (((loops holes_Covers_c)[0]?).getD .skip) = [] := by kernel_rfl
    rw [e]
    intro a ha
    cases ha)) holes_Covers_L4_e (F := holes_Covers_L4) (fun st => Int.natAbs st.1 + List.length st.2.1.1 + List.length st.2.2.1.1 + Int.natAbs st.2.2.2 + 1000) (fun s => by kernel_rfl) (fun st => by kernel_rfl) (fun st => by kernel_rfl) (fun n st => (holes_Covers_L4_B_eq n st).trans (loopF_eq tT holes_Covers_lo noX [] holes_Covers_ll (((loops holes_Covers_c)[0]?).getD .skip) holes_Covers_L4_e.head holes_Covers_L4_e.exits (holes_Covers_L4 n) st).symm)
theorem holes_Covers_h (x : holes_Covers_sp.arg.den) : holes_Covers_sp.f x = bodyF tT (otab holes_Covers_lo) noX (itab tT []) (ltab holes_Covers_ll) Tryd.f57 holes_Covers_sp.arg holes_Covers_sp.res x := by
  rw [bodyF_eq]
  kernel_rfl
theorem holes_Covers_ok : SpecOK Tryd.prog tG holes_Covers_sp :=
  spec_of_body (c := holes_Covers_c) tT_ok holes_Covers_ook (iok_of tT_ok tP_mixed (l := []) (fun _ h => nomatch h)) tP_mixed (fn := Tryd.f57) Tryd.func57 (by kernel_rfl) (by kernel_rfl) (loopsOK_of (by
    have e : loops holes_Covers_c = [((loops holes_Covers_c)[0]?).getD .skip] := by kernel_rfl
    rw [e]
    intro a ha
    simp only [List.mem_cons, List.not_mem_nil, or_false] at ha
    rcases ha with rfl
    · exact holes_Covers_L4_lok)) (fun x => enc_closed x (by kernel_rfl)) (by kernel_rfl) (by kernel_rfl) holes_Covers_h


/-- stockyard/holes.Length$1. -/
noncomputable def holes_Length_1 (x : Pat × ((List ByteArray) × Bool × List Pat) × Int) : Option Bool :=
  bindK (holes_Covers (x.1, (x.2.1.1, x.2.1.2.1), x.2.2, 0)) fun r1001 =>
  some r1001

noncomputable def holes_Length_1_sp : FSpec := ⟨56, (.pair (.agg (.prod (.list .str) .bool)) (.pair (.ptr (.pair (.list .str) (.pair .bool (.list (.prod (.list .str) .bool))))) (.ptr (.int .i64)))), .bool, holes_Length_1⟩
noncomputable def holes_Length_1_lo : List FSpec := [holes_Covers_sp]
noncomputable def holes_Length_1_ll : List LEnt := []
theorem holes_Length_1_ook : OOK Tryd.prog tG (otab holes_Length_1_lo) := ook_of (l := holes_Length_1_lo) (by
    intro sp hsp
    simp only [holes_Length_1_lo, List.mem_cons, List.not_mem_nil, or_false] at hsp
    rcases hsp with rfl
    · exact holes_Covers_ok)
noncomputable def holes_Length_1_c : Code := (Tryd.f56.body).getD .skip
theorem holes_Length_1_h (x : holes_Length_1_sp.arg.den) : holes_Length_1_sp.f x = bodyF tT (otab holes_Length_1_lo) noX (itab tT []) (ltab holes_Length_1_ll) Tryd.f56 holes_Length_1_sp.arg holes_Length_1_sp.res x := by
  rw [bodyF_eq]
  kernel_rfl
theorem holes_Length_1_ok : SpecOK Tryd.prog tG holes_Length_1_sp :=
  spec_of_body (c := holes_Length_1_c) tT_ok holes_Length_1_ook (iok_of tT_ok tP_mixed (l := []) (fun _ h => nomatch h)) tP_mixed (fn := Tryd.f56) Tryd.func56 (by kernel_rfl) (by kernel_rfl) (loopsOK_of (by
    have e : loops holes_Length_1_c = [] := by kernel_rfl
    rw [e]
    intro a ha
    cases ha)) (fun x => enc_closed x (by kernel_rfl)) (by kernel_rfl) (by kernel_rfl) holes_Length_1_h

/-- A round of the loop 2 of slices.IndexFunc[[]stockyard/api.Pattern,stockyard/api.Pattern]. -/
noncomputable def slices_IndexFunc__holes_Length_1_L2_B (rec : ((List Pat) × (((List ByteArray) × Bool × List Pat) × Int) × Int × Int) → Option (Unit ⊕ (Int ⊕ Empty))) (st : (List Pat) × (((List ByteArray) × Bool × List Pat) × Int) × Int × Int) : Option (Unit ⊕ (Int ⊕ Empty)) :=
  brK (decide ((st.2.2.2 : Int) < st.2.2.1))
  (bindK (listAt st.1 st.2.2.2) fun e1 =>
  bindK (holes_Length_1 (e1, st.2.1)) fun r2 =>
  brK r2
  (some (.inr (.inl st.2.2.2)))
  (rec (st.1, st.2.1, st.2.2.1, (IntKind.wrap .i64 (st.2.2.2 + 1)))))
  (some (.inl ()))

noncomputable def slices_IndexFunc__holes_Length_1_L2 : Nat → ((List Pat) × (((List ByteArray) × Bool × List Pat) × Int) × Int × Int) → Option (Unit ⊕ (Int ⊕ Empty))
  | 0, _ => none
  | n + 1, st => slices_IndexFunc__holes_Length_1_L2_B (slices_IndexFunc__holes_Length_1_L2 n) st

noncomputable def slices_IndexFunc__holes_Length_1_L2_f (st : (List Pat) × (((List ByteArray) × Bool × List Pat) × Int) × Int × Int) : Option (Unit ⊕ (Int ⊕ Empty)) := slices_IndexFunc__holes_Length_1_L2 (List.length st.1 + List.length st.2.1.1.1 + List.length st.2.1.1.2.2 + Int.natAbs st.2.1.2 + Int.natAbs st.2.2.1 + Int.natAbs st.2.2.2 + 1000) st

/-- slices.IndexFunc[[]stockyard/api.Pattern,stockyard/api.Pattern]. -/
noncomputable def slices_IndexFunc__holes_Length_1 (x : (List Pat) × ((List ByteArray) × Bool × List Pat) × Int) : Option Int :=
  bindK (slices_IndexFunc__holes_Length_1_L2_f (x.1, x.2, (x.1.length : Int), 0)) fun o1001 =>
  sumK o1001 (fun y1002 =>
  some (-1))
  (fun z1003 => sumK z1003 (fun y1004 =>
  some y1004)
  (fun z1005 => emptyK z1005))

noncomputable def slices_IndexFunc__holes_Length_1_sp : FSpec := ⟨65, (.pair (.list (.prod (.list .str) .bool)) (.fn 56 (.pair (.ptr (.pair (.list .str) (.pair .bool (.list (.prod (.list .str) .bool))))) (.ptr (.int .i64))))), (.int .i64), slices_IndexFunc__holes_Length_1⟩
noncomputable def slices_IndexFunc__holes_Length_1_lo : List FSpec := [holes_Length_1_sp]
noncomputable def slices_IndexFunc__holes_Length_1_L2_e : LEnt := ⟨2, ⟨19, 0, [0, 1, 7, 8], (.pair (.list (.prod (.list .str) .bool)) (.pair (.fn 56 (.pair (.ptr (.pair (.list .str) (.pair .bool (.list (.prod (.list .str) .bool))))) (.ptr (.int .i64)))) (.pair (.int .i64) (.int .i64))))⟩, [((.exit 0), ⟨19, 0, [], .nil⟩), (.ret, ⟨19, 0, [4], (.int .i64)⟩)], slices_IndexFunc__holes_Length_1_L2_f⟩
noncomputable def slices_IndexFunc__holes_Length_1_ll : List LEnt := [slices_IndexFunc__holes_Length_1_L2_e]
theorem slices_IndexFunc__holes_Length_1_ook : OOK Tryd.prog tG (otab slices_IndexFunc__holes_Length_1_lo) := ook_of (l := slices_IndexFunc__holes_Length_1_lo) (by
    intro sp hsp
    simp only [slices_IndexFunc__holes_Length_1_lo, List.mem_cons, List.not_mem_nil, or_false] at hsp
    rcases hsp with rfl
    · exact holes_Length_1_ok)
noncomputable def slices_IndexFunc__holes_Length_1_c : Code := (Tryd.f65.body).getD .skip
theorem slices_IndexFunc__holes_Length_1_L2_B_eq (n : Nat) (st : slices_IndexFunc__holes_Length_1_L2_e.head.shape.den) : slices_IndexFunc__holes_Length_1_L2 (n + 1) st = aexecK tT (otabK slices_IndexFunc__holes_Length_1_lo) noX (itabK tT []) (ltabK slices_IndexFunc__holes_Length_1_ll) (((loops slices_IndexFunc__holes_Length_1_c)[0]?).getD .skip) (slices_IndexFunc__holes_Length_1_L2_e.head.enc st) (lres slices_IndexFunc__holes_Length_1_L2_e.head slices_IndexFunc__holes_Length_1_L2_e.exits (slices_IndexFunc__holes_Length_1_L2 n)) := by kernel_rfl
theorem slices_IndexFunc__holes_Length_1_L2_lok : LOK Tryd.prog tG (ltab slices_IndexFunc__holes_Length_1_ll) (((loops slices_IndexFunc__holes_Length_1_c)[0]?).getD .skip) :=
  lok_of tT_ok slices_IndexFunc__holes_Length_1_ook (iok_of tT_ok tP_mixed (l := []) (fun _ h => nomatch h)) tP_mixed (loopsOK_of (by
    have e : loops (((loops slices_IndexFunc__holes_Length_1_c)[0]?).getD .skip) = [] := by kernel_rfl
    rw [e]
    intro a ha
    cases ha)) slices_IndexFunc__holes_Length_1_L2_e (F := slices_IndexFunc__holes_Length_1_L2) (fun st => List.length st.1 + List.length st.2.1.1.1 + List.length st.2.1.1.2.2 + Int.natAbs st.2.1.2 + Int.natAbs st.2.2.1 + Int.natAbs st.2.2.2 + 1000) (fun s => by kernel_rfl) (fun st => by kernel_rfl) (fun st => by kernel_rfl) (fun n st => (slices_IndexFunc__holes_Length_1_L2_B_eq n st).trans (loopF_eq tT slices_IndexFunc__holes_Length_1_lo noX [] slices_IndexFunc__holes_Length_1_ll (((loops slices_IndexFunc__holes_Length_1_c)[0]?).getD .skip) slices_IndexFunc__holes_Length_1_L2_e.head slices_IndexFunc__holes_Length_1_L2_e.exits (slices_IndexFunc__holes_Length_1_L2 n) st).symm)
theorem slices_IndexFunc__holes_Length_1_h (x : slices_IndexFunc__holes_Length_1_sp.arg.den) : slices_IndexFunc__holes_Length_1_sp.f x = bodyF tT (otab slices_IndexFunc__holes_Length_1_lo) noX (itab tT []) (ltab slices_IndexFunc__holes_Length_1_ll) Tryd.f65 slices_IndexFunc__holes_Length_1_sp.arg slices_IndexFunc__holes_Length_1_sp.res x := by
  rw [bodyF_eq]
  kernel_rfl
theorem slices_IndexFunc__holes_Length_1_ok : SpecOK Tryd.prog tG slices_IndexFunc__holes_Length_1_sp :=
  spec_of_body (c := slices_IndexFunc__holes_Length_1_c) tT_ok slices_IndexFunc__holes_Length_1_ook (iok_of tT_ok tP_mixed (l := []) (fun _ h => nomatch h)) tP_mixed (fn := Tryd.f65) Tryd.func65 (by kernel_rfl) (by kernel_rfl) (loopsOK_of (by
    have e : loops slices_IndexFunc__holes_Length_1_c = [((loops slices_IndexFunc__holes_Length_1_c)[0]?).getD .skip] := by kernel_rfl
    rw [e]
    intro a ha
    simp only [List.mem_cons, List.not_mem_nil, or_false] at ha
    rcases ha with rfl
    · exact slices_IndexFunc__holes_Length_1_L2_lok)) (fun x => enc_closed x (by kernel_rfl)) (by kernel_rfl) (by kernel_rfl) slices_IndexFunc__holes_Length_1_h


/-- slices.ContainsFunc[[]stockyard/api.Pattern,stockyard/api.Pattern]. -/
noncomputable def slices_ContainsFunc__holes_Length_1 (x : (List Pat) × ((List ByteArray) × Bool × List Pat) × Int) : Option Bool :=
  bindK (slices_IndexFunc__holes_Length_1 x) fun r1001 =>
  some (decide ((r1001 : Int) ≥ 0))

noncomputable def slices_ContainsFunc__holes_Length_1_sp : FSpec := ⟨37, (.pair (.list (.prod (.list .str) .bool)) (.fn 56 (.pair (.ptr (.pair (.list .str) (.pair .bool (.list (.prod (.list .str) .bool))))) (.ptr (.int .i64))))), .bool, slices_ContainsFunc__holes_Length_1⟩
noncomputable def slices_ContainsFunc__holes_Length_1_lo : List FSpec := [slices_IndexFunc__holes_Length_1_sp]
noncomputable def slices_ContainsFunc__holes_Length_1_ll : List LEnt := []
theorem slices_ContainsFunc__holes_Length_1_ook : OOK Tryd.prog tG (otab slices_ContainsFunc__holes_Length_1_lo) := ook_of (l := slices_ContainsFunc__holes_Length_1_lo) (by
    intro sp hsp
    simp only [slices_ContainsFunc__holes_Length_1_lo, List.mem_cons, List.not_mem_nil, or_false] at hsp
    rcases hsp with rfl
    · exact slices_IndexFunc__holes_Length_1_ok)
noncomputable def slices_ContainsFunc__holes_Length_1_c : Code := (Tryd.f37.body).getD .skip
theorem slices_ContainsFunc__holes_Length_1_h (x : slices_ContainsFunc__holes_Length_1_sp.arg.den) : slices_ContainsFunc__holes_Length_1_sp.f x = bodyF tT (otab slices_ContainsFunc__holes_Length_1_lo) noX (itab tT []) (ltab slices_ContainsFunc__holes_Length_1_ll) Tryd.f37 slices_ContainsFunc__holes_Length_1_sp.arg slices_ContainsFunc__holes_Length_1_sp.res x := by
  rw [bodyF_eq]
  kernel_rfl
theorem slices_ContainsFunc__holes_Length_1_ok : SpecOK Tryd.prog tG slices_ContainsFunc__holes_Length_1_sp :=
  spec_of_body (c := slices_ContainsFunc__holes_Length_1_c) tT_ok slices_ContainsFunc__holes_Length_1_ook (iok_of tT_ok tP_mixed (l := []) (fun _ h => nomatch h)) tP_mixed (fn := Tryd.f37) Tryd.func37 (by kernel_rfl) (by kernel_rfl) (loopsOK_of (by
    have e : loops slices_ContainsFunc__holes_Length_1_c = [] := by kernel_rfl
    rw [e]
    intro a ha
    cases ha)) (fun x => enc_closed x (by kernel_rfl)) (by kernel_rfl) (by kernel_rfl) slices_ContainsFunc__holes_Length_1_h

/-- A round of the loop 3 of stockyard/holes.Length. -/
noncomputable def holes_Length_L3_B (rec : (((List ByteArray) × Bool × List Pat) × Int × (List Pat) × Int × Int) → Option ((((List ByteArray) × Bool × List Pat) × Int) ⊕ Empty)) (st : ((List ByteArray) × Bool × List Pat) × Int × (List Pat) × Int × Int) : Option ((((List ByteArray) × Bool × List Pat) × Int) ⊕ Empty) :=
  brK (decide ((st.2.2.2.2 : Int) < st.2.2.2.1))
  (bindK (listAt st.2.2.1 st.2.2.2.2) fun e1 =>
  rec (st.1, (max st.2.1 (e1.1.length : Int)), st.2.2.1, st.2.2.2.1, (IntKind.wrap .i64 (st.2.2.2.2 + 1))))
  (some (.inl (st.1, st.2.1)))

noncomputable def holes_Length_L3 : Nat → (((List ByteArray) × Bool × List Pat) × Int × (List Pat) × Int × Int) → Option ((((List ByteArray) × Bool × List Pat) × Int) ⊕ Empty)
  | 0, _ => none
  | n + 1, st => holes_Length_L3_B (holes_Length_L3 n) st

noncomputable def holes_Length_L3_f (st : ((List ByteArray) × Bool × List Pat) × Int × (List Pat) × Int × Int) : Option ((((List ByteArray) × Bool × List Pat) × Int) ⊕ Empty) := holes_Length_L3 (List.length st.1.1 + List.length st.1.2.2 + Int.natAbs st.2.1 + List.length st.2.2.1 + Int.natAbs st.2.2.2.1 + Int.natAbs st.2.2.2.2 + 1000) st

/-- A round of the loop 8 of stockyard/holes.Length. -/
noncomputable def holes_Length_L8_B (rec : (((List ByteArray) × Bool × List Pat) × Int × Int) → Option (Unit ⊕ ((Int × Bool) ⊕ Empty))) (st : ((List ByteArray) × Bool × List Pat) × Int × Int) : Option (Unit ⊕ ((Int × Bool) ⊕ Empty)) :=
  brK (decide ((st.2.2 : Int) ≤ (IntKind.wrap .i64 (st.2.1 + 1))))
  (bindK (holes_Long ((st.1.1, st.1.2.1), st.2.2)) fun r5 =>
  brK r5
  (bindK (slices_ContainsFunc__holes_Length_1 (st.1.2.2, st.1, st.2.2)) fun r6 =>
  brK (!r6)
  (some (.inr (.inl (st.2.2, true))))
  (rec (st.1, st.2.1, (IntKind.wrap .i64 (st.2.2 + 1)))))
  (rec (st.1, st.2.1, (IntKind.wrap .i64 (st.2.2 + 1)))))
  (some (.inl ()))

noncomputable def holes_Length_L8 : Nat → (((List ByteArray) × Bool × List Pat) × Int × Int) → Option (Unit ⊕ ((Int × Bool) ⊕ Empty))
  | 0, _ => none
  | n + 1, st => holes_Length_L8_B (holes_Length_L8 n) st

noncomputable def holes_Length_L8_f (st : ((List ByteArray) × Bool × List Pat) × Int × Int) : Option (Unit ⊕ ((Int × Bool) ⊕ Empty)) := holes_Length_L8 (List.length st.1.1 + List.length st.1.2.2 + Int.natAbs st.2.1 + Int.natAbs st.2.2 + 1000) st

/-- stockyard/holes.Length. -/
noncomputable def holes_Length (x : Reg) : Option (Int × Bool) :=
  bindK (holes_Length_L3_f ((x.1.1, x.1.2, x.2), (x.1.1.length : Int), x.2, (x.2.length : Int), 0)) fun o1001 =>
  sumK o1001 (fun y1002 =>
  bindK (holes_Length_L8_f (y1002.1, y1002.2, (y1002.1.1.length : Int))) fun o1004 =>
  sumK o1004 (fun y1005 =>
  some (0, false))
  (fun z1006 => sumK z1006 (fun y1007 =>
  some y1007)
  (fun z1008 => emptyK z1008)))
  (fun z1003 => emptyK z1003)

noncomputable def holes_Length_sp : FSpec := ⟨30, (.agg (.prod (.prod (.list .str) .bool) (.list (.prod (.list .str) .bool)))), (.tup (.pair (.int .i64) .bool)), holes_Length⟩
noncomputable def holes_Length_lo : List FSpec := [holes_Long_sp, slices_ContainsFunc__holes_Length_1_sp]
noncomputable def holes_Length_L3_e : LEnt := ⟨3, ⟨50, 1, [1, 4, 14, 15, 16], (.pair (.box 0 (.pair (.list .str) (.pair .bool (.list (.prod (.list .str) .bool))))) (.pair (.int .i64) (.pair (.list (.prod (.list .str) .bool)) (.pair (.int .i64) (.int .i64)))))⟩, [((.exit 0), ⟨50, 1, [1, 4], (.pair (.box 0 (.pair (.list .str) (.pair .bool (.list (.prod (.list .str) .bool))))) (.int .i64))⟩)], holes_Length_L3_f⟩
noncomputable def holes_Length_L8_e : LEnt := ⟨8, ⟨50, 2, [1, 4, 7], (.pair (.box 0 (.pair (.list .str) (.pair .bool (.list (.prod (.list .str) .bool))))) (.pair (.int .i64) (.box 1 (.int .i64))))⟩, [((.exit 2), ⟨50, 0, [], .nil⟩), (.ret, ⟨50, 0, [2, 3], (.pair (.int .i64) .bool)⟩)], holes_Length_L8_f⟩
noncomputable def holes_Length_ll : List LEnt := [holes_Length_L3_e, holes_Length_L8_e]
theorem holes_Length_ook : OOK Tryd.prog tG (otab holes_Length_lo) := ook_of (l := holes_Length_lo) (by
    intro sp hsp
    simp only [holes_Length_lo, List.mem_cons, List.not_mem_nil, or_false] at hsp
    rcases hsp with rfl | rfl
    · exact holes_Long_ok
    · exact slices_ContainsFunc__holes_Length_1_ok)
noncomputable def holes_Length_c : Code := (Tryd.f30.body).getD .skip
theorem holes_Length_L8_B_eq (n : Nat) (st : holes_Length_L8_e.head.shape.den) : holes_Length_L8 (n + 1) st = aexecK tT (otabK holes_Length_lo) noX (itabK tT []) (ltabK holes_Length_ll) (((loops holes_Length_c)[1]?).getD .skip) (holes_Length_L8_e.head.enc st) (lres holes_Length_L8_e.head holes_Length_L8_e.exits (holes_Length_L8 n)) := by kernel_rfl
theorem holes_Length_L8_lok : LOK Tryd.prog tG (ltab holes_Length_ll) (((loops holes_Length_c)[1]?).getD .skip) :=
  lok_of tT_ok holes_Length_ook (iok_of tT_ok tP_mixed (l := []) (fun _ h => nomatch h)) tP_mixed (loopsOK_of (by
    have e : loops (((loops holes_Length_c)[1]?).getD .skip) = [] := by kernel_rfl
    rw [e]
    intro a ha
    cases ha)) holes_Length_L8_e (F := holes_Length_L8) (fun st => List.length st.1.1 + List.length st.1.2.2 + Int.natAbs st.2.1 + Int.natAbs st.2.2 + 1000) (fun s => by kernel_rfl) (fun st => by kernel_rfl) (fun st => by kernel_rfl) (fun n st => (holes_Length_L8_B_eq n st).trans (loopF_eq tT holes_Length_lo noX [] holes_Length_ll (((loops holes_Length_c)[1]?).getD .skip) holes_Length_L8_e.head holes_Length_L8_e.exits (holes_Length_L8 n) st).symm)
theorem holes_Length_L3_B_eq (n : Nat) (st : holes_Length_L3_e.head.shape.den) : holes_Length_L3 (n + 1) st = aexecK tT (otabK holes_Length_lo) noX (itabK tT []) (ltabK holes_Length_ll) (((loops holes_Length_c)[0]?).getD .skip) (holes_Length_L3_e.head.enc st) (lres holes_Length_L3_e.head holes_Length_L3_e.exits (holes_Length_L3 n)) := by kernel_rfl
theorem holes_Length_L3_lok : LOK Tryd.prog tG (ltab holes_Length_ll) (((loops holes_Length_c)[0]?).getD .skip) :=
  lok_of tT_ok holes_Length_ook (iok_of tT_ok tP_mixed (l := []) (fun _ h => nomatch h)) tP_mixed (loopsOK_of (by
    have e : loops (((loops holes_Length_c)[0]?).getD .skip) = [] := by kernel_rfl
    rw [e]
    intro a ha
    cases ha)) holes_Length_L3_e (F := holes_Length_L3) (fun st => List.length st.1.1 + List.length st.1.2.2 + Int.natAbs st.2.1 + List.length st.2.2.1 + Int.natAbs st.2.2.2.1 + Int.natAbs st.2.2.2.2 + 1000) (fun s => by kernel_rfl) (fun st => by kernel_rfl) (fun st => by kernel_rfl) (fun n st => (holes_Length_L3_B_eq n st).trans (loopF_eq tT holes_Length_lo noX [] holes_Length_ll (((loops holes_Length_c)[0]?).getD .skip) holes_Length_L3_e.head holes_Length_L3_e.exits (holes_Length_L3 n) st).symm)
theorem holes_Length_h (x : holes_Length_sp.arg.den) : holes_Length_sp.f x = bodyF tT (otab holes_Length_lo) noX (itab tT []) (ltab holes_Length_ll) Tryd.f30 holes_Length_sp.arg holes_Length_sp.res x := by
  rw [bodyF_eq]
  kernel_rfl
theorem holes_Length_ok : SpecOK Tryd.prog tG holes_Length_sp :=
  spec_of_body (c := holes_Length_c) tT_ok holes_Length_ook (iok_of tT_ok tP_mixed (l := []) (fun _ h => nomatch h)) tP_mixed (fn := Tryd.f30) Tryd.func30 (by kernel_rfl) (by kernel_rfl) (loopsOK_of (by
    have e : loops holes_Length_c = [((loops holes_Length_c)[0]?).getD .skip, ((loops holes_Length_c)[1]?).getD .skip] := by kernel_rfl
    rw [e]
    intro a ha
    simp only [List.mem_cons, List.not_mem_nil, or_false] at ha
    rcases ha with rfl | rfl
    · exact holes_Length_L3_lok
    · exact holes_Length_L8_lok)) (fun x => enc_closed x (by kernel_rfl)) (by kernel_rfl) (by kernel_rfl) holes_Length_h

/-- A round of the loop 2 of stockyard/region.least$1. -/
noncomputable def region_least_1_L2_B (rec : (ByteArray × ((List ByteArray) × Bool × List Pat) × Int × Int × Int × (List Pat) × Int × Int) → Option (Unit ⊕ (Bool ⊕ Empty))) (st : ByteArray × ((List ByteArray) × Bool × List Pat) × Int × Int × Int × (List Pat) × Int × Int) : Option (Unit ⊕ (Bool ⊕ Empty)) :=
  brK (decide ((st.2.2.2.2.2.2.2 : Int) < st.2.2.2.2.2.2.1))
  (bindK (listAt st.2.2.2.2.2.1 st.2.2.2.2.2.2.2) fun e1 =>
  brK (decide (st.2.2.2.2.2.2.2 < 0))
  (none)
  (brK (decide (((IntKind.wrap .u64 (BitVec.ofInt (IntKind.bits .u64) (Int.fdiv st.2.2.1 (2 ^ (min (Int.toNat st.2.2.2.2.2.2.2) (IntKind.bits .u64)))) &&& BitVec.ofInt (IntKind.bits .u64) 1).toNat) : Int) = 1))
  (bindK (holes_Covers (e1, (st.2.1.1, st.2.1.2.1), st.2.2.2.1, (IntKind.wrap .i64 (st.2.2.2.2.1 + 1)))) fun r2 =>
  brK r2
  (bindK (holes_Part (e1, st.2.2.2.2.1)) fun r3 =>
  bindK (holes_Inside (st.1, r3)) fun r4 =>
  brK r4
  (some (.inr (.inl false)))
  (rec (st.1, st.2.1, st.2.2.1, st.2.2.2.1, st.2.2.2.2.1, st.2.2.2.2.2.1, st.2.2.2.2.2.2.1, (IntKind.wrap .i64 (st.2.2.2.2.2.2.2 + 1)))))
  (rec (st.1, st.2.1, st.2.2.1, st.2.2.2.1, st.2.2.2.2.1, st.2.2.2.2.2.1, st.2.2.2.2.2.2.1, (IntKind.wrap .i64 (st.2.2.2.2.2.2.2 + 1)))))
  (rec (st.1, st.2.1, st.2.2.1, st.2.2.2.1, st.2.2.2.2.1, st.2.2.2.2.2.1, st.2.2.2.2.2.2.1, (IntKind.wrap .i64 (st.2.2.2.2.2.2.2 + 1))))))
  (some (.inl ()))

noncomputable def region_least_1_L2 : Nat → (ByteArray × ((List ByteArray) × Bool × List Pat) × Int × Int × Int × (List Pat) × Int × Int) → Option (Unit ⊕ (Bool ⊕ Empty))
  | 0, _ => none
  | n + 1, st => region_least_1_L2_B (region_least_1_L2 n) st

noncomputable def region_least_1_L2_f (st : ByteArray × ((List ByteArray) × Bool × List Pat) × Int × Int × Int × (List Pat) × Int × Int) : Option (Unit ⊕ (Bool ⊕ Empty)) := region_least_1_L2 (ByteArray.size st.1 + List.length st.2.1.1 + List.length st.2.1.2.2 + Int.natAbs st.2.2.1 + Int.natAbs st.2.2.2.1 + Int.natAbs st.2.2.2.2.1 + List.length st.2.2.2.2.2.1 + Int.natAbs st.2.2.2.2.2.2.1 + Int.natAbs st.2.2.2.2.2.2.2 + 1000) st

/-- stockyard/region.least$1. -/
noncomputable def region_least_1 (x : ByteArray × ((List ByteArray) × Bool × List Pat) × Int × Int × Int) : Option Bool :=
  bindK (region_least_1_L2_f (x.1, x.2.1, x.2.2.1, x.2.2.2.1, x.2.2.2.2, x.2.1.2.2, (x.2.1.2.2.length : Int), 0)) fun o1001 =>
  sumK o1001 (fun y1002 =>
  some true)
  (fun z1003 => sumK z1003 (fun y1004 =>
  some y1004)
  (fun z1005 => emptyK z1005))

noncomputable def region_least_1_sp : FSpec := ⟨58, (.pair .str (.pair (.ptr (.pair (.list .str) (.pair .bool (.list (.prod (.list .str) .bool))))) (.pair (.ptr (.int .u64)) (.pair (.ptr (.int .i64)) (.ptr (.int .i64)))))), .bool, region_least_1⟩
noncomputable def region_least_1_lo : List FSpec := [holes_Covers_sp, holes_Part_sp, holes_Inside_sp]
noncomputable def region_least_1_L2_e : LEnt := ⟨2, ⟨39, 0, [0, 1, 2, 3, 4, 10, 11, 12], (.pair .str (.pair (.ptr (.pair (.list .str) (.pair .bool (.list (.prod (.list .str) .bool))))) (.pair (.ptr (.int .u64)) (.pair (.ptr (.int .i64)) (.pair (.ptr (.int .i64)) (.pair (.list (.prod (.list .str) .bool)) (.pair (.int .i64) (.int .i64))))))))⟩, [((.exit 0), ⟨39, 0, [], .nil⟩), (.ret, ⟨39, 0, [6], .bool⟩)], region_least_1_L2_f⟩
noncomputable def region_least_1_ll : List LEnt := [region_least_1_L2_e]
theorem region_least_1_ook : OOK Tryd.prog tG (otab region_least_1_lo) := ook_of (l := region_least_1_lo) (by
    intro sp hsp
    simp only [region_least_1_lo, List.mem_cons, List.not_mem_nil, or_false] at hsp
    rcases hsp with rfl | rfl | rfl
    · exact holes_Covers_ok
    · exact holes_Part_ok
    · exact holes_Inside_ok)
noncomputable def region_least_1_c : Code := (Tryd.f58.body).getD .skip
theorem region_least_1_L2_B_eq (n : Nat) (st : region_least_1_L2_e.head.shape.den) : region_least_1_L2 (n + 1) st = aexecK tT (otabK region_least_1_lo) noX (itabK tT []) (ltabK region_least_1_ll) (((loops region_least_1_c)[0]?).getD .skip) (region_least_1_L2_e.head.enc st) (lres region_least_1_L2_e.head region_least_1_L2_e.exits (region_least_1_L2 n)) := by kernel_rfl
theorem region_least_1_L2_lok : LOK Tryd.prog tG (ltab region_least_1_ll) (((loops region_least_1_c)[0]?).getD .skip) :=
  lok_of tT_ok region_least_1_ook (iok_of tT_ok tP_mixed (l := []) (fun _ h => nomatch h)) tP_mixed (loopsOK_of (by
    have e : loops (((loops region_least_1_c)[0]?).getD .skip) = [] := by kernel_rfl
    rw [e]
    intro a ha
    cases ha)) region_least_1_L2_e (F := region_least_1_L2) (fun st => ByteArray.size st.1 + List.length st.2.1.1 + List.length st.2.1.2.2 + Int.natAbs st.2.2.1 + Int.natAbs st.2.2.2.1 + Int.natAbs st.2.2.2.2.1 + List.length st.2.2.2.2.2.1 + Int.natAbs st.2.2.2.2.2.2.1 + Int.natAbs st.2.2.2.2.2.2.2 + 1000) (fun s => by kernel_rfl) (fun st => by kernel_rfl) (fun st => by kernel_rfl) (fun n st => (region_least_1_L2_B_eq n st).trans (loopF_eq tT region_least_1_lo noX [] region_least_1_ll (((loops region_least_1_c)[0]?).getD .skip) region_least_1_L2_e.head region_least_1_L2_e.exits (region_least_1_L2 n) st).symm)
theorem region_least_1_h (x : region_least_1_sp.arg.den) : region_least_1_sp.f x = bodyF tT (otab region_least_1_lo) noX (itab tT []) (ltab region_least_1_ll) Tryd.f58 region_least_1_sp.arg region_least_1_sp.res x := by
  rw [bodyF_eq]
  kernel_rfl
theorem region_least_1_ok : SpecOK Tryd.prog tG region_least_1_sp :=
  spec_of_body (c := region_least_1_c) tT_ok region_least_1_ook (iok_of tT_ok tP_mixed (l := []) (fun _ h => nomatch h)) tP_mixed (fn := Tryd.f58) Tryd.func58 (by kernel_rfl) (by kernel_rfl) (loopsOK_of (by
    have e : loops region_least_1_c = [((loops region_least_1_c)[0]?).getD .skip] := by kernel_rfl
    rw [e]
    intro a ha
    simp only [List.mem_cons, List.not_mem_nil, or_false] at ha
    rcases ha with rfl
    · exact region_least_1_L2_lok)) (fun x => enc_closed x (by kernel_rfl)) (by kernel_rfl) (by kernel_rfl) region_least_1_h

/-- A round of the loop 7 of stockyard/region.least. -/
noncomputable def region_least_L7_B (rec : ((((List ByteArray) × Bool × List Pat) × Int × Int × Int) × ByteArray × Int) → Option (Unit ⊕ ((ByteArray × Bool) ⊕ Empty))) (st : (((List ByteArray) × Bool × List Pat) × Int × Int × Int) × ByteArray × Int) : Option (Unit ⊕ ((ByteArray × Bool) ⊕ Empty)) :=
  brK (decide ((st.2.2 : Int) < 65))
  (brK (decide (0 ≤ (st.2.2 : Int) ∧ (st.2.2 : Int) ≤ (IntKind.wrap .i64 (st.2.2 + 1)) ∧ (IntKind.wrap .i64 (st.2.2 + 1)) ≤ ((ByteArray.mk #[43, 45, 48, 49, 50, 51, 52, 53, 54, 55, 56, 57, 65, 66, 67, 68, 69, 70, 71, 72, 73, 74, 75, 76, 77, 78, 79, 80, 81, 82, 83, 84, 85, 86, 87, 88, 89, 90, 95, 97, 98, 99, 100, 101, 102, 103, 104, 105, 106, 107, 108, 109, 110, 111, 112, 113, 114, 115, 116, 117, 118, 119, 120, 121, 122]).size : Int)))
  (brK (decide (ByteArray.size (ByteArray.extract (ByteArray.mk #[43, 45, 48, 49, 50, 51, 52, 53, 54, 55, 56, 57, 65, 66, 67, 68, 69, 70, 71, 72, 73, 74, 75, 76, 77, 78, 79, 80, 81, 82, 83, 84, 85, 86, 87, 88, 89, 90, 95, 97, 98, 99, 100, 101, 102, 103, 104, 105, 106, 107, 108, 109, 110, 111, 112, 113, 114, 115, 116, 117, 118, 119, 120, 121, 122]) (Int.toNat st.2.2) (Int.toNat (IntKind.wrap .i64 (st.2.2 + 1)))) + ByteArray.size st.2.1 ≤ 140737488355328))
  (bindK (region_least_1 (((ByteArray.extract (ByteArray.mk #[43, 45, 48, 49, 50, 51, 52, 53, 54, 55, 56, 57, 65, 66, 67, 68, 69, 70, 71, 72, 73, 74, 75, 76, 77, 78, 79, 80, 81, 82, 83, 84, 85, 86, 87, 88, 89, 90, 95, 97, 98, 99, 100, 101, 102, 103, 104, 105, 106, 107, 108, 109, 110, 111, 112, 113, 114, 115, 116, 117, 118, 119, 120, 121, 122]) (Int.toNat st.2.2) (Int.toNat (IntKind.wrap .i64 (st.2.2 + 1)))) ++ st.2.1), st.1)) fun r4 =>
  brK r4
  (some (.inr (.inl (((ByteArray.extract (ByteArray.mk #[43, 45, 48, 49, 50, 51, 52, 53, 54, 55, 56, 57, 65, 66, 67, 68, 69, 70, 71, 72, 73, 74, 75, 76, 77, 78, 79, 80, 81, 82, 83, 84, 85, 86, 87, 88, 89, 90, 95, 97, 98, 99, 100, 101, 102, 103, 104, 105, 106, 107, 108, 109, 110, 111, 112, 113, 114, 115, 116, 117, 118, 119, 120, 121, 122]) (Int.toNat st.2.2) (Int.toNat (IntKind.wrap .i64 (st.2.2 + 1)))) ++ st.2.1), true))))
  (rec (st.1, st.2.1, (IntKind.wrap .i64 (st.2.2 + 1)))))
  (none))
  (none))
  (some (.inl ()))

noncomputable def region_least_L7 : Nat → ((((List ByteArray) × Bool × List Pat) × Int × Int × Int) × ByteArray × Int) → Option (Unit ⊕ ((ByteArray × Bool) ⊕ Empty))
  | 0, _ => none
  | n + 1, st => region_least_L7_B (region_least_L7 n) st

noncomputable def region_least_L7_f (st : (((List ByteArray) × Bool × List Pat) × Int × Int × Int) × ByteArray × Int) : Option (Unit ⊕ ((ByteArray × Bool) ⊕ Empty)) := region_least_L7 (List.length st.1.1.1 + List.length st.1.1.2.2 + Int.natAbs st.1.2.1 + Int.natAbs st.1.2.2.1 + Int.natAbs st.1.2.2.2 + ByteArray.size st.2.1 + Int.natAbs st.2.2 + 1000) st

/-- stockyard/region.least. -/
noncomputable def region_least (x : Reg × Int × Int × Int) : Option (ByteArray × Bool) :=
  bindK (holes_Part (x.1.1, x.2.2.1)) fun r1001 =>
  bindK (strings_CutPrefix (r1001, (ByteArray.mk #[42]))) fun r1002 =>
  brK (!r1002.2)
  (bindK (region_least_1 (r1001, (x.1.1.1, x.1.1.2, x.1.2), x.2.2.2, x.2.1, x.2.2.1)) fun r1003 =>
  some (r1001, r1003))
  (bindK (region_least_L7_f (((x.1.1.1, x.1.1.2, x.1.2), x.2.2.2, x.2.1, x.2.2.1), r1002.1, 0)) fun o1004 =>
  sumK o1004 (fun y1005 =>
  some ((ByteArray.mk #[]), false))
  (fun z1006 => sumK z1006 (fun y1007 =>
  some y1007)
  (fun z1008 => emptyK z1008)))

noncomputable def region_least_sp : FSpec := ⟨32, (.pair (.agg (.prod (.prod (.list .str) .bool) (.list (.prod (.list .str) .bool)))) (.pair (.int .i64) (.pair (.int .i64) (.int .u64)))), (.tup (.pair .str .bool)), region_least⟩
noncomputable def region_least_lo : List FSpec := [holes_Part_sp, strings_CutPrefix_sp, region_least_1_sp]
noncomputable def region_least_L7_e : LEnt := ⟨7, ⟨46, 4, [10, 12, 32], (.pair (.fn 58 (.pair (.box 0 (.pair (.list .str) (.pair .bool (.list (.prod (.list .str) .bool))))) (.pair (.box 1 (.int .u64)) (.pair (.box 2 (.int .i64)) (.box 3 (.int .i64)))))) (.pair .str (.int .i64)))⟩, [((.exit 0), ⟨46, 0, [], .nil⟩), (.ret, ⟨46, 0, [8, 9], (.pair .str .bool)⟩)], region_least_L7_f⟩
noncomputable def region_least_ll : List LEnt := [region_least_L7_e]
theorem region_least_ook : OOK Tryd.prog tG (otab region_least_lo) := ook_of (l := region_least_lo) (by
    intro sp hsp
    simp only [region_least_lo, List.mem_cons, List.not_mem_nil, or_false] at hsp
    rcases hsp with rfl | rfl | rfl
    · exact holes_Part_ok
    · exact strings_CutPrefix_ok
    · exact region_least_1_ok)
noncomputable def region_least_c : Code := (Tryd.f32.body).getD .skip
theorem region_least_L7_B_eq (n : Nat) (st : region_least_L7_e.head.shape.den) : region_least_L7 (n + 1) st = aexecK tT (otabK region_least_lo) noX (itabK tT []) (ltabK region_least_ll) (((loops region_least_c)[0]?).getD .skip) (region_least_L7_e.head.enc st) (lres region_least_L7_e.head region_least_L7_e.exits (region_least_L7 n)) := by kernel_rfl
theorem region_least_L7_lok : LOK Tryd.prog tG (ltab region_least_ll) (((loops region_least_c)[0]?).getD .skip) :=
  lok_of tT_ok region_least_ook (iok_of tT_ok tP_mixed (l := []) (fun _ h => nomatch h)) tP_mixed (loopsOK_of (by
    have e : loops (((loops region_least_c)[0]?).getD .skip) = [] := by kernel_rfl
    rw [e]
    intro a ha
    cases ha)) region_least_L7_e (F := region_least_L7) (fun st => List.length st.1.1.1 + List.length st.1.1.2.2 + Int.natAbs st.1.2.1 + Int.natAbs st.1.2.2.1 + Int.natAbs st.1.2.2.2 + ByteArray.size st.2.1 + Int.natAbs st.2.2 + 1000) (fun s => by kernel_rfl) (fun st => by kernel_rfl) (fun st => by kernel_rfl) (fun n st => (region_least_L7_B_eq n st).trans (loopF_eq tT region_least_lo noX [] region_least_ll (((loops region_least_c)[0]?).getD .skip) region_least_L7_e.head region_least_L7_e.exits (region_least_L7 n) st).symm)
theorem region_least_h (x : region_least_sp.arg.den) : region_least_sp.f x = bodyF tT (otab region_least_lo) noX (itab tT []) (ltab region_least_ll) Tryd.f32 region_least_sp.arg region_least_sp.res x := by
  rw [bodyF_eq]
  kernel_rfl
theorem region_least_ok : SpecOK Tryd.prog tG region_least_sp :=
  spec_of_body (c := region_least_c) tT_ok region_least_ook (iok_of tT_ok tP_mixed (l := []) (fun _ h => nomatch h)) tP_mixed (fn := Tryd.f32) Tryd.func32 (by kernel_rfl) (by kernel_rfl) (loopsOK_of (by
    have e : loops region_least_c = [((loops region_least_c)[0]?).getD .skip] := by kernel_rfl
    rw [e]
    intro a ha
    simp only [List.mem_cons, List.not_mem_nil, or_false] at ha
    rcases ha with rfl
    · exact region_least_L7_lok)) (fun x => enc_closed x (by kernel_rfl)) (by kernel_rfl) (by kernel_rfl) region_least_h


/-- strings.Join. -/
noncomputable def strings_Join (x : (List ByteArray) × ByteArray) : Option ByteArray :=
  joinF x.1 x.2
noncomputable def strings_Join_sp : FSpec := ⟨29, (.pair (.list .str) .str), .str, strings_Join⟩
theorem strings_Join_ok : SpecOK Tryd.prog tG strings_Join_sp := spec_join (callFunc_enter Tryd.func29 (by kernel_rfl) (by kernel_rfl)) Tryd.strings_Join_none Tryd.strings_Join

/-- A round of the loop 4 of stockyard/path.Join. -/
noncomputable def path_Join_L4_B (rec : ((List ByteArray) × (List ByteArray) × Int × Int) → Option ((List ByteArray) ⊕ ((ByteArray × Int) ⊕ Empty))) (st : (List ByteArray) × (List ByteArray) × Int × Int) : Option ((List ByteArray) ⊕ ((ByteArray × Int) ⊕ Empty)) :=
  brK (decide ((st.2.2.2 : Int) < st.2.2.1))
  (bindK (listAt st.2.1 st.2.2.2) fun e1 =>
  bindK (path_Component e1) fun r2 =>
  brK (!r2)
  (some (.inr (.inl ((ByteArray.mk #[]), 21))))
  (rec (st.1, st.2.1, st.2.2.1, (IntKind.wrap .i64 (st.2.2.2 + 1)))))
  (some (.inl st.1))

noncomputable def path_Join_L4 : Nat → ((List ByteArray) × (List ByteArray) × Int × Int) → Option ((List ByteArray) ⊕ ((ByteArray × Int) ⊕ Empty))
  | 0, _ => none
  | n + 1, st => path_Join_L4_B (path_Join_L4 n) st

noncomputable def path_Join_L4_f (st : (List ByteArray) × (List ByteArray) × Int × Int) : Option ((List ByteArray) ⊕ ((ByteArray × Int) ⊕ Empty)) := path_Join_L4 (List.length st.1 + List.length st.2.1 + Int.natAbs st.2.2.1 + Int.natAbs st.2.2.2 + 1000) st

/-- stockyard/path.Join. -/
noncomputable def path_Join (x : List ByteArray) : Option (ByteArray × Int) :=
  brK (decide (((x.length : Int) : Int) < 2))
  (some ((ByteArray.mk #[]), 21))
  (bindK (path_Join_L4_f (x, x, (x.length : Int), 0)) fun o1001 =>
  sumK o1001 (fun y1002 =>
  bindK (strings_Join (y1002, (ByteArray.mk #[47]))) fun r1004 =>
  brK (decide (ByteArray.size (ByteArray.mk #[47, 47]) + ByteArray.size r1004 ≤ 140737488355328))
  (some (((ByteArray.mk #[47, 47]) ++ r1004), 0))
  (none))
  (fun z1003 => sumK z1003 (fun y1005 =>
  some y1005)
  (fun z1006 => emptyK z1006)))

noncomputable def path_Join_sp : FSpec := ⟨35, (.list .str), (.tup (.pair .str (.int .i64))), path_Join⟩
noncomputable def path_Join_lo : List FSpec := [path_Component_sp, strings_Join_sp]
noncomputable def path_Join_L4_e : LEnt := ⟨4, ⟨22, 0, [0, 9, 10, 11], (.pair (.list .str) (.pair (.list .str) (.pair (.int .i64) (.int .i64))))⟩, [((.exit 0), ⟨22, 0, [0], (.list .str)⟩), (.ret, ⟨22, 0, [2, 3], (.pair .str (.int .i64))⟩)], path_Join_L4_f⟩
noncomputable def path_Join_ll : List LEnt := [path_Join_L4_e]
theorem path_Join_ook : OOK Tryd.prog tG (otab path_Join_lo) := ook_of (l := path_Join_lo) (by
    intro sp hsp
    simp only [path_Join_lo, List.mem_cons, List.not_mem_nil, or_false] at hsp
    rcases hsp with rfl | rfl
    · exact path_Component_ok
    · exact strings_Join_ok)
noncomputable def path_Join_c : Code := (Tryd.f35.body).getD .skip
theorem path_Join_L4_B_eq (n : Nat) (st : path_Join_L4_e.head.shape.den) : path_Join_L4 (n + 1) st = aexecK tT (otabK path_Join_lo) noX (itabK tT []) (ltabK path_Join_ll) (((loops path_Join_c)[0]?).getD .skip) (path_Join_L4_e.head.enc st) (lres path_Join_L4_e.head path_Join_L4_e.exits (path_Join_L4 n)) := by kernel_rfl
theorem path_Join_L4_lok : LOK Tryd.prog tG (ltab path_Join_ll) (((loops path_Join_c)[0]?).getD .skip) :=
  lok_of tT_ok path_Join_ook (iok_of tT_ok tP_mixed (l := []) (fun _ h => nomatch h)) tP_mixed (loopsOK_of (by
    have e : loops (((loops path_Join_c)[0]?).getD .skip) = [] := by kernel_rfl
    rw [e]
    intro a ha
    cases ha)) path_Join_L4_e (F := path_Join_L4) (fun st => List.length st.1 + List.length st.2.1 + Int.natAbs st.2.2.1 + Int.natAbs st.2.2.2 + 1000) (fun s => by kernel_rfl) (fun st => by kernel_rfl) (fun st => by kernel_rfl) (fun n st => (path_Join_L4_B_eq n st).trans (loopF_eq tT path_Join_lo noX [] path_Join_ll (((loops path_Join_c)[0]?).getD .skip) path_Join_L4_e.head path_Join_L4_e.exits (path_Join_L4 n) st).symm)
theorem path_Join_h (x : path_Join_sp.arg.den) : path_Join_sp.f x = bodyF tT (otab path_Join_lo) noX (itab tT []) (ltab path_Join_ll) Tryd.f35 path_Join_sp.arg path_Join_sp.res x := by
  rw [bodyF_eq]
  kernel_rfl
theorem path_Join_ok : SpecOK Tryd.prog tG path_Join_sp :=
  spec_of_body (c := path_Join_c) tT_ok path_Join_ook (iok_of tT_ok tP_mixed (l := []) (fun _ h => nomatch h)) tP_mixed (fn := Tryd.f35) Tryd.func35 (by kernel_rfl) (by kernel_rfl) (loopsOK_of (by
    have e : loops path_Join_c = [((loops path_Join_c)[0]?).getD .skip] := by kernel_rfl
    rw [e]
    intro a ha
    simp only [List.mem_cons, List.not_mem_nil, or_false] at ha
    rcases ha with rfl
    · exact path_Join_L4_lok)) (fun x => enc_closed x (by kernel_rfl)) (by kernel_rfl) (by kernel_rfl) path_Join_h

/-- A round of the loop 9 of stockyard/region.Least. -/
noncomputable def region_Least_L9_B (rec : (((List ByteArray) × Bool × List Pat) × Int × Int × (List Pat) × Int × Int) → Option ((((List ByteArray) × Bool × List Pat) × Int × Int) ⊕ Empty)) (st : ((List ByteArray) × Bool × List Pat) × Int × Int × (List Pat) × Int × Int) : Option ((((List ByteArray) × Bool × List Pat) × Int × Int) ⊕ Empty) :=
  brK (decide ((st.2.2.2.2.2 : Int) < st.2.2.2.2.1))
  (bindK (listAt st.2.2.2.1 st.2.2.2.2.2) fun e3 =>
  bindK (holes_Long (e3, st.2.1)) fun r4 =>
  brK r4
  (brK (decide (st.2.2.2.2.2 < 0))
  (none)
  (rec (st.1, st.2.1, (IntKind.wrap .u64 (BitVec.ofInt (IntKind.bits .u64) st.2.2.1 ||| BitVec.ofInt (IntKind.bits .u64) (IntKind.wrap .u64 (1 * 2 ^ (min (Int.toNat st.2.2.2.2.2) (IntKind.bits .u64))))).toNat), st.2.2.2.1, st.2.2.2.2.1, (IntKind.wrap .i64 (st.2.2.2.2.2 + 1)))))
  (rec (st.1, st.2.1, st.2.2.1, st.2.2.2.1, st.2.2.2.2.1, (IntKind.wrap .i64 (st.2.2.2.2.2 + 1)))))
  (some (.inl (st.1, st.2.1, st.2.2.1)))

noncomputable def region_Least_L9 : Nat → (((List ByteArray) × Bool × List Pat) × Int × Int × (List Pat) × Int × Int) → Option ((((List ByteArray) × Bool × List Pat) × Int × Int) ⊕ Empty)
  | 0, _ => none
  | n + 1, st => region_Least_L9_B (region_Least_L9 n) st

noncomputable def region_Least_L9_f (st : ((List ByteArray) × Bool × List Pat) × Int × Int × (List Pat) × Int × Int) : Option ((((List ByteArray) × Bool × List Pat) × Int × Int) ⊕ Empty) := region_Least_L9 (List.length st.1.1 + List.length st.1.2.2 + Int.natAbs st.2.1 + Int.natAbs st.2.2.1 + List.length st.2.2.2.1 + Int.natAbs st.2.2.2.2.1 + Int.natAbs st.2.2.2.2.2 + 1000) st

/-- A round of the loop 23 of stockyard/region.Least. -/
noncomputable def region_Least_L23_B (rec : (((List ByteArray) × Bool × List Pat) × Int × Int × (List ByteArray) × Int × ByteArray × Int × Int × (List Pat) × Int × Int) → Option ((((List ByteArray) × Bool × List Pat) × Int × Int × (List ByteArray) × Int × Int) ⊕ Empty)) (st : ((List ByteArray) × Bool × List Pat) × Int × Int × (List ByteArray) × Int × ByteArray × Int × Int × (List Pat) × Int × Int) : Option ((((List ByteArray) × Bool × List Pat) × Int × Int × (List ByteArray) × Int × Int) ⊕ Empty) :=
  brK (decide ((st.2.2.2.2.2.2.2.2.2.2 : Int) < st.2.2.2.2.2.2.2.2.2.1))
  (bindK (listAt st.2.2.2.2.2.2.2.2.1 st.2.2.2.2.2.2.2.2.2.2) fun e9 =>
  bindK (holes_Part (e9, st.2.2.2.2.1)) fun r10 =>
  bindK (holes_Inside (st.2.2.2.2.2.1, r10)) fun r11 =>
  brK (!r11)
  (brK (decide (st.2.2.2.2.2.2.2.2.2.2 < 0))
  (none)
  (rec (st.1, st.2.1, (IntKind.wrap .u64 (BitVec.ofInt (IntKind.bits .u64) st.2.2.1 &&& ~~~ BitVec.ofInt (IntKind.bits .u64) (IntKind.wrap .u64 (1 * 2 ^ (min (Int.toNat st.2.2.2.2.2.2.2.2.2.2) (IntKind.bits .u64))))).toNat), st.2.2.2.1, st.2.2.2.2.1, st.2.2.2.2.2.1, st.2.2.2.2.2.2.1, st.2.2.2.2.2.2.2.1, st.2.2.2.2.2.2.2.2.1, st.2.2.2.2.2.2.2.2.2.1, (IntKind.wrap .i64 (st.2.2.2.2.2.2.2.2.2.2 + 1)))))
  (rec (st.1, st.2.1, st.2.2.1, st.2.2.2.1, st.2.2.2.2.1, st.2.2.2.2.2.1, st.2.2.2.2.2.2.1, st.2.2.2.2.2.2.2.1, st.2.2.2.2.2.2.2.2.1, st.2.2.2.2.2.2.2.2.2.1, (IntKind.wrap .i64 (st.2.2.2.2.2.2.2.2.2.2 + 1)))))
  (some (.inl (st.1, st.2.1, st.2.2.1, st.2.2.2.1, st.2.2.2.2.2.2.1, st.2.2.2.2.2.2.2.1)))

noncomputable def region_Least_L23 : Nat → (((List ByteArray) × Bool × List Pat) × Int × Int × (List ByteArray) × Int × ByteArray × Int × Int × (List Pat) × Int × Int) → Option ((((List ByteArray) × Bool × List Pat) × Int × Int × (List ByteArray) × Int × Int) ⊕ Empty)
  | 0, _ => none
  | n + 1, st => region_Least_L23_B (region_Least_L23 n) st

noncomputable def region_Least_L23_f (st : ((List ByteArray) × Bool × List Pat) × Int × Int × (List ByteArray) × Int × ByteArray × Int × Int × (List Pat) × Int × Int) : Option ((((List ByteArray) × Bool × List Pat) × Int × Int × (List ByteArray) × Int × Int) ⊕ Empty) := region_Least_L23 (List.length st.1.1 + List.length st.1.2.2 + Int.natAbs st.2.1 + Int.natAbs st.2.2.1 + List.length st.2.2.2.1 + Int.natAbs st.2.2.2.2.1 + ByteArray.size st.2.2.2.2.2.1 + Int.natAbs st.2.2.2.2.2.2.1 + Int.natAbs st.2.2.2.2.2.2.2.1 + List.length st.2.2.2.2.2.2.2.2.1 + Int.natAbs st.2.2.2.2.2.2.2.2.2.1 + Int.natAbs st.2.2.2.2.2.2.2.2.2.2 + 1000) st

/-- A round of the loop 16 of stockyard/region.Least. -/
noncomputable def region_Least_L16_B (rec : (((List ByteArray) × Bool × List Pat) × Int × Int × (List ByteArray) × Int × Int) → Option ((List ByteArray) ⊕ ((ByteArray × Bool × Int) ⊕ Empty))) (st : ((List ByteArray) × Bool × List Pat) × Int × Int × (List ByteArray) × Int × Int) : Option ((List ByteArray) ⊕ ((ByteArray × Bool × Int) ⊕ Empty)) :=
  brK (decide ((st.2.2.2.2.2 : Int) < st.2.2.2.2.1))
  (bindK (region_least (((st.1.1, st.1.2.1), st.1.2.2), st.2.1, st.2.2.2.2.2, st.2.2.1)) fun r8 =>
  brK (!r8.2)
  (some (.inr (.inl ((ByteArray.mk #[]), false, 0))))
  (brK (fits (List.length st.2.2.2.1) (List.length ([r8.1] : List ByteArray)) 16)
  (bindK (region_Least_L23_f (st.1, st.2.1, st.2.2.1, (st.2.2.2.1 ++ ([r8.1] : List ByteArray)), st.2.2.2.2.2, r8.1, st.2.2.2.2.1, st.2.2.2.2.2, st.1.2.2, (st.1.2.2.length : Int), 0)) fun o12 =>
  sumK o12 (fun y13 =>
  rec (y13.1, y13.2.1, y13.2.2.1, y13.2.2.2.1, y13.2.2.2.2.1, (IntKind.wrap .i64 (y13.2.2.2.2.2 + 1))))
  (fun z14 => emptyK z14))
  (none)))
  (some (.inl st.2.2.2.1))

noncomputable def region_Least_L16 : Nat → (((List ByteArray) × Bool × List Pat) × Int × Int × (List ByteArray) × Int × Int) → Option ((List ByteArray) ⊕ ((ByteArray × Bool × Int) ⊕ Empty))
  | 0, _ => none
  | n + 1, st => region_Least_L16_B (region_Least_L16 n) st

noncomputable def region_Least_L16_f (st : ((List ByteArray) × Bool × List Pat) × Int × Int × (List ByteArray) × Int × Int) : Option ((List ByteArray) ⊕ ((ByteArray × Bool × Int) ⊕ Empty)) := region_Least_L16 (List.length st.1.1 + List.length st.1.2.2 + Int.natAbs st.2.1 + Int.natAbs st.2.2.1 + List.length st.2.2.2.1 + Int.natAbs st.2.2.2.2.1 + Int.natAbs st.2.2.2.2.2 + 1000) st

/-- stockyard/region.Least. -/
noncomputable def region_Least (x : Reg) : Option (ByteArray × Bool × Int) :=
  bindK (region_Check x) fun r1001 =>
  brK (decide ((r1001 : Int) ≠ 0))
  (some ((ByteArray.mk #[]), false, r1001))
  (bindK (holes_Length x) fun r1002 =>
  brK (!r1002.2)
  (some ((ByteArray.mk #[]), false, 0))
  (bindK (region_Least_L9_f ((x.1.1, x.1.2, x.2), r1002.1, 0, x.2, (x.2.length : Int), 0)) fun o1003 =>
  sumK o1003 (fun y1004 =>
  bindK (region_Least_L16_f (y1004.1, y1004.2.1, y1004.2.2, ([] : List ByteArray), y1004.2.1, 0)) fun o1006 =>
  sumK o1006 (fun y1007 =>
  bindK (path_Join y1007) fun r1009 =>
  some (r1009.1, (decide ((r1009.2 : Int) = 0)), r1009.2))
  (fun z1008 => sumK z1008 (fun y1010 =>
  some y1010)
  (fun z1011 => emptyK z1011)))
  (fun z1005 => emptyK z1005)))

noncomputable def region_Least_sp : FSpec := ⟨15, (.agg (.prod (.prod (.list .str) .bool) (.list (.prod (.list .str) .bool)))), (.tup (.pair .str (.pair .bool (.int .i64)))), region_Least⟩
noncomputable def region_Least_lo : List FSpec := [region_Check_sp, holes_Length_sp, holes_Long_sp, region_least_sp, holes_Part_sp, holes_Inside_sp, path_Join_sp]
noncomputable def region_Least_L9_e : LEnt := ⟨9, ⟨94, 1, [1, 6, 8, 32, 33, 34], (.pair (.box 0 (.pair (.list .str) (.pair .bool (.list (.prod (.list .str) .bool))))) (.pair (.int .i64) (.pair (.int .u64) (.pair (.list (.prod (.list .str) .bool)) (.pair (.int .i64) (.int .i64))))))⟩, [((.exit 0), ⟨94, 1, [1, 6, 8], (.pair (.box 0 (.pair (.list .str) (.pair .bool (.list (.prod (.list .str) .bool))))) (.pair (.int .i64) (.int .u64)))⟩)], region_Least_L9_f⟩
noncomputable def region_Least_L23_e : LEnt := ⟨23, ⟨94, 2, [1, 6, 8, 11, 12, 13, 47, 48, 66, 67, 68], (.pair (.box 0 (.pair (.list .str) (.pair .bool (.list (.prod (.list .str) .bool))))) (.pair (.int .i64) (.pair (.int .u64) (.pair (.own 1 9 .str) (.pair (.int .i64) (.pair .str (.pair (.int .i64) (.pair (.int .i64) (.pair (.list (.prod (.list .str) .bool)) (.pair (.int .i64) (.int .i64)))))))))))⟩, [((.exit 4), ⟨94, 2, [1, 6, 8, 11, 47, 48], (.pair (.box 0 (.pair (.list .str) (.pair .bool (.list (.prod (.list .str) .bool))))) (.pair (.int .i64) (.pair (.int .u64) (.pair (.own 1 9 .str) (.pair (.int .i64) (.int .i64))))))⟩)], region_Least_L23_f⟩
noncomputable def region_Least_L16_e : LEnt := ⟨16, ⟨94, 2, [1, 6, 8, 11, 47, 48], (.pair (.box 0 (.pair (.list .str) (.pair .bool (.list (.prod (.list .str) .bool))))) (.pair (.int .i64) (.pair (.int .u64) (.pair (.own 1 9 .str) (.pair (.int .i64) (.int .i64))))))⟩, [((.exit 2), ⟨94, 1, [11], (.own 0 9 .str)⟩), (.ret, ⟨94, 0, [2, 3, 4], (.pair .str (.pair .bool (.int .i64)))⟩)], region_Least_L16_f⟩
noncomputable def region_Least_ll : List LEnt := [region_Least_L9_e, region_Least_L23_e, region_Least_L16_e]
theorem region_Least_ook : OOK Tryd.prog tG (otab region_Least_lo) := ook_of (l := region_Least_lo) (by
    intro sp hsp
    simp only [region_Least_lo, List.mem_cons, List.not_mem_nil, or_false] at hsp
    rcases hsp with rfl | rfl | rfl | rfl | rfl | rfl | rfl
    · exact region_Check_ok
    · exact holes_Length_ok
    · exact holes_Long_ok
    · exact region_least_ok
    · exact holes_Part_ok
    · exact holes_Inside_ok
    · exact path_Join_ok)
noncomputable def region_Least_c : Code := (Tryd.f15.body).getD .skip
theorem region_Least_L23_B_eq (n : Nat) (st : region_Least_L23_e.head.shape.den) : region_Least_L23 (n + 1) st = aexecK tT (otabK region_Least_lo) noX (itabK tT []) (ltabK region_Least_ll) (((loops region_Least_c)[2]?).getD .skip) (region_Least_L23_e.head.enc st) (lres region_Least_L23_e.head region_Least_L23_e.exits (region_Least_L23 n)) := by kernel_rfl
theorem region_Least_L23_lok : LOK Tryd.prog tG (ltab region_Least_ll) (((loops region_Least_c)[2]?).getD .skip) :=
  lok_of tT_ok region_Least_ook (iok_of tT_ok tP_mixed (l := []) (fun _ h => nomatch h)) tP_mixed (loopsOK_of (by
    have e : loops (((loops region_Least_c)[2]?).getD .skip) = [] := by kernel_rfl
    rw [e]
    intro a ha
    cases ha)) region_Least_L23_e (F := region_Least_L23) (fun st => List.length st.1.1 + List.length st.1.2.2 + Int.natAbs st.2.1 + Int.natAbs st.2.2.1 + List.length st.2.2.2.1 + Int.natAbs st.2.2.2.2.1 + ByteArray.size st.2.2.2.2.2.1 + Int.natAbs st.2.2.2.2.2.2.1 + Int.natAbs st.2.2.2.2.2.2.2.1 + List.length st.2.2.2.2.2.2.2.2.1 + Int.natAbs st.2.2.2.2.2.2.2.2.2.1 + Int.natAbs st.2.2.2.2.2.2.2.2.2.2 + 1000) (fun s => by kernel_rfl) (fun st => by kernel_rfl) (fun st => by kernel_rfl) (fun n st => (region_Least_L23_B_eq n st).trans (loopF_eq tT region_Least_lo noX [] region_Least_ll (((loops region_Least_c)[2]?).getD .skip) region_Least_L23_e.head region_Least_L23_e.exits (region_Least_L23 n) st).symm)
theorem region_Least_L16_B_eq (n : Nat) (st : region_Least_L16_e.head.shape.den) : region_Least_L16 (n + 1) st = aexecK tT (otabK region_Least_lo) noX (itabK tT []) (ltabK region_Least_ll) (((loops region_Least_c)[1]?).getD .skip) (region_Least_L16_e.head.enc st) (lres region_Least_L16_e.head region_Least_L16_e.exits (region_Least_L16 n)) := by kernel_rfl
theorem region_Least_L16_lok : LOK Tryd.prog tG (ltab region_Least_ll) (((loops region_Least_c)[1]?).getD .skip) :=
  lok_of tT_ok region_Least_ook (iok_of tT_ok tP_mixed (l := []) (fun _ h => nomatch h)) tP_mixed (loopsOK_of (by
    have e : loops (((loops region_Least_c)[1]?).getD .skip) = [((loops region_Least_c)[2]?).getD .skip] := by kernel_rfl
    rw [e]
    intro a ha
    simp only [List.mem_cons, List.not_mem_nil, or_false] at ha
    rcases ha with rfl
    · exact region_Least_L23_lok)) region_Least_L16_e (F := region_Least_L16) (fun st => List.length st.1.1 + List.length st.1.2.2 + Int.natAbs st.2.1 + Int.natAbs st.2.2.1 + List.length st.2.2.2.1 + Int.natAbs st.2.2.2.2.1 + Int.natAbs st.2.2.2.2.2 + 1000) (fun s => by kernel_rfl) (fun st => by kernel_rfl) (fun st => by kernel_rfl) (fun n st => (region_Least_L16_B_eq n st).trans (loopF_eq tT region_Least_lo noX [] region_Least_ll (((loops region_Least_c)[1]?).getD .skip) region_Least_L16_e.head region_Least_L16_e.exits (region_Least_L16 n) st).symm)
theorem region_Least_L9_B_eq (n : Nat) (st : region_Least_L9_e.head.shape.den) : region_Least_L9 (n + 1) st = aexecK tT (otabK region_Least_lo) noX (itabK tT []) (ltabK region_Least_ll) (((loops region_Least_c)[0]?).getD .skip) (region_Least_L9_e.head.enc st) (lres region_Least_L9_e.head region_Least_L9_e.exits (region_Least_L9 n)) := by kernel_rfl
theorem region_Least_L9_lok : LOK Tryd.prog tG (ltab region_Least_ll) (((loops region_Least_c)[0]?).getD .skip) :=
  lok_of tT_ok region_Least_ook (iok_of tT_ok tP_mixed (l := []) (fun _ h => nomatch h)) tP_mixed (loopsOK_of (by
    have e : loops (((loops region_Least_c)[0]?).getD .skip) = [] := by kernel_rfl
    rw [e]
    intro a ha
    cases ha)) region_Least_L9_e (F := region_Least_L9) (fun st => List.length st.1.1 + List.length st.1.2.2 + Int.natAbs st.2.1 + Int.natAbs st.2.2.1 + List.length st.2.2.2.1 + Int.natAbs st.2.2.2.2.1 + Int.natAbs st.2.2.2.2.2 + 1000) (fun s => by kernel_rfl) (fun st => by kernel_rfl) (fun st => by kernel_rfl) (fun n st => (region_Least_L9_B_eq n st).trans (loopF_eq tT region_Least_lo noX [] region_Least_ll (((loops region_Least_c)[0]?).getD .skip) region_Least_L9_e.head region_Least_L9_e.exits (region_Least_L9 n) st).symm)
theorem region_Least_h (x : region_Least_sp.arg.den) : region_Least_sp.f x = bodyF tT (otab region_Least_lo) noX (itab tT []) (ltab region_Least_ll) Tryd.f15 region_Least_sp.arg region_Least_sp.res x := by
  rw [bodyF_eq]
  kernel_rfl
theorem region_Least_ok : SpecOK Tryd.prog tG region_Least_sp :=
  spec_of_body (c := region_Least_c) tT_ok region_Least_ook (iok_of tT_ok tP_mixed (l := []) (fun _ h => nomatch h)) tP_mixed (fn := Tryd.f15) Tryd.func15 (by kernel_rfl) (by kernel_rfl) (loopsOK_of (by
    have e : loops region_Least_c = [((loops region_Least_c)[0]?).getD .skip, ((loops region_Least_c)[1]?).getD .skip, ((loops region_Least_c)[2]?).getD .skip] := by kernel_rfl
    rw [e]
    intro a ha
    simp only [List.mem_cons, List.not_mem_nil, or_false] at ha
    rcases ha with rfl | rfl | rfl
    · exact region_Least_L9_lok
    · exact region_Least_L16_lok
    · exact region_Least_L23_lok)) (fun x => enc_closed x (by kernel_rfl)) (by kernel_rfl) (by kernel_rfl) region_Least_h


/-- stockyard/stockyardlaw05.awake. -/
noncomputable def law05_awake (x : Unit) : Option Bool :=
  bindK (region_Least ((([(ByteArray.mk #[97])] : List ByteArray), true), ([(([(ByteArray.mk #[97]), (ByteArray.mk #[42])] : List ByteArray), false)] : List Pat))) fun r1001 =>
  brK (decide (r1001.1 = (ByteArray.mk #[47, 47, 97, 47, 43, 47, 43])))
  (brK r1001.2.1
  (some (decide ((r1001.2.2 : Int) = 0)))
  (some false))
  (some false)

noncomputable def law05_awake_sp : FSpec := ⟨12, .nil, .bool, law05_awake⟩
noncomputable def law05_awake_lo : List FSpec := [region_Least_sp]
noncomputable def law05_awake_ll : List LEnt := []
theorem law05_awake_ook : OOK Tryd.prog tG (otab law05_awake_lo) := ook_of (l := law05_awake_lo) (by
    intro sp hsp
    simp only [law05_awake_lo, List.mem_cons, List.not_mem_nil, or_false] at hsp
    rcases hsp with rfl
    · exact region_Least_ok)
noncomputable def law05_awake_c : Code := (Tryd.f12.body).getD .skip
theorem law05_awake_h (x : law05_awake_sp.arg.den) : law05_awake_sp.f x = bodyF tT (otab law05_awake_lo) noX (itab tT []) (ltab law05_awake_ll) Tryd.f12 law05_awake_sp.arg law05_awake_sp.res x := by
  rw [bodyF_eq]
  kernel_rfl
theorem law05_awake_ok : SpecOK Tryd.prog tG law05_awake_sp :=
  spec_of_body (c := law05_awake_c) tT_ok law05_awake_ook (iok_of tT_ok tP_mixed (l := []) (fun _ h => nomatch h)) tP_mixed (fn := Tryd.f12) Tryd.func12 (by kernel_rfl) (by kernel_rfl) (loopsOK_of (by
    have e : loops law05_awake_c = [] := by kernel_rfl
    rw [e]
    intro a ha
    cases ha)) (fun x => enc_closed x (by kernel_rfl)) (by kernel_rfl) (by kernel_rfl) law05_awake_h


/-- stockyard/pattern.Format. -/
noncomputable def pattern_Format (x : Pat) : Option (ByteArray × Int) :=
  bindK (pattern_Check x) fun r1001 =>
  brK (decide ((r1001 : Int) ≠ 0))
  (some ((ByteArray.mk #[]), r1001))
  (bindK (strings_Join (x.1, (ByteArray.mk #[47]))) fun r1002 =>
  brK (decide (ByteArray.size (ByteArray.mk #[47, 47]) + ByteArray.size r1002 ≤ 140737488355328))
  (brK x.2
  (brK (decide (ByteArray.size ((ByteArray.mk #[47, 47]) ++ r1002) + ByteArray.size (ByteArray.mk #[47, 46, 46, 46]) ≤ 140737488355328))
  (some ((((ByteArray.mk #[47, 47]) ++ r1002) ++ (ByteArray.mk #[47, 46, 46, 46])), 0))
  (none))
  (some (((ByteArray.mk #[47, 47]) ++ r1002), 0)))
  (none))

noncomputable def pattern_Format_sp : FSpec := ⟨67, (.agg (.prod (.list .str) .bool)), (.tup (.pair .str (.int .i64))), pattern_Format⟩
noncomputable def pattern_Format_lo : List FSpec := [pattern_Check_sp, strings_Join_sp]
noncomputable def pattern_Format_ll : List LEnt := []
theorem pattern_Format_ook : OOK Tryd.prog tG (otab pattern_Format_lo) := ook_of (l := pattern_Format_lo) (by
    intro sp hsp
    simp only [pattern_Format_lo, List.mem_cons, List.not_mem_nil, or_false] at hsp
    rcases hsp with rfl | rfl
    · exact pattern_Check_ok
    · exact strings_Join_ok)
noncomputable def pattern_Format_c : Code := (Tryd.f67.body).getD .skip
theorem pattern_Format_h (x : pattern_Format_sp.arg.den) : pattern_Format_sp.f x = bodyF tT (otab pattern_Format_lo) noX (itab tT []) (ltab pattern_Format_ll) Tryd.f67 pattern_Format_sp.arg pattern_Format_sp.res x := by
  rw [bodyF_eq]
  kernel_rfl
theorem pattern_Format_ok : SpecOK Tryd.prog tG pattern_Format_sp :=
  spec_of_body (c := pattern_Format_c) tT_ok pattern_Format_ook (iok_of tT_ok tP_mixed (l := []) (fun _ h => nomatch h)) tP_mixed (fn := Tryd.f67) Tryd.func67 (by kernel_rfl) (by kernel_rfl) (loopsOK_of (by
    have e : loops pattern_Format_c = [] := by kernel_rfl
    rw [e]
    intro a ha
    cases ha)) (fun x => enc_closed x (by kernel_rfl)) (by kernel_rfl) (by kernel_rfl) pattern_Format_h


/-- stockyard/holes.Copied. -/
noncomputable def holes_Copied (x : Pat) : Option Pat :=
  brK (fits (List.length ([] : List ByteArray)) (List.length x.1) 16)
  (some ((([] : List ByteArray) ++ x.1), x.2))
  (none)

noncomputable def holes_Copied_sp : FSpec := ⟨72, (.agg (.prod (.list .str) .bool)), (.agg (.prod (.list .str) .bool)), holes_Copied⟩
noncomputable def holes_Copied_lo : List FSpec := []
noncomputable def holes_Copied_ll : List LEnt := []
theorem holes_Copied_ook : OOK Tryd.prog tG (otab holes_Copied_lo) := ook_of (l := holes_Copied_lo) (by intro sp hsp; cases hsp)
noncomputable def holes_Copied_c : Code := (Tryd.f72.body).getD .skip
theorem holes_Copied_h (x : holes_Copied_sp.arg.den) : holes_Copied_sp.f x = bodyF tT (otab holes_Copied_lo) noX (itab tT []) (ltab holes_Copied_ll) Tryd.f72 holes_Copied_sp.arg holes_Copied_sp.res x := by
  rw [bodyF_eq]
  kernel_rfl
theorem holes_Copied_ok : SpecOK Tryd.prog tG holes_Copied_sp :=
  spec_of_body (c := holes_Copied_c) tT_ok holes_Copied_ook (iok_of tT_ok tP_mixed (l := []) (fun _ h => nomatch h)) tP_mixed (fn := Tryd.f72) Tryd.func72 (by kernel_rfl) (by kernel_rfl) (loopsOK_of (by
    have e : loops holes_Copied_c = [] := by kernel_rfl
    rw [e]
    intro a ha
    cases ha)) (fun x => enc_closed x (by kernel_rfl)) (by kernel_rfl) (by kernel_rfl) holes_Copied_h


/-- stockyard/holes.Simple$3. -/
noncomputable def holes_Simple_3 (x : (ByteArray × Pat) × ByteArray × (List ByteArray) × Bool) : Option Bool :=
  brK (decide (x.2.1 ≠ x.1.1))
  (bindK (pattern_Within (x.2.2, x.1.2)) fun r1001 =>
  some r1001)
  (some false)

noncomputable def holes_Simple_3_sp : FSpec := ⟨73, (.pair (.agg (.prod .str (.prod (.list .str) .bool))) (.ptr (.pair .str (.pair (.list .str) .bool)))), .bool, holes_Simple_3⟩
noncomputable def holes_Simple_3_lo : List FSpec := [pattern_Within_sp]
noncomputable def holes_Simple_3_ll : List LEnt := []
theorem holes_Simple_3_ook : OOK Tryd.prog tG (otab holes_Simple_3_lo) := ook_of (l := holes_Simple_3_lo) (by
    intro sp hsp
    simp only [holes_Simple_3_lo, List.mem_cons, List.not_mem_nil, or_false] at hsp
    rcases hsp with rfl
    · exact pattern_Within_ok)
noncomputable def holes_Simple_3_c : Code := (Tryd.f73.body).getD .skip
theorem holes_Simple_3_h (x : holes_Simple_3_sp.arg.den) : holes_Simple_3_sp.f x = bodyF tT (otab holes_Simple_3_lo) noX (itab tT []) (ltab holes_Simple_3_ll) Tryd.f73 holes_Simple_3_sp.arg holes_Simple_3_sp.res x := by
  rw [bodyF_eq]
  kernel_rfl
theorem holes_Simple_3_ok : SpecOK Tryd.prog tG holes_Simple_3_sp :=
  spec_of_body (c := holes_Simple_3_c) tT_ok holes_Simple_3_ook (iok_of tT_ok tP_mixed (l := []) (fun _ h => nomatch h)) tP_mixed (fn := Tryd.f73) Tryd.func73 (by kernel_rfl) (by kernel_rfl) (loopsOK_of (by
    have e : loops holes_Simple_3_c = [] := by kernel_rfl
    rw [e]
    intro a ha
    cases ha)) (fun x => enc_closed x (by kernel_rfl)) (by kernel_rfl) (by kernel_rfl) holes_Simple_3_h

/-- A round of the loop 2 of slices.IndexFunc[[]stockyard/holes.hole,stockyard/holes.hole]. -/
noncomputable def slices_IndexFunc__holes_Simple_3_L2_B (rec : ((List (ByteArray × Pat)) × (ByteArray × (List ByteArray) × Bool) × Int × Int) → Option (Unit ⊕ (Int ⊕ Empty))) (st : (List (ByteArray × Pat)) × (ByteArray × (List ByteArray) × Bool) × Int × Int) : Option (Unit ⊕ (Int ⊕ Empty)) :=
  brK (decide ((st.2.2.2 : Int) < st.2.2.1))
  (bindK (listAt st.1 st.2.2.2) fun e1 =>
  bindK (holes_Simple_3 (e1, st.2.1)) fun r2 =>
  brK r2
  (some (.inr (.inl st.2.2.2)))
  (rec (st.1, st.2.1, st.2.2.1, (IntKind.wrap .i64 (st.2.2.2 + 1)))))
  (some (.inl ()))

noncomputable def slices_IndexFunc__holes_Simple_3_L2 : Nat → ((List (ByteArray × Pat)) × (ByteArray × (List ByteArray) × Bool) × Int × Int) → Option (Unit ⊕ (Int ⊕ Empty))
  | 0, _ => none
  | n + 1, st => slices_IndexFunc__holes_Simple_3_L2_B (slices_IndexFunc__holes_Simple_3_L2 n) st

noncomputable def slices_IndexFunc__holes_Simple_3_L2_f (st : (List (ByteArray × Pat)) × (ByteArray × (List ByteArray) × Bool) × Int × Int) : Option (Unit ⊕ (Int ⊕ Empty)) := slices_IndexFunc__holes_Simple_3_L2 (List.length st.1 + ByteArray.size st.2.1.1 + List.length st.2.1.2.1 + Int.natAbs st.2.2.1 + Int.natAbs st.2.2.2 + 1000) st

/-- slices.IndexFunc[[]stockyard/holes.hole,stockyard/holes.hole]. -/
noncomputable def slices_IndexFunc__holes_Simple_3 (x : (List (ByteArray × Pat)) × ByteArray × (List ByteArray) × Bool) : Option Int :=
  bindK (slices_IndexFunc__holes_Simple_3_L2_f (x.1, x.2, (x.1.length : Int), 0)) fun o1001 =>
  sumK o1001 (fun y1002 =>
  some (-1))
  (fun z1003 => sumK z1003 (fun y1004 =>
  some y1004)
  (fun z1005 => emptyK z1005))

noncomputable def slices_IndexFunc__holes_Simple_3_sp : FSpec := ⟨89, (.pair (.list (.prod .str (.prod (.list .str) .bool))) (.fn 73 (.ptr (.pair .str (.pair (.list .str) .bool))))), (.int .i64), slices_IndexFunc__holes_Simple_3⟩
noncomputable def slices_IndexFunc__holes_Simple_3_lo : List FSpec := [holes_Simple_3_sp]
noncomputable def slices_IndexFunc__holes_Simple_3_L2_e : LEnt := ⟨2, ⟨19, 0, [0, 1, 7, 8], (.pair (.list (.prod .str (.prod (.list .str) .bool))) (.pair (.fn 73 (.ptr (.pair .str (.pair (.list .str) .bool)))) (.pair (.int .i64) (.int .i64))))⟩, [((.exit 0), ⟨19, 0, [], .nil⟩), (.ret, ⟨19, 0, [4], (.int .i64)⟩)], slices_IndexFunc__holes_Simple_3_L2_f⟩
noncomputable def slices_IndexFunc__holes_Simple_3_ll : List LEnt := [slices_IndexFunc__holes_Simple_3_L2_e]
theorem slices_IndexFunc__holes_Simple_3_ook : OOK Tryd.prog tG (otab slices_IndexFunc__holes_Simple_3_lo) := ook_of (l := slices_IndexFunc__holes_Simple_3_lo) (by
    intro sp hsp
    simp only [slices_IndexFunc__holes_Simple_3_lo, List.mem_cons, List.not_mem_nil, or_false] at hsp
    rcases hsp with rfl
    · exact holes_Simple_3_ok)
noncomputable def slices_IndexFunc__holes_Simple_3_c : Code := (Tryd.f89.body).getD .skip
theorem slices_IndexFunc__holes_Simple_3_L2_B_eq (n : Nat) (st : slices_IndexFunc__holes_Simple_3_L2_e.head.shape.den) : slices_IndexFunc__holes_Simple_3_L2 (n + 1) st = aexecK tT (otabK slices_IndexFunc__holes_Simple_3_lo) noX (itabK tT []) (ltabK slices_IndexFunc__holes_Simple_3_ll) (((loops slices_IndexFunc__holes_Simple_3_c)[0]?).getD .skip) (slices_IndexFunc__holes_Simple_3_L2_e.head.enc st) (lres slices_IndexFunc__holes_Simple_3_L2_e.head slices_IndexFunc__holes_Simple_3_L2_e.exits (slices_IndexFunc__holes_Simple_3_L2 n)) := by kernel_rfl
theorem slices_IndexFunc__holes_Simple_3_L2_lok : LOK Tryd.prog tG (ltab slices_IndexFunc__holes_Simple_3_ll) (((loops slices_IndexFunc__holes_Simple_3_c)[0]?).getD .skip) :=
  lok_of tT_ok slices_IndexFunc__holes_Simple_3_ook (iok_of tT_ok tP_mixed (l := []) (fun _ h => nomatch h)) tP_mixed (loopsOK_of (by
    have e : loops (((loops slices_IndexFunc__holes_Simple_3_c)[0]?).getD .skip) = [] := by kernel_rfl
    rw [e]
    intro a ha
    cases ha)) slices_IndexFunc__holes_Simple_3_L2_e (F := slices_IndexFunc__holes_Simple_3_L2) (fun st => List.length st.1 + ByteArray.size st.2.1.1 + List.length st.2.1.2.1 + Int.natAbs st.2.2.1 + Int.natAbs st.2.2.2 + 1000) (fun s => by kernel_rfl) (fun st => by kernel_rfl) (fun st => by kernel_rfl) (fun n st => (slices_IndexFunc__holes_Simple_3_L2_B_eq n st).trans (loopF_eq tT slices_IndexFunc__holes_Simple_3_lo noX [] slices_IndexFunc__holes_Simple_3_ll (((loops slices_IndexFunc__holes_Simple_3_c)[0]?).getD .skip) slices_IndexFunc__holes_Simple_3_L2_e.head slices_IndexFunc__holes_Simple_3_L2_e.exits (slices_IndexFunc__holes_Simple_3_L2 n) st).symm)
theorem slices_IndexFunc__holes_Simple_3_h (x : slices_IndexFunc__holes_Simple_3_sp.arg.den) : slices_IndexFunc__holes_Simple_3_sp.f x = bodyF tT (otab slices_IndexFunc__holes_Simple_3_lo) noX (itab tT []) (ltab slices_IndexFunc__holes_Simple_3_ll) Tryd.f89 slices_IndexFunc__holes_Simple_3_sp.arg slices_IndexFunc__holes_Simple_3_sp.res x := by
  rw [bodyF_eq]
  kernel_rfl
theorem slices_IndexFunc__holes_Simple_3_ok : SpecOK Tryd.prog tG slices_IndexFunc__holes_Simple_3_sp :=
  spec_of_body (c := slices_IndexFunc__holes_Simple_3_c) tT_ok slices_IndexFunc__holes_Simple_3_ook (iok_of tT_ok tP_mixed (l := []) (fun _ h => nomatch h)) tP_mixed (fn := Tryd.f89) Tryd.func89 (by kernel_rfl) (by kernel_rfl) (loopsOK_of (by
    have e : loops slices_IndexFunc__holes_Simple_3_c = [((loops slices_IndexFunc__holes_Simple_3_c)[0]?).getD .skip] := by kernel_rfl
    rw [e]
    intro a ha
    simp only [List.mem_cons, List.not_mem_nil, or_false] at ha
    rcases ha with rfl
    · exact slices_IndexFunc__holes_Simple_3_L2_lok)) (fun x => enc_closed x (by kernel_rfl)) (by kernel_rfl) (by kernel_rfl) slices_IndexFunc__holes_Simple_3_h


/-- slices.ContainsFunc[[]stockyard/holes.hole,stockyard/holes.hole]. -/
noncomputable def slices_ContainsFunc__holes_Simple_3 (x : (List (ByteArray × Pat)) × ByteArray × (List ByteArray) × Bool) : Option Bool :=
  bindK (slices_IndexFunc__holes_Simple_3 x) fun r1001 =>
  some (decide ((r1001 : Int) ≥ 0))

noncomputable def slices_ContainsFunc__holes_Simple_3_sp : FSpec := ⟨74, (.pair (.list (.prod .str (.prod (.list .str) .bool))) (.fn 73 (.ptr (.pair .str (.pair (.list .str) .bool))))), .bool, slices_ContainsFunc__holes_Simple_3⟩
noncomputable def slices_ContainsFunc__holes_Simple_3_lo : List FSpec := [slices_IndexFunc__holes_Simple_3_sp]
noncomputable def slices_ContainsFunc__holes_Simple_3_ll : List LEnt := []
theorem slices_ContainsFunc__holes_Simple_3_ook : OOK Tryd.prog tG (otab slices_ContainsFunc__holes_Simple_3_lo) := ook_of (l := slices_ContainsFunc__holes_Simple_3_lo) (by
    intro sp hsp
    simp only [slices_ContainsFunc__holes_Simple_3_lo, List.mem_cons, List.not_mem_nil, or_false] at hsp
    rcases hsp with rfl
    · exact slices_IndexFunc__holes_Simple_3_ok)
noncomputable def slices_ContainsFunc__holes_Simple_3_c : Code := (Tryd.f74.body).getD .skip
theorem slices_ContainsFunc__holes_Simple_3_h (x : slices_ContainsFunc__holes_Simple_3_sp.arg.den) : slices_ContainsFunc__holes_Simple_3_sp.f x = bodyF tT (otab slices_ContainsFunc__holes_Simple_3_lo) noX (itab tT []) (ltab slices_ContainsFunc__holes_Simple_3_ll) Tryd.f74 slices_ContainsFunc__holes_Simple_3_sp.arg slices_ContainsFunc__holes_Simple_3_sp.res x := by
  rw [bodyF_eq]
  kernel_rfl
theorem slices_ContainsFunc__holes_Simple_3_ok : SpecOK Tryd.prog tG slices_ContainsFunc__holes_Simple_3_sp :=
  spec_of_body (c := slices_ContainsFunc__holes_Simple_3_c) tT_ok slices_ContainsFunc__holes_Simple_3_ook (iok_of tT_ok tP_mixed (l := []) (fun _ h => nomatch h)) tP_mixed (fn := Tryd.f74) Tryd.func74 (by kernel_rfl) (by kernel_rfl) (loopsOK_of (by
    have e : loops slices_ContainsFunc__holes_Simple_3_c = [] := by kernel_rfl
    rw [e]
    intro a ha
    cases ha)) (fun x => enc_closed x (by kernel_rfl)) (by kernel_rfl) (by kernel_rfl) slices_ContainsFunc__holes_Simple_3_h

/-- A round of the loop 3 of stockyard/holes.Simple. -/
noncomputable def holes_Simple_L3_B (rec : (((List ByteArray) × Bool) × ((List ByteArray) × Bool × List Pat) × (List (ByteArray × Pat)) × (List Pat) × Int × Int) → Option ((((List ByteArray) × Bool) × ((List ByteArray) × Bool × List Pat) × List (ByteArray × Pat)) ⊕ Empty)) (st : ((List ByteArray) × Bool) × ((List ByteArray) × Bool × List Pat) × (List (ByteArray × Pat)) × (List Pat) × Int × Int) : Option ((((List ByteArray) × Bool) × ((List ByteArray) × Bool × List Pat) × List (ByteArray × Pat)) ⊕ Empty) :=
  brK (decide ((st.2.2.2.2.2 : Int) < st.2.2.2.2.1))
  (bindK (listAt st.2.2.2.1 st.2.2.2.2.2) fun e1 =>
  bindK (pattern_Meet (st.1, e1)) fun r2 =>
  brK r2.2
  (bindK (pattern_Format r2.1) fun r3 =>
  brK (fits (List.length st.2.2.1) (List.length ([(r3.1, r2.1)] : List (ByteArray × Pat))) 48)
  (rec (st.1, st.2.1, (st.2.2.1 ++ ([(r3.1, r2.1)] : List (ByteArray × Pat))), st.2.2.2.1, st.2.2.2.2.1, (IntKind.wrap .i64 (st.2.2.2.2.2 + 1))))
  (none))
  (rec (st.1, st.2.1, st.2.2.1, st.2.2.2.1, st.2.2.2.2.1, (IntKind.wrap .i64 (st.2.2.2.2.2 + 1)))))
  (some (.inl (st.1, st.2.1, st.2.2.1)))

noncomputable def holes_Simple_L3 : Nat → (((List ByteArray) × Bool) × ((List ByteArray) × Bool × List Pat) × (List (ByteArray × Pat)) × (List Pat) × Int × Int) → Option ((((List ByteArray) × Bool) × ((List ByteArray) × Bool × List Pat) × List (ByteArray × Pat)) ⊕ Empty)
  | 0, _ => none
  | n + 1, st => holes_Simple_L3_B (holes_Simple_L3 n) st

noncomputable def holes_Simple_L3_f (st : ((List ByteArray) × Bool) × ((List ByteArray) × Bool × List Pat) × (List (ByteArray × Pat)) × (List Pat) × Int × Int) : Option ((((List ByteArray) × Bool) × ((List ByteArray) × Bool × List Pat) × List (ByteArray × Pat)) ⊕ Empty) := holes_Simple_L3 (List.length st.1.1 + List.length st.2.1.1 + List.length st.2.1.2.2 + List.length st.2.2.1 + List.length st.2.2.2.1 + Int.natAbs st.2.2.2.2.1 + Int.natAbs st.2.2.2.2.2 + 1000) st

/-- A round of the loop 14 of stockyard/holes.Simple. -/
noncomputable def holes_Simple_L14_B (rec : (((List ByteArray) × Bool × List Pat) × (List (ByteArray × Pat)) × ((List ByteArray) × Bool × List Pat) × (List (ByteArray × Pat)) × Int × Int) → Option ((((List ByteArray) × Bool × List Pat) × (List ByteArray) × Bool × List Pat) ⊕ Empty)) (st : ((List ByteArray) × Bool × List Pat) × (List (ByteArray × Pat)) × ((List ByteArray) × Bool × List Pat) × (List (ByteArray × Pat)) × Int × Int) : Option ((((List ByteArray) × Bool × List Pat) × (List ByteArray) × Bool × List Pat) ⊕ Empty) :=
  brK (decide ((st.2.2.2.2.2 : Int) < st.2.2.2.2.1))
  (bindK (listAt st.2.2.2.1 st.2.2.2.2.2) fun e10 =>
  bindK (slices_ContainsFunc__holes_Simple_3 (st.2.1, e10)) fun r11 =>
  brK (!r11)
  (brK (fits (List.length st.2.2.1.2.2) (List.length ([e10.2] : List Pat)) 32)
  (rec (st.1, st.2.1, (st.2.2.1.1, st.2.2.1.2.1, (st.2.2.1.2.2 ++ ([e10.2] : List Pat))), st.2.2.2.1, st.2.2.2.2.1, (IntKind.wrap .i64 (st.2.2.2.2.2 + 1))))
  (none))
  (rec (st.1, st.2.1, st.2.2.1, st.2.2.2.1, st.2.2.2.2.1, (IntKind.wrap .i64 (st.2.2.2.2.2 + 1)))))
  (some (.inl (st.1, st.2.2.1)))

noncomputable def holes_Simple_L14 : Nat → (((List ByteArray) × Bool × List Pat) × (List (ByteArray × Pat)) × ((List ByteArray) × Bool × List Pat) × (List (ByteArray × Pat)) × Int × Int) → Option ((((List ByteArray) × Bool × List Pat) × (List ByteArray) × Bool × List Pat) ⊕ Empty)
  | 0, _ => none
  | n + 1, st => holes_Simple_L14_B (holes_Simple_L14 n) st

noncomputable def holes_Simple_L14_f (st : ((List ByteArray) × Bool × List Pat) × (List (ByteArray × Pat)) × ((List ByteArray) × Bool × List Pat) × (List (ByteArray × Pat)) × Int × Int) : Option ((((List ByteArray) × Bool × List Pat) × (List ByteArray) × Bool × List Pat) ⊕ Empty) := holes_Simple_L14 (List.length st.1.1 + List.length st.1.2.2 + List.length st.2.1 + List.length st.2.2.1.1 + List.length st.2.2.1.2.2 + List.length st.2.2.2.1 + Int.natAbs st.2.2.2.2.1 + Int.natAbs st.2.2.2.2.2 + 1000) st

/-- stockyard/holes.Simple. -/
noncomputable def holes_Simple (x : Pat × List Pat) : Option Reg :=
  bindK (holes_Simple_L3_f (x.1, (([] : List ByteArray), false, ([] : List Pat)), ([] : List (ByteArray × Pat)), x.2, (x.2.length : Int), 0)) fun o1001 =>
  sumK o1001 (fun y1002 =>
  bindK (sortF y1002.2.2) fun r1004 =>
  bindK (compF (List.take (List.length y1002.2.2) r1004 ++ List.drop (List.length r1004) y1002.2.2)) fun r1005 =>
  bindK (holes_Copied y1002.1) fun r1006 =>
  bindK (holes_Simple_L14_f (y1002.2.1, r1005, (r1006.1, r1006.2, ([] : List Pat)), r1005, (r1005.length : Int), 0)) fun o1007 =>
  sumK o1007 (fun y1008 =>
  some ((y1008.2.1, y1008.2.2.1), y1008.2.2.2))
  (fun z1009 => emptyK z1009))
  (fun z1003 => emptyK z1003)

noncomputable def holes_Simple_sp : FSpec := ⟨40, (.pair (.agg (.prod (.list .str) .bool)) (.list (.prod (.list .str) .bool))), (.agg (.prod (.prod (.list .str) .bool) (.list (.prod (.list .str) .bool)))), holes_Simple⟩
noncomputable def holes_Simple_lo : List FSpec := [pattern_Meet_sp, pattern_Format_sp, holes_Copied_sp, slices_ContainsFunc__holes_Simple_3_sp]
noncomputable def holes_Simple_L3_e : LEnt := ⟨3, ⟨68, 5, [2, 4, 5, 16, 17, 18], (.pair (.box 0 (.pair (.list .str) .bool)) (.pair (.box 1 (.pair (.own 2 9 .str) (.pair .bool (.own 3 27 (.prod (.list .str) .bool))))) (.pair (.row 4 96 (.prod .str (.prod (.list .str) .bool))) (.pair (.list (.prod (.list .str) .bool)) (.pair (.int .i64) (.int .i64))))))⟩, [((.exit 0), ⟨68, 5, [2, 4, 5], (.pair (.box 0 (.pair (.list .str) .bool)) (.pair (.box 1 (.pair (.own 2 9 .str) (.pair .bool (.own 3 27 (.prod (.list .str) .bool))))) (.row 4 96 (.prod .str (.prod (.list .str) .bool)))))⟩)], holes_Simple_L3_f⟩
noncomputable def holes_Simple_L14_e : LEnt := ⟨14, ⟨68, 5, [4, 5, 12, 48, 49, 50], (.pair (.box 0 (.pair (.own 1 9 .str) (.pair .bool (.own 2 27 (.prod (.list .str) .bool))))) (.pair (.list (.prod .str (.prod (.list .str) .bool))) (.pair (.box 3 (.pair (.list .str) (.pair .bool (.own 4 27 (.prod (.list .str) .bool))))) (.pair (.list (.prod .str (.prod (.list .str) .bool))) (.pair (.int .i64) (.int .i64))))))⟩, [((.exit 2), ⟨68, 5, [4, 12], (.pair (.box 0 (.pair (.own 1 9 .str) (.pair .bool (.own 2 27 (.prod (.list .str) .bool))))) (.box 3 (.pair (.list .str) (.pair .bool (.own 4 27 (.prod (.list .str) .bool))))))⟩)], holes_Simple_L14_f⟩
noncomputable def holes_Simple_ll : List LEnt := [holes_Simple_L3_e, holes_Simple_L14_e]
theorem holes_Simple_ook : OOK Tryd.prog tG (otab holes_Simple_lo) := ook_of (l := holes_Simple_lo) (by
    intro sp hsp
    simp only [holes_Simple_lo, List.mem_cons, List.not_mem_nil, or_false] at hsp
    rcases hsp with rfl | rfl | rfl | rfl
    · exact pattern_Meet_ok
    · exact pattern_Format_ok
    · exact holes_Copied_ok
    · exact slices_ContainsFunc__holes_Simple_3_ok)
def holes_Simple_X : Oper → Bool := marks [39, 42, 44] []
noncomputable def holes_Simple_il : List IEnt := [.row 68 69 96 (.prod .str (.prod (.list .str) .bool)) false sortF, .row 70 71 96 (.prod .str (.prod (.list .str) .bool)) true compF]
theorem holes_Simple_iok : IOK Tryd.prog tG (itab tT holes_Simple_il) := iok_of tT_ok tP_mixed (by
  intro e he
  simp only [holes_Simple_il, List.mem_cons, List.not_mem_nil, or_false] at he
  rcases he with rfl | rfl
  · exact sort_row
  · exact comp_row)
noncomputable def holes_Simple_c : Code := (Tryd.f40.body).getD .skip
theorem holes_Simple_L14_B_eq (n : Nat) (st : holes_Simple_L14_e.head.shape.den) : holes_Simple_L14 (n + 1) st = aexecK tT (otabK holes_Simple_lo) holes_Simple_X (itabK tT holes_Simple_il) (ltabK holes_Simple_ll) (((loops holes_Simple_c)[1]?).getD .skip) (holes_Simple_L14_e.head.enc st) (lres holes_Simple_L14_e.head holes_Simple_L14_e.exits (holes_Simple_L14 n)) := by kernel_rfl
theorem holes_Simple_L14_lok : LOK Tryd.prog tG (ltab holes_Simple_ll) (((loops holes_Simple_c)[1]?).getD .skip) :=
  lok_of tT_ok holes_Simple_ook holes_Simple_iok tP_mixed (loopsOK_of (by
    have e : loops (((loops holes_Simple_c)[1]?).getD .skip) = [] := by kernel_rfl
    rw [e]
    intro a ha
    cases ha)) holes_Simple_L14_e (F := holes_Simple_L14) (fun st => List.length st.1.1 + List.length st.1.2.2 + List.length st.2.1 + List.length st.2.2.1.1 + List.length st.2.2.1.2.2 + List.length st.2.2.2.1 + Int.natAbs st.2.2.2.2.1 + Int.natAbs st.2.2.2.2.2 + 1000) (fun s => by kernel_rfl) (fun st => by kernel_rfl) (fun st => by kernel_rfl) (fun n st => (holes_Simple_L14_B_eq n st).trans (loopF_eq tT holes_Simple_lo holes_Simple_X holes_Simple_il holes_Simple_ll (((loops holes_Simple_c)[1]?).getD .skip) holes_Simple_L14_e.head holes_Simple_L14_e.exits (holes_Simple_L14 n) st).symm)
theorem holes_Simple_L3_B_eq (n : Nat) (st : holes_Simple_L3_e.head.shape.den) : holes_Simple_L3 (n + 1) st = aexecK tT (otabK holes_Simple_lo) holes_Simple_X (itabK tT holes_Simple_il) (ltabK holes_Simple_ll) (((loops holes_Simple_c)[0]?).getD .skip) (holes_Simple_L3_e.head.enc st) (lres holes_Simple_L3_e.head holes_Simple_L3_e.exits (holes_Simple_L3 n)) := by kernel_rfl
theorem holes_Simple_L3_lok : LOK Tryd.prog tG (ltab holes_Simple_ll) (((loops holes_Simple_c)[0]?).getD .skip) :=
  lok_of tT_ok holes_Simple_ook holes_Simple_iok tP_mixed (loopsOK_of (by
    have e : loops (((loops holes_Simple_c)[0]?).getD .skip) = [] := by kernel_rfl
    rw [e]
    intro a ha
    cases ha)) holes_Simple_L3_e (F := holes_Simple_L3) (fun st => List.length st.1.1 + List.length st.2.1.1 + List.length st.2.1.2.2 + List.length st.2.2.1 + List.length st.2.2.2.1 + Int.natAbs st.2.2.2.2.1 + Int.natAbs st.2.2.2.2.2 + 1000) (fun s => by kernel_rfl) (fun st => by kernel_rfl) (fun st => by kernel_rfl) (fun n st => (holes_Simple_L3_B_eq n st).trans (loopF_eq tT holes_Simple_lo holes_Simple_X holes_Simple_il holes_Simple_ll (((loops holes_Simple_c)[0]?).getD .skip) holes_Simple_L3_e.head holes_Simple_L3_e.exits (holes_Simple_L3 n) st).symm)
theorem holes_Simple_h (x : holes_Simple_sp.arg.den) : holes_Simple_sp.f x = bodyF tT (otab holes_Simple_lo) holes_Simple_X (itab tT holes_Simple_il) (ltab holes_Simple_ll) Tryd.f40 holes_Simple_sp.arg holes_Simple_sp.res x := by
  rw [bodyF_eq]
  kernel_rfl
theorem holes_Simple_ok : SpecOK Tryd.prog tG holes_Simple_sp :=
  spec_of_body (c := holes_Simple_c) tT_ok holes_Simple_ook holes_Simple_iok tP_mixed (fn := Tryd.f40) Tryd.func40 (by kernel_rfl) (by kernel_rfl) (loopsOK_of (by
    have e : loops holes_Simple_c = [((loops holes_Simple_c)[0]?).getD .skip, ((loops holes_Simple_c)[1]?).getD .skip] := by kernel_rfl
    rw [e]
    intro a ha
    simp only [List.mem_cons, List.not_mem_nil, or_false] at ha
    rcases ha with rfl | rfl
    · exact holes_Simple_L3_lok
    · exact holes_Simple_L14_lok)) (fun x => enc_closed x (by kernel_rfl)) (by kernel_rfl) (by kernel_rfl) holes_Simple_h


/-- stockyard/region.Simplify. -/
noncomputable def region_Simplify (x : Reg) : Option (Reg × Int) :=
  bindK (region_Check x) fun r1001 =>
  brK (decide ((r1001 : Int) ≠ 0))
  (some (((([] : List ByteArray), false), ([] : List Pat)), r1001))
  (bindK (holes_Simple x) fun r1002 =>
  some (r1002, 0))

noncomputable def region_Simplify_sp : FSpec := ⟨20, (.agg (.prod (.prod (.list .str) .bool) (.list (.prod (.list .str) .bool)))), (.tup (.pair (.agg (.prod (.prod (.list .str) .bool) (.list (.prod (.list .str) .bool)))) (.int .i64))), region_Simplify⟩
noncomputable def region_Simplify_lo : List FSpec := [region_Check_sp, holes_Simple_sp]
noncomputable def region_Simplify_ll : List LEnt := []
theorem region_Simplify_ook : OOK Tryd.prog tG (otab region_Simplify_lo) := ook_of (l := region_Simplify_lo) (by
    intro sp hsp
    simp only [region_Simplify_lo, List.mem_cons, List.not_mem_nil, or_false] at hsp
    rcases hsp with rfl | rfl
    · exact region_Check_ok
    · exact holes_Simple_ok)
noncomputable def region_Simplify_c : Code := (Tryd.f20.body).getD .skip
theorem region_Simplify_h (x : region_Simplify_sp.arg.den) : region_Simplify_sp.f x = bodyF tT (otab region_Simplify_lo) noX (itab tT []) (ltab region_Simplify_ll) Tryd.f20 region_Simplify_sp.arg region_Simplify_sp.res x := by
  rw [bodyF_eq]
  kernel_rfl
theorem region_Simplify_ok : SpecOK Tryd.prog tG region_Simplify_sp :=
  spec_of_body (c := region_Simplify_c) tT_ok region_Simplify_ook (iok_of tT_ok tP_mixed (l := []) (fun _ h => nomatch h)) tP_mixed (fn := Tryd.f20) Tryd.func20 (by kernel_rfl) (by kernel_rfl) (loopsOK_of (by
    have e : loops region_Simplify_c = [] := by kernel_rfl
    rw [e]
    intro a ha
    cases ha)) (fun x => enc_closed x (by kernel_rfl)) (by kernel_rfl) (by kernel_rfl) region_Simplify_h

/-- A round of the loop 4 of stockyard/stockyardref03.Same. -/
noncomputable def ref03_Same_L4_B (rec : (((List ByteArray) × Bool) × (List ByteArray) × Int × Int) → Option (Unit ⊕ (Bool ⊕ Empty))) (st : ((List ByteArray) × Bool) × (List ByteArray) × Int × Int) : Option (Unit ⊕ (Bool ⊕ Empty)) :=
  brK (decide ((st.2.2.2 : Int) < st.2.2.1))
  (bindK (listAt st.2.1 st.2.2.2) fun e1 =>
  bindK (listAt st.1.1 st.2.2.2) fun e2 =>
  brK (decide (e1 ≠ e2))
  (some (.inr (.inl false)))
  (rec (st.1, st.2.1, st.2.2.1, (IntKind.wrap .i64 (st.2.2.2 + 1)))))
  (some (.inl ()))

noncomputable def ref03_Same_L4 : Nat → (((List ByteArray) × Bool) × (List ByteArray) × Int × Int) → Option (Unit ⊕ (Bool ⊕ Empty))
  | 0, _ => none
  | n + 1, st => ref03_Same_L4_B (ref03_Same_L4 n) st

noncomputable def ref03_Same_L4_f (st : ((List ByteArray) × Bool) × (List ByteArray) × Int × Int) : Option (Unit ⊕ (Bool ⊕ Empty)) := ref03_Same_L4 (List.length st.1.1 + List.length st.2.1 + Int.natAbs st.2.2.1 + Int.natAbs st.2.2.2 + 1000) st

/-- stockyard/stockyardref03.Same. -/
noncomputable def ref03_Same (x : Pat × Pat) : Option Bool :=
  brK (!(x.1.2 == x.2.2))
  (some false)
  (brK (decide (((x.1.1.length : Int) : Int) ≠ (x.2.1.length : Int)))
  (some false)
  (bindK (ref03_Same_L4_f (x.2, x.1.1, (x.1.1.length : Int), 0)) fun o1001 =>
  sumK o1001 (fun y1002 =>
  some true)
  (fun z1003 => sumK z1003 (fun y1004 =>
  some y1004)
  (fun z1005 => emptyK z1005))))

noncomputable def ref03_Same_sp : FSpec := ⟨41, (.pair (.agg (.prod (.list .str) .bool)) (.agg (.prod (.list .str) .bool))), .bool, ref03_Same⟩
noncomputable def ref03_Same_lo : List FSpec := []
noncomputable def ref03_Same_L4_e : LEnt := ⟨4, ⟨37, 1, [3, 22, 23, 24], (.pair (.box 0 (.pair (.list .str) .bool)) (.pair (.list .str) (.pair (.int .i64) (.int .i64))))⟩, [((.exit 0), ⟨37, 0, [], .nil⟩), (.ret, ⟨37, 0, [4], .bool⟩)], ref03_Same_L4_f⟩
noncomputable def ref03_Same_ll : List LEnt := [ref03_Same_L4_e]
theorem ref03_Same_ook : OOK Tryd.prog tG (otab ref03_Same_lo) := ook_of (l := ref03_Same_lo) (by intro sp hsp; cases hsp)
noncomputable def ref03_Same_c : Code := (Tryd.f41.body).getD .skip
theorem ref03_Same_L4_B_eq (n : Nat) (st : ref03_Same_L4_e.head.shape.den) : ref03_Same_L4 (n + 1) st = aexecK tT (otabK ref03_Same_lo) noX (itabK tT []) (ltabK ref03_Same_ll) (((loops ref03_Same_c)[0]?).getD .skip) (ref03_Same_L4_e.head.enc st) (lres ref03_Same_L4_e.head ref03_Same_L4_e.exits (ref03_Same_L4 n)) := by kernel_rfl
theorem ref03_Same_L4_lok : LOK Tryd.prog tG (ltab ref03_Same_ll) (((loops ref03_Same_c)[0]?).getD .skip) :=
  lok_of tT_ok ref03_Same_ook (iok_of tT_ok tP_mixed (l := []) (fun _ h => nomatch h)) tP_mixed (loopsOK_of (by
    have e : loops (((loops ref03_Same_c)[0]?).getD .skip) = [] := by kernel_rfl
    rw [e]
    intro a ha
    cases ha)) ref03_Same_L4_e (F := ref03_Same_L4) (fun st => List.length st.1.1 + List.length st.2.1 + Int.natAbs st.2.2.1 + Int.natAbs st.2.2.2 + 1000) (fun s => by kernel_rfl) (fun st => by kernel_rfl) (fun st => by kernel_rfl) (fun n st => (ref03_Same_L4_B_eq n st).trans (loopF_eq tT ref03_Same_lo noX [] ref03_Same_ll (((loops ref03_Same_c)[0]?).getD .skip) ref03_Same_L4_e.head ref03_Same_L4_e.exits (ref03_Same_L4 n) st).symm)
theorem ref03_Same_h (x : ref03_Same_sp.arg.den) : ref03_Same_sp.f x = bodyF tT (otab ref03_Same_lo) noX (itab tT []) (ltab ref03_Same_ll) Tryd.f41 ref03_Same_sp.arg ref03_Same_sp.res x := by
  rw [bodyF_eq]
  kernel_rfl
theorem ref03_Same_ok : SpecOK Tryd.prog tG ref03_Same_sp :=
  spec_of_body (c := ref03_Same_c) tT_ok ref03_Same_ook (iok_of tT_ok tP_mixed (l := []) (fun _ h => nomatch h)) tP_mixed (fn := Tryd.f41) Tryd.func41 (by kernel_rfl) (by kernel_rfl) (loopsOK_of (by
    have e : loops ref03_Same_c = [((loops ref03_Same_c)[0]?).getD .skip] := by kernel_rfl
    rw [e]
    intro a ha
    simp only [List.mem_cons, List.not_mem_nil, or_false] at ha
    rcases ha with rfl
    · exact ref03_Same_L4_lok)) (fun x => enc_closed x (by kernel_rfl)) (by kernel_rfl) (by kernel_rfl) ref03_Same_h

/-- A round of the loop 4 of stockyard/stockyardref05.Same. -/
noncomputable def ref05_Same_L4_B (rec : (((List ByteArray) × Bool × List Pat) × (List Pat) × Int × Int) → Option (Unit ⊕ (Bool ⊕ Empty))) (st : ((List ByteArray) × Bool × List Pat) × (List Pat) × Int × Int) : Option (Unit ⊕ (Bool ⊕ Empty)) :=
  brK (decide ((st.2.2.2 : Int) < st.2.2.1))
  (bindK (listAt st.2.1 st.2.2.2) fun e2 =>
  bindK (listAt st.1.2.2 st.2.2.2) fun e3 =>
  bindK (ref03_Same (e2, e3)) fun r4 =>
  brK (!r4)
  (some (.inr (.inl false)))
  (rec (st.1, st.2.1, st.2.2.1, (IntKind.wrap .i64 (st.2.2.2 + 1)))))
  (some (.inl ()))

noncomputable def ref05_Same_L4 : Nat → (((List ByteArray) × Bool × List Pat) × (List Pat) × Int × Int) → Option (Unit ⊕ (Bool ⊕ Empty))
  | 0, _ => none
  | n + 1, st => ref05_Same_L4_B (ref05_Same_L4 n) st

noncomputable def ref05_Same_L4_f (st : ((List ByteArray) × Bool × List Pat) × (List Pat) × Int × Int) : Option (Unit ⊕ (Bool ⊕ Empty)) := ref05_Same_L4 (List.length st.1.1 + List.length st.1.2.2 + List.length st.2.1 + Int.natAbs st.2.2.1 + Int.natAbs st.2.2.2 + 1000) st

/-- stockyard/stockyardref05.Same. -/
noncomputable def ref05_Same (x : Reg × Reg) : Option Bool :=
  bindK (ref03_Same (x.1.1, x.2.1)) fun r1001 =>
  brK (!r1001)
  (some false)
  (brK (decide (((x.1.2.length : Int) : Int) ≠ (x.2.2.length : Int)))
  (some false)
  (bindK (ref05_Same_L4_f ((x.2.1.1, x.2.1.2, x.2.2), x.1.2, (x.1.2.length : Int), 0)) fun o1002 =>
  sumK o1002 (fun y1003 =>
  some true)
  (fun z1004 => sumK z1004 (fun y1005 =>
  some y1005)
  (fun z1006 => emptyK z1006))))

noncomputable def ref05_Same_sp : FSpec := ⟨21, (.pair (.agg (.prod (.prod (.list .str) .bool) (.list (.prod (.list .str) .bool)))) (.agg (.prod (.prod (.list .str) .bool) (.list (.prod (.list .str) .bool))))), .bool, ref05_Same⟩
noncomputable def ref05_Same_lo : List FSpec := [ref03_Same_sp]
noncomputable def ref05_Same_L4_e : LEnt := ⟨4, ⟨39, 1, [3, 23, 24, 25], (.pair (.box 0 (.pair (.list .str) (.pair .bool (.list (.prod (.list .str) .bool))))) (.pair (.list (.prod (.list .str) .bool)) (.pair (.int .i64) (.int .i64))))⟩, [((.exit 0), ⟨39, 0, [], .nil⟩), (.ret, ⟨39, 0, [4], .bool⟩)], ref05_Same_L4_f⟩
noncomputable def ref05_Same_ll : List LEnt := [ref05_Same_L4_e]
theorem ref05_Same_ook : OOK Tryd.prog tG (otab ref05_Same_lo) := ook_of (l := ref05_Same_lo) (by
    intro sp hsp
    simp only [ref05_Same_lo, List.mem_cons, List.not_mem_nil, or_false] at hsp
    rcases hsp with rfl
    · exact ref03_Same_ok)
noncomputable def ref05_Same_c : Code := (Tryd.f21.body).getD .skip
theorem ref05_Same_L4_B_eq (n : Nat) (st : ref05_Same_L4_e.head.shape.den) : ref05_Same_L4 (n + 1) st = aexecK tT (otabK ref05_Same_lo) noX (itabK tT []) (ltabK ref05_Same_ll) (((loops ref05_Same_c)[0]?).getD .skip) (ref05_Same_L4_e.head.enc st) (lres ref05_Same_L4_e.head ref05_Same_L4_e.exits (ref05_Same_L4 n)) := by kernel_rfl
theorem ref05_Same_L4_lok : LOK Tryd.prog tG (ltab ref05_Same_ll) (((loops ref05_Same_c)[0]?).getD .skip) :=
  lok_of tT_ok ref05_Same_ook (iok_of tT_ok tP_mixed (l := []) (fun _ h => nomatch h)) tP_mixed (loopsOK_of (by
    have e : loops (((loops ref05_Same_c)[0]?).getD .skip) = [] := by kernel_rfl
    rw [e]
    intro a ha
    cases ha)) ref05_Same_L4_e (F := ref05_Same_L4) (fun st => List.length st.1.1 + List.length st.1.2.2 + List.length st.2.1 + Int.natAbs st.2.2.1 + Int.natAbs st.2.2.2 + 1000) (fun s => by kernel_rfl) (fun st => by kernel_rfl) (fun st => by kernel_rfl) (fun n st => (ref05_Same_L4_B_eq n st).trans (loopF_eq tT ref05_Same_lo noX [] ref05_Same_ll (((loops ref05_Same_c)[0]?).getD .skip) ref05_Same_L4_e.head ref05_Same_L4_e.exits (ref05_Same_L4 n) st).symm)
theorem ref05_Same_h (x : ref05_Same_sp.arg.den) : ref05_Same_sp.f x = bodyF tT (otab ref05_Same_lo) noX (itab tT []) (ltab ref05_Same_ll) Tryd.f21 ref05_Same_sp.arg ref05_Same_sp.res x := by
  rw [bodyF_eq]
  kernel_rfl
theorem ref05_Same_ok : SpecOK Tryd.prog tG ref05_Same_sp :=
  spec_of_body (c := ref05_Same_c) tT_ok ref05_Same_ook (iok_of tT_ok tP_mixed (l := []) (fun _ h => nomatch h)) tP_mixed (fn := Tryd.f21) Tryd.func21 (by kernel_rfl) (by kernel_rfl) (loopsOK_of (by
    have e : loops ref05_Same_c = [((loops ref05_Same_c)[0]?).getD .skip] := by kernel_rfl
    rw [e]
    intro a ha
    simp only [List.mem_cons, List.not_mem_nil, or_false] at ha
    rcases ha with rfl
    · exact ref05_Same_L4_lok)) (fun x => enc_closed x (by kernel_rfl)) (by kernel_rfl) (by kernel_rfl) ref05_Same_h


/-- strings.Split. -/
noncomputable def strings_Split (x : ByteArray × ByteArray) : Option (List ByteArray) :=
  splitF x.1 x.2
noncomputable def strings_Split_sp : FSpec := ⟨47, (.pair .str .str), (.list .str), strings_Split⟩
theorem strings_Split_ok : SpecOK Tryd.prog tG strings_Split_sp := spec_split (t9 := 9) (callFunc_enter Tryd.func47 (by kernel_rfl) (by kernel_rfl)) (fun s sep w hg hs h1 => by obtain ⟨m, hm⟩ := hg; exact Tryd.strings_Split s sep m w hs hm h1)

/-- A round of the loop 6 of stockyard/path.directory. -/
noncomputable def path_directory_L6_B (rec : ((List ByteArray) × (List ByteArray) × Int × Int) → Option ((List ByteArray) ⊕ (((List ByteArray) × Bool) ⊕ Empty))) (st : (List ByteArray) × (List ByteArray) × Int × Int) : Option ((List ByteArray) ⊕ (((List ByteArray) × Bool) ⊕ Empty)) :=
  brK (decide ((st.2.2.2 : Int) < st.2.2.1))
  (bindK (listAt st.2.1 st.2.2.2) fun e3 =>
  bindK (path_Component e3) fun r4 =>
  brK (!r4)
  (some (.inr (.inl (([] : List ByteArray), false))))
  (rec (st.1, st.2.1, st.2.2.1, (IntKind.wrap .i64 (st.2.2.2 + 1)))))
  (some (.inl st.1))

noncomputable def path_directory_L6 : Nat → ((List ByteArray) × (List ByteArray) × Int × Int) → Option ((List ByteArray) ⊕ (((List ByteArray) × Bool) ⊕ Empty))
  | 0, _ => none
  | n + 1, st => path_directory_L6_B (path_directory_L6 n) st

noncomputable def path_directory_L6_f (st : (List ByteArray) × (List ByteArray) × Int × Int) : Option ((List ByteArray) ⊕ (((List ByteArray) × Bool) ⊕ Empty)) := path_directory_L6 (List.length st.1 + List.length st.2.1 + Int.natAbs st.2.2.1 + Int.natAbs st.2.2.2 + 1000) st

/-- stockyard/path.directory. -/
noncomputable def path_directory (x : ByteArray) : Option ((List ByteArray) × Bool) :=
  bindK (strings_CutPrefix (x, (ByteArray.mk #[47, 47]))) fun r1001 =>
  brK (!r1001.2)
  (some (([] : List ByteArray), false))
  (bindK (strings_Split (r1001.1, (ByteArray.mk #[47]))) fun r1002 =>
  bindK (path_directory_L6_f (r1002, r1002, (r1002.length : Int), 0)) fun o1003 =>
  sumK o1003 (fun y1004 =>
  some (y1004, true))
  (fun z1005 => sumK z1005 (fun y1006 =>
  some y1006)
  (fun z1007 => emptyK z1007)))

noncomputable def path_directory_sp : FSpec := ⟨85, .str, (.tup (.pair (.list .str) .bool)), path_directory⟩
noncomputable def path_directory_lo : List FSpec := [strings_CutPrefix_sp, strings_Split_sp, path_Component_sp]
noncomputable def path_directory_L6_e : LEnt := ⟨6, ⟨29, 0, [6, 18, 19, 20], (.pair (.list .str) (.pair (.list .str) (.pair (.int .i64) (.int .i64))))⟩, [((.exit 0), ⟨29, 0, [6], (.list .str)⟩), (.ret, ⟨29, 1, [2, 3], (.pair (.own 0 9 .str) .bool)⟩)], path_directory_L6_f⟩
noncomputable def path_directory_ll : List LEnt := [path_directory_L6_e]
theorem path_directory_ook : OOK Tryd.prog tG (otab path_directory_lo) := ook_of (l := path_directory_lo) (by
    intro sp hsp
    simp only [path_directory_lo, List.mem_cons, List.not_mem_nil, or_false] at hsp
    rcases hsp with rfl | rfl | rfl
    · exact strings_CutPrefix_ok
    · exact strings_Split_ok
    · exact path_Component_ok)
noncomputable def path_directory_c : Code := (Tryd.f85.body).getD .skip
theorem path_directory_L6_B_eq (n : Nat) (st : path_directory_L6_e.head.shape.den) : path_directory_L6 (n + 1) st = aexecK tT (otabK path_directory_lo) noX (itabK tT []) (ltabK path_directory_ll) (((loops path_directory_c)[0]?).getD .skip) (path_directory_L6_e.head.enc st) (lres path_directory_L6_e.head path_directory_L6_e.exits (path_directory_L6 n)) := by kernel_rfl
theorem path_directory_L6_lok : LOK Tryd.prog tG (ltab path_directory_ll) (((loops path_directory_c)[0]?).getD .skip) :=
  lok_of tT_ok path_directory_ook (iok_of tT_ok tP_mixed (l := []) (fun _ h => nomatch h)) tP_mixed (loopsOK_of (by
    have e : loops (((loops path_directory_c)[0]?).getD .skip) = [] := by kernel_rfl
    rw [e]
    intro a ha
    cases ha)) path_directory_L6_e (F := path_directory_L6) (fun st => List.length st.1 + List.length st.2.1 + Int.natAbs st.2.2.1 + Int.natAbs st.2.2.2 + 1000) (fun s => by kernel_rfl) (fun st => by kernel_rfl) (fun st => by kernel_rfl) (fun n st => (path_directory_L6_B_eq n st).trans (loopF_eq tT path_directory_lo noX [] path_directory_ll (((loops path_directory_c)[0]?).getD .skip) path_directory_L6_e.head path_directory_L6_e.exits (path_directory_L6 n) st).symm)
theorem path_directory_h (x : path_directory_sp.arg.den) : path_directory_sp.f x = bodyF tT (otab path_directory_lo) noX (itab tT []) (ltab path_directory_ll) Tryd.f85 path_directory_sp.arg path_directory_sp.res x := by
  rw [bodyF_eq]
  kernel_rfl
theorem path_directory_ok : SpecOK Tryd.prog tG path_directory_sp :=
  spec_of_body (c := path_directory_c) tT_ok path_directory_ook (iok_of tT_ok tP_mixed (l := []) (fun _ h => nomatch h)) tP_mixed (fn := Tryd.f85) Tryd.func85 (by kernel_rfl) (by kernel_rfl) (loopsOK_of (by
    have e : loops path_directory_c = [((loops path_directory_c)[0]?).getD .skip] := by kernel_rfl
    rw [e]
    intro a ha
    simp only [List.mem_cons, List.not_mem_nil, or_false] at ha
    rcases ha with rfl
    · exact path_directory_L6_lok)) (fun x => enc_closed x (by kernel_rfl)) (by kernel_rfl) (by kernel_rfl) path_directory_h


/-- stockyard/path.Split. -/
noncomputable def path_Split (x : ByteArray) : Option ((List ByteArray) × Int) :=
  bindK (path_directory x) fun r1001 =>
  brK (!r1001.2)
  (some (([] : List ByteArray), 20))
  (brK (decide (((r1001.1.length : Int) : Int) < 2))
  (some (([] : List ByteArray), 20))
  (some (r1001.1, 0)))

noncomputable def path_Split_sp : FSpec := ⟨62, .str, (.tup (.pair (.list .str) (.int .i64))), path_Split⟩
noncomputable def path_Split_lo : List FSpec := [path_directory_sp]
noncomputable def path_Split_ll : List LEnt := []
theorem path_Split_ook : OOK Tryd.prog tG (otab path_Split_lo) := ook_of (l := path_Split_lo) (by
    intro sp hsp
    simp only [path_Split_lo, List.mem_cons, List.not_mem_nil, or_false] at hsp
    rcases hsp with rfl
    · exact path_directory_ok)
noncomputable def path_Split_c : Code := (Tryd.f62.body).getD .skip
theorem path_Split_h (x : path_Split_sp.arg.den) : path_Split_sp.f x = bodyF tT (otab path_Split_lo) noX (itab tT []) (ltab path_Split_ll) Tryd.f62 path_Split_sp.arg path_Split_sp.res x := by
  rw [bodyF_eq]
  kernel_rfl
theorem path_Split_ok : SpecOK Tryd.prog tG path_Split_sp :=
  spec_of_body (c := path_Split_c) tT_ok path_Split_ook (iok_of tT_ok tP_mixed (l := []) (fun _ h => nomatch h)) tP_mixed (fn := Tryd.f62) Tryd.func62 (by kernel_rfl) (by kernel_rfl) (loopsOK_of (by
    have e : loops path_Split_c = [] := by kernel_rfl
    rw [e]
    intro a ha
    cases ha)) (fun x => enc_closed x (by kernel_rfl)) (by kernel_rfl) (by kernel_rfl) path_Split_h

/-- A round of the loop 7 of stockyard/pattern.Match. -/
noncomputable def pattern_Match_L7_B (rec : (((List ByteArray) × Bool) × (List ByteArray) × Int × (List ByteArray) × (List ByteArray) × Int × Int) → Option ((((List ByteArray) × Bool) × (List ByteArray) × Int × List ByteArray) ⊕ (((List ByteArray) × Bool) ⊕ Empty))) (st : ((List ByteArray) × Bool) × (List ByteArray) × Int × (List ByteArray) × (List ByteArray) × Int × Int) : Option ((((List ByteArray) × Bool) × (List ByteArray) × Int × List ByteArray) ⊕ (((List ByteArray) × Bool) ⊕ Empty)) :=
  brK (decide ((st.2.2.2.2.2.2 : Int) < st.2.2.2.2.2.1))
  (bindK (listAt st.2.2.2.2.1 st.2.2.2.2.2.2) fun e3 =>
  bindK (pattern_formOf e3) fun r4 =>
  brK (decide ((r4.1 : Int) = 1))
  (bindK (listAt st.2.1 st.2.2.2.2.2.2) fun e5 =>
  brK (decide (e5 ≠ e3))
  (some (.inr (.inl (([] : List ByteArray), false))))
  (rec (st.1, st.2.1, st.2.2.1, st.2.2.2.1, st.2.2.2.2.1, st.2.2.2.2.2.1, (IntKind.wrap .i64 (st.2.2.2.2.2.2 + 1)))))
  (bindK (listAt st.2.1 st.2.2.2.2.2.2) fun e6 =>
  bindK (pattern_capture (e6, r4.2)) fun r7 =>
  brK (!r7.2)
  (some (.inr (.inl (([] : List ByteArray), false))))
  (brK (fits (List.length st.2.2.2.1) (List.length ([r7.1] : List ByteArray)) 16)
  (rec (st.1, st.2.1, st.2.2.1, (st.2.2.2.1 ++ ([r7.1] : List ByteArray)), st.2.2.2.2.1, st.2.2.2.2.2.1, (IntKind.wrap .i64 (st.2.2.2.2.2.2 + 1))))
  (none))))
  (some (.inl (st.1, st.2.1, st.2.2.1, st.2.2.2.1)))

noncomputable def pattern_Match_L7 : Nat → (((List ByteArray) × Bool) × (List ByteArray) × Int × (List ByteArray) × (List ByteArray) × Int × Int) → Option ((((List ByteArray) × Bool) × (List ByteArray) × Int × List ByteArray) ⊕ (((List ByteArray) × Bool) ⊕ Empty))
  | 0, _ => none
  | n + 1, st => pattern_Match_L7_B (pattern_Match_L7 n) st

noncomputable def pattern_Match_L7_f (st : ((List ByteArray) × Bool) × (List ByteArray) × Int × (List ByteArray) × (List ByteArray) × Int × Int) : Option ((((List ByteArray) × Bool) × (List ByteArray) × Int × List ByteArray) ⊕ (((List ByteArray) × Bool) ⊕ Empty)) := pattern_Match_L7 (List.length st.1.1 + List.length st.2.1 + Int.natAbs st.2.2.1 + List.length st.2.2.2.1 + List.length st.2.2.2.2.1 + Int.natAbs st.2.2.2.2.2.1 + Int.natAbs st.2.2.2.2.2.2 + 1000) st

/-- stockyard/pattern.Match. -/
noncomputable def pattern_Match (x : Pat × ByteArray) : Option ((List ByteArray) × Bool) :=
  bindK (path_Split x.2) fun r1001 =>
  brK (decide ((r1001.2 : Int) ≠ 0))
  (some (([] : List ByteArray), false))
  (bindK (pattern_Check x.1) fun r1002 =>
  brK (decide ((r1002 : Int) ≠ 0))
  (some (([] : List ByteArray), false))
  (brK (decide (((r1001.1.length : Int) : Int) < (x.1.1.length : Int)))
  (some (([] : List ByteArray), false))
  (brK (!((decide (((r1001.1.length : Int) : Int) > (x.1.1.length : Int))) == x.1.2))
  (some (([] : List ByteArray), false))
  (bindK (pattern_Match_L7_f (x.1, r1001.1, (x.1.1.length : Int), ([] : List ByteArray), x.1.1, (x.1.1.length : Int), 0)) fun o1003 =>
  sumK o1003 (fun y1004 =>
  brK y1004.1.2
  (brK (decide (0 ≤ (y1004.2.2.1 : Int) ∧ (y1004.2.2.1 : Int) ≤ (y1004.2.1.length : Int) ∧ (y1004.2.1.length : Int) ≤ (y1004.2.1.length : Int)))
  (bindK (strings_Join ((List.drop (Int.toNat y1004.2.2.1) (List.take (Int.toNat (y1004.2.1.length : Int)) y1004.2.1)), (ByteArray.mk #[47]))) fun r1006 =>
  brK (fits (List.length y1004.2.2.2) (List.length ([r1006] : List ByteArray)) 16)
  (some ((y1004.2.2.2 ++ ([r1006] : List ByteArray)), true))
  (none))
  (none))
  (some (y1004.2.2.2, true)))
  (fun z1005 => sumK z1005 (fun y1007 =>
  some y1007)
  (fun z1008 => emptyK z1008))))))

noncomputable def pattern_Match_sp : FSpec := ⟨36, (.pair (.agg (.prod (.list .str) .bool)) .str), (.tup (.pair (.list .str) .bool)), pattern_Match⟩
noncomputable def pattern_Match_lo : List FSpec := [path_Split_sp, pattern_Check_sp, pattern_formOf_sp, pattern_capture_sp, strings_Join_sp]
noncomputable def pattern_Match_L7_e : LEnt := ⟨7, ⟨93, 2, [2, 6, 8, 9, 47, 48, 49], (.pair (.box 0 (.pair (.list .str) .bool)) (.pair (.list .str) (.pair (.int .i64) (.pair (.own 1 9 .str) (.pair (.list .str) (.pair (.int .i64) (.int .i64)))))))⟩, [((.exit 0), ⟨93, 2, [2, 6, 8, 9], (.pair (.box 0 (.pair (.list .str) .bool)) (.pair (.list .str) (.pair (.int .i64) (.own 1 9 .str))))⟩), (.ret, ⟨93, 1, [4, 5], (.pair (.own 0 9 .str) .bool)⟩)], pattern_Match_L7_f⟩
noncomputable def pattern_Match_ll : List LEnt := [pattern_Match_L7_e]
theorem pattern_Match_ook : OOK Tryd.prog tG (otab pattern_Match_lo) := ook_of (l := pattern_Match_lo) (by
    intro sp hsp
    simp only [pattern_Match_lo, List.mem_cons, List.not_mem_nil, or_false] at hsp
    rcases hsp with rfl | rfl | rfl | rfl | rfl
    · exact path_Split_ok
    · exact pattern_Check_ok
    · exact pattern_formOf_ok
    · exact pattern_capture_ok
    · exact strings_Join_ok)
noncomputable def pattern_Match_c : Code := (Tryd.f36.body).getD .skip
theorem pattern_Match_L7_B_eq (n : Nat) (st : pattern_Match_L7_e.head.shape.den) : pattern_Match_L7 (n + 1) st = aexecK tT (otabK pattern_Match_lo) noX (itabK tT []) (ltabK pattern_Match_ll) (((loops pattern_Match_c)[0]?).getD .skip) (pattern_Match_L7_e.head.enc st) (lres pattern_Match_L7_e.head pattern_Match_L7_e.exits (pattern_Match_L7 n)) := by kernel_rfl
theorem pattern_Match_L7_lok : LOK Tryd.prog tG (ltab pattern_Match_ll) (((loops pattern_Match_c)[0]?).getD .skip) :=
  lok_of tT_ok pattern_Match_ook (iok_of tT_ok tP_mixed (l := []) (fun _ h => nomatch h)) tP_mixed (loopsOK_of (by
    have e : loops (((loops pattern_Match_c)[0]?).getD .skip) = [] := by kernel_rfl
    rw [e]
    intro a ha
    cases ha)) pattern_Match_L7_e (F := pattern_Match_L7) (fun st => List.length st.1.1 + List.length st.2.1 + Int.natAbs st.2.2.1 + List.length st.2.2.2.1 + List.length st.2.2.2.2.1 + Int.natAbs st.2.2.2.2.2.1 + Int.natAbs st.2.2.2.2.2.2 + 1000) (fun s => by kernel_rfl) (fun st => by kernel_rfl) (fun st => by kernel_rfl) (fun n st => (pattern_Match_L7_B_eq n st).trans (loopF_eq tT pattern_Match_lo noX [] pattern_Match_ll (((loops pattern_Match_c)[0]?).getD .skip) pattern_Match_L7_e.head pattern_Match_L7_e.exits (pattern_Match_L7 n) st).symm)
theorem pattern_Match_h (x : pattern_Match_sp.arg.den) : pattern_Match_sp.f x = bodyF tT (otab pattern_Match_lo) noX (itab tT []) (ltab pattern_Match_ll) Tryd.f36 pattern_Match_sp.arg pattern_Match_sp.res x := by
  rw [bodyF_eq]
  kernel_rfl
theorem pattern_Match_ok : SpecOK Tryd.prog tG pattern_Match_sp :=
  spec_of_body (c := pattern_Match_c) tT_ok pattern_Match_ook (iok_of tT_ok tP_mixed (l := []) (fun _ h => nomatch h)) tP_mixed (fn := Tryd.f36) Tryd.func36 (by kernel_rfl) (by kernel_rfl) (loopsOK_of (by
    have e : loops pattern_Match_c = [((loops pattern_Match_c)[0]?).getD .skip] := by kernel_rfl
    rw [e]
    intro a ha
    simp only [List.mem_cons, List.not_mem_nil, or_false] at ha
    rcases ha with rfl
    · exact pattern_Match_L7_lok)) (fun x => enc_closed x (by kernel_rfl)) (by kernel_rfl) (by kernel_rfl) pattern_Match_h


/-- stockyard/region.Has$1. -/
noncomputable def region_Has_1 (x : Pat × ByteArray) : Option Bool :=
  bindK (pattern_Match x) fun r1001 =>
  some r1001.2

noncomputable def region_Has_1_sp : FSpec := ⟨38, (.pair (.agg (.prod (.list .str) .bool)) (.ptr .str)), .bool, region_Has_1⟩
noncomputable def region_Has_1_lo : List FSpec := [pattern_Match_sp]
noncomputable def region_Has_1_ll : List LEnt := []
theorem region_Has_1_ook : OOK Tryd.prog tG (otab region_Has_1_lo) := ook_of (l := region_Has_1_lo) (by
    intro sp hsp
    simp only [region_Has_1_lo, List.mem_cons, List.not_mem_nil, or_false] at hsp
    rcases hsp with rfl
    · exact pattern_Match_ok)
noncomputable def region_Has_1_c : Code := (Tryd.f38.body).getD .skip
theorem region_Has_1_h (x : region_Has_1_sp.arg.den) : region_Has_1_sp.f x = bodyF tT (otab region_Has_1_lo) noX (itab tT []) (ltab region_Has_1_ll) Tryd.f38 region_Has_1_sp.arg region_Has_1_sp.res x := by
  rw [bodyF_eq]
  kernel_rfl
theorem region_Has_1_ok : SpecOK Tryd.prog tG region_Has_1_sp :=
  spec_of_body (c := region_Has_1_c) tT_ok region_Has_1_ook (iok_of tT_ok tP_mixed (l := []) (fun _ h => nomatch h)) tP_mixed (fn := Tryd.f38) Tryd.func38 (by kernel_rfl) (by kernel_rfl) (loopsOK_of (by
    have e : loops region_Has_1_c = [] := by kernel_rfl
    rw [e]
    intro a ha
    cases ha)) (fun x => enc_closed x (by kernel_rfl)) (by kernel_rfl) (by kernel_rfl) region_Has_1_h

/-- A round of the loop 2 of slices.IndexFunc[[]stockyard/api.Pattern,stockyard/api.Pattern]. -/
noncomputable def slices_IndexFunc__region_Has_1_L2_B (rec : ((List Pat) × ByteArray × Int × Int) → Option (Unit ⊕ (Int ⊕ Empty))) (st : (List Pat) × ByteArray × Int × Int) : Option (Unit ⊕ (Int ⊕ Empty)) :=
  brK (decide ((st.2.2.2 : Int) < st.2.2.1))
  (bindK (listAt st.1 st.2.2.2) fun e1 =>
  bindK (region_Has_1 (e1, st.2.1)) fun r2 =>
  brK r2
  (some (.inr (.inl st.2.2.2)))
  (rec (st.1, st.2.1, st.2.2.1, (IntKind.wrap .i64 (st.2.2.2 + 1)))))
  (some (.inl ()))

noncomputable def slices_IndexFunc__region_Has_1_L2 : Nat → ((List Pat) × ByteArray × Int × Int) → Option (Unit ⊕ (Int ⊕ Empty))
  | 0, _ => none
  | n + 1, st => slices_IndexFunc__region_Has_1_L2_B (slices_IndexFunc__region_Has_1_L2 n) st

noncomputable def slices_IndexFunc__region_Has_1_L2_f (st : (List Pat) × ByteArray × Int × Int) : Option (Unit ⊕ (Int ⊕ Empty)) := slices_IndexFunc__region_Has_1_L2 (List.length st.1 + ByteArray.size st.2.1 + Int.natAbs st.2.2.1 + Int.natAbs st.2.2.2 + 1000) st

/-- slices.IndexFunc[[]stockyard/api.Pattern,stockyard/api.Pattern]. -/
noncomputable def slices_IndexFunc__region_Has_1 (x : (List Pat) × ByteArray) : Option Int :=
  bindK (slices_IndexFunc__region_Has_1_L2_f (x.1, x.2, (x.1.length : Int), 0)) fun o1001 =>
  sumK o1001 (fun y1002 =>
  some (-1))
  (fun z1003 => sumK z1003 (fun y1004 =>
  some y1004)
  (fun z1005 => emptyK z1005))

noncomputable def slices_IndexFunc__region_Has_1_sp : FSpec := ⟨65, (.pair (.list (.prod (.list .str) .bool)) (.fn 38 (.ptr .str))), (.int .i64), slices_IndexFunc__region_Has_1⟩
noncomputable def slices_IndexFunc__region_Has_1_lo : List FSpec := [region_Has_1_sp]
noncomputable def slices_IndexFunc__region_Has_1_L2_e : LEnt := ⟨2, ⟨19, 0, [0, 1, 7, 8], (.pair (.list (.prod (.list .str) .bool)) (.pair (.fn 38 (.ptr .str)) (.pair (.int .i64) (.int .i64))))⟩, [((.exit 0), ⟨19, 0, [], .nil⟩), (.ret, ⟨19, 0, [4], (.int .i64)⟩)], slices_IndexFunc__region_Has_1_L2_f⟩
noncomputable def slices_IndexFunc__region_Has_1_ll : List LEnt := [slices_IndexFunc__region_Has_1_L2_e]
theorem slices_IndexFunc__region_Has_1_ook : OOK Tryd.prog tG (otab slices_IndexFunc__region_Has_1_lo) := ook_of (l := slices_IndexFunc__region_Has_1_lo) (by
    intro sp hsp
    simp only [slices_IndexFunc__region_Has_1_lo, List.mem_cons, List.not_mem_nil, or_false] at hsp
    rcases hsp with rfl
    · exact region_Has_1_ok)
noncomputable def slices_IndexFunc__region_Has_1_c : Code := (Tryd.f65.body).getD .skip
theorem slices_IndexFunc__region_Has_1_L2_B_eq (n : Nat) (st : slices_IndexFunc__region_Has_1_L2_e.head.shape.den) : slices_IndexFunc__region_Has_1_L2 (n + 1) st = aexecK tT (otabK slices_IndexFunc__region_Has_1_lo) noX (itabK tT []) (ltabK slices_IndexFunc__region_Has_1_ll) (((loops slices_IndexFunc__region_Has_1_c)[0]?).getD .skip) (slices_IndexFunc__region_Has_1_L2_e.head.enc st) (lres slices_IndexFunc__region_Has_1_L2_e.head slices_IndexFunc__region_Has_1_L2_e.exits (slices_IndexFunc__region_Has_1_L2 n)) := by kernel_rfl
theorem slices_IndexFunc__region_Has_1_L2_lok : LOK Tryd.prog tG (ltab slices_IndexFunc__region_Has_1_ll) (((loops slices_IndexFunc__region_Has_1_c)[0]?).getD .skip) :=
  lok_of tT_ok slices_IndexFunc__region_Has_1_ook (iok_of tT_ok tP_mixed (l := []) (fun _ h => nomatch h)) tP_mixed (loopsOK_of (by
    have e : loops (((loops slices_IndexFunc__region_Has_1_c)[0]?).getD .skip) = [] := by kernel_rfl
    rw [e]
    intro a ha
    cases ha)) slices_IndexFunc__region_Has_1_L2_e (F := slices_IndexFunc__region_Has_1_L2) (fun st => List.length st.1 + ByteArray.size st.2.1 + Int.natAbs st.2.2.1 + Int.natAbs st.2.2.2 + 1000) (fun s => by kernel_rfl) (fun st => by kernel_rfl) (fun st => by kernel_rfl) (fun n st => (slices_IndexFunc__region_Has_1_L2_B_eq n st).trans (loopF_eq tT slices_IndexFunc__region_Has_1_lo noX [] slices_IndexFunc__region_Has_1_ll (((loops slices_IndexFunc__region_Has_1_c)[0]?).getD .skip) slices_IndexFunc__region_Has_1_L2_e.head slices_IndexFunc__region_Has_1_L2_e.exits (slices_IndexFunc__region_Has_1_L2 n) st).symm)
theorem slices_IndexFunc__region_Has_1_h (x : slices_IndexFunc__region_Has_1_sp.arg.den) : slices_IndexFunc__region_Has_1_sp.f x = bodyF tT (otab slices_IndexFunc__region_Has_1_lo) noX (itab tT []) (ltab slices_IndexFunc__region_Has_1_ll) Tryd.f65 slices_IndexFunc__region_Has_1_sp.arg slices_IndexFunc__region_Has_1_sp.res x := by
  rw [bodyF_eq]
  kernel_rfl
theorem slices_IndexFunc__region_Has_1_ok : SpecOK Tryd.prog tG slices_IndexFunc__region_Has_1_sp :=
  spec_of_body (c := slices_IndexFunc__region_Has_1_c) tT_ok slices_IndexFunc__region_Has_1_ook (iok_of tT_ok tP_mixed (l := []) (fun _ h => nomatch h)) tP_mixed (fn := Tryd.f65) Tryd.func65 (by kernel_rfl) (by kernel_rfl) (loopsOK_of (by
    have e : loops slices_IndexFunc__region_Has_1_c = [((loops slices_IndexFunc__region_Has_1_c)[0]?).getD .skip] := by kernel_rfl
    rw [e]
    intro a ha
    simp only [List.mem_cons, List.not_mem_nil, or_false] at ha
    rcases ha with rfl
    · exact slices_IndexFunc__region_Has_1_L2_lok)) (fun x => enc_closed x (by kernel_rfl)) (by kernel_rfl) (by kernel_rfl) slices_IndexFunc__region_Has_1_h


/-- slices.ContainsFunc[[]stockyard/api.Pattern,stockyard/api.Pattern]. -/
noncomputable def slices_ContainsFunc__region_Has_1 (x : (List Pat) × ByteArray) : Option Bool :=
  bindK (slices_IndexFunc__region_Has_1 x) fun r1001 =>
  some (decide ((r1001 : Int) ≥ 0))

noncomputable def slices_ContainsFunc__region_Has_1_sp : FSpec := ⟨37, (.pair (.list (.prod (.list .str) .bool)) (.fn 38 (.ptr .str))), .bool, slices_ContainsFunc__region_Has_1⟩
noncomputable def slices_ContainsFunc__region_Has_1_lo : List FSpec := [slices_IndexFunc__region_Has_1_sp]
noncomputable def slices_ContainsFunc__region_Has_1_ll : List LEnt := []
theorem slices_ContainsFunc__region_Has_1_ook : OOK Tryd.prog tG (otab slices_ContainsFunc__region_Has_1_lo) := ook_of (l := slices_ContainsFunc__region_Has_1_lo) (by
    intro sp hsp
    simp only [slices_ContainsFunc__region_Has_1_lo, List.mem_cons, List.not_mem_nil, or_false] at hsp
    rcases hsp with rfl
    · exact slices_IndexFunc__region_Has_1_ok)
noncomputable def slices_ContainsFunc__region_Has_1_c : Code := (Tryd.f37.body).getD .skip
theorem slices_ContainsFunc__region_Has_1_h (x : slices_ContainsFunc__region_Has_1_sp.arg.den) : slices_ContainsFunc__region_Has_1_sp.f x = bodyF tT (otab slices_ContainsFunc__region_Has_1_lo) noX (itab tT []) (ltab slices_ContainsFunc__region_Has_1_ll) Tryd.f37 slices_ContainsFunc__region_Has_1_sp.arg slices_ContainsFunc__region_Has_1_sp.res x := by
  rw [bodyF_eq]
  kernel_rfl
theorem slices_ContainsFunc__region_Has_1_ok : SpecOK Tryd.prog tG slices_ContainsFunc__region_Has_1_sp :=
  spec_of_body (c := slices_ContainsFunc__region_Has_1_c) tT_ok slices_ContainsFunc__region_Has_1_ook (iok_of tT_ok tP_mixed (l := []) (fun _ h => nomatch h)) tP_mixed (fn := Tryd.f37) Tryd.func37 (by kernel_rfl) (by kernel_rfl) (loopsOK_of (by
    have e : loops slices_ContainsFunc__region_Has_1_c = [] := by kernel_rfl
    rw [e]
    intro a ha
    cases ha)) (fun x => enc_closed x (by kernel_rfl)) (by kernel_rfl) (by kernel_rfl) slices_ContainsFunc__region_Has_1_h


/-- stockyard/region.Has. -/
noncomputable def region_Has (x : Reg × ByteArray) : Option Bool :=
  bindK (region_Check x.1) fun r1001 =>
  brK (decide ((r1001 : Int) ≠ 0))
  (some false)
  (bindK (pattern_Match (x.1.1, x.2)) fun r1002 =>
  brK r1002.2
  (bindK (slices_ContainsFunc__region_Has_1 (x.1.2, x.2)) fun r1003 =>
  some (!r1003))
  (some false))

noncomputable def region_Has_sp : FSpec := ⟨17, (.pair (.agg (.prod (.prod (.list .str) .bool) (.list (.prod (.list .str) .bool)))) .str), .bool, region_Has⟩
noncomputable def region_Has_lo : List FSpec := [region_Check_sp, pattern_Match_sp, slices_ContainsFunc__region_Has_1_sp]
noncomputable def region_Has_ll : List LEnt := []
theorem region_Has_ook : OOK Tryd.prog tG (otab region_Has_lo) := ook_of (l := region_Has_lo) (by
    intro sp hsp
    simp only [region_Has_lo, List.mem_cons, List.not_mem_nil, or_false] at hsp
    rcases hsp with rfl | rfl | rfl
    · exact region_Check_ok
    · exact pattern_Match_ok
    · exact slices_ContainsFunc__region_Has_1_ok)
noncomputable def region_Has_c : Code := (Tryd.f17.body).getD .skip
theorem region_Has_h (x : region_Has_sp.arg.den) : region_Has_sp.f x = bodyF tT (otab region_Has_lo) noX (itab tT []) (ltab region_Has_ll) Tryd.f17 region_Has_sp.arg region_Has_sp.res x := by
  rw [bodyF_eq]
  kernel_rfl
theorem region_Has_ok : SpecOK Tryd.prog tG region_Has_sp :=
  spec_of_body (c := region_Has_c) tT_ok region_Has_ook (iok_of tT_ok tP_mixed (l := []) (fun _ h => nomatch h)) tP_mixed (fn := Tryd.f17) Tryd.func17 (by kernel_rfl) (by kernel_rfl) (loopsOK_of (by
    have e : loops region_Has_c = [] := by kernel_rfl
    rw [e]
    intro a ha
    cases ha)) (fun x => enc_closed x (by kernel_rfl)) (by kernel_rfl) (by kernel_rfl) region_Has_h


/-- stockyard/stockyardlaw05.RegionKeeps. -/
noncomputable def law05_RegionKeeps (x : Reg × ByteArray) : Option Bool :=
  bindK (law05_small x.1) fun r1001 =>
  brK (!r1001)
  (bindK (law05_awake ()) fun r1002 =>
  some r1002)
  (brK (decide (((x.2.size : Int) : Int) > 300))
  (bindK (law05_awake ()) fun r1003 =>
  some r1003)
  (bindK (region_Simplify x.1) fun r1004 =>
  brK (decide ((r1004.2 : Int) ≠ 0))
  (bindK (region_Check x.1) fun r1005 =>
  brK (decide ((r1004.2 : Int) = r1005))
  (bindK (law05_awake ()) fun r1006 =>
  some r1006)
  (some false))
  (bindK (region_Simplify r1004.1) fun r1007 =>
  brK (decide ((r1007.2 : Int) = 0))
  (bindK (ref05_Same (r1004.1, r1007.1)) fun r1008 =>
  brK r1008
  (brK (decide (((r1004.1.2.length : Int) : Int) ≤ (x.1.2.length : Int)))
  (bindK (region_Has (r1004.1, x.2)) fun r1009 =>
  bindK (region_Has x) fun r1010 =>
  brK (r1009 == r1010)
  (bindK (law05_awake ()) fun r1011 =>
  some r1011)
  (some false))
  (some false))
  (some false))
  (some false))))

noncomputable def law05_RegionKeeps_sp : FSpec := ⟨6, (.pair (.agg (.prod (.prod (.list .str) .bool) (.list (.prod (.list .str) .bool)))) .str), .bool, law05_RegionKeeps⟩
noncomputable def law05_RegionKeeps_lo : List FSpec := [law05_small_sp, law05_awake_sp, region_Simplify_sp, region_Check_sp, ref05_Same_sp, region_Has_sp]
noncomputable def law05_RegionKeeps_ll : List LEnt := []
theorem law05_RegionKeeps_ook : OOK Tryd.prog tG (otab law05_RegionKeeps_lo) := ook_of (l := law05_RegionKeeps_lo) (by
    intro sp hsp
    simp only [law05_RegionKeeps_lo, List.mem_cons, List.not_mem_nil, or_false] at hsp
    rcases hsp with rfl | rfl | rfl | rfl | rfl | rfl
    · exact law05_small_ok
    · exact law05_awake_ok
    · exact region_Simplify_ok
    · exact region_Check_ok
    · exact ref05_Same_ok
    · exact region_Has_ok)
noncomputable def law05_RegionKeeps_c : Code := (Tryd.f6.body).getD .skip
theorem law05_RegionKeeps_h (x : law05_RegionKeeps_sp.arg.den) : law05_RegionKeeps_sp.f x = bodyF tT (otab law05_RegionKeeps_lo) noX (itab tT []) (ltab law05_RegionKeeps_ll) Tryd.f6 law05_RegionKeeps_sp.arg law05_RegionKeeps_sp.res x := by
  rw [bodyF_eq]
  kernel_rfl
theorem law05_RegionKeeps_ok : SpecOK Tryd.prog tG law05_RegionKeeps_sp :=
  spec_of_body (c := law05_RegionKeeps_c) tT_ok law05_RegionKeeps_ook (iok_of tT_ok tP_mixed (l := []) (fun _ h => nomatch h)) tP_mixed (fn := Tryd.f6) Tryd.func6 (by kernel_rfl) (by kernel_rfl) (loopsOK_of (by
    have e : loops law05_RegionKeeps_c = [] := by kernel_rfl
    rw [e]
    intro a ha
    cases ha)) (fun x => enc_closed x (by kernel_rfl)) (by kernel_rfl) (by kernel_rfl) law05_RegionKeeps_h


/-- slices.Grow[[]stockyard/api.Pattern,stockyard/api.Pattern]. -/
noncomputable def slices_Grow (x : Unit × Int) : Option (List Pat) :=
  growF x
noncomputable def slices_Grow_sp : FSpec := ⟨76, (.pair .snil (.int .i64)), (.own 0 27 (.prod (.list .str) .bool)), slices_Grow⟩
theorem slices_Grow_ok : SpecOK Tryd.prog tG slices_Grow_sp := (grow_fresh _).spec

/-- A round of the loop 3 of slices.Concat[[]stockyard/api.Pattern,stockyard/api.Pattern]. -/
noncomputable def slices_Concat_L3_B (rec : ((List (List Pat)) × Int × (List (List Pat)) × Int × Int) → Option (((List (List Pat)) × Int) ⊕ Empty)) (st : (List (List Pat)) × Int × (List (List Pat)) × Int × Int) : Option (((List (List Pat)) × Int) ⊕ Empty) :=
  brK (decide ((st.2.2.2.2 : Int) < st.2.2.2.1))
  (bindK (listAt st.2.2.1 st.2.2.2.2) fun e1 =>
  brK (decide (((IntKind.wrap .i64 (st.2.1 + (e1.length : Int))) : Int) < 0))
  (none)
  (rec (st.1, (IntKind.wrap .i64 (st.2.1 + (e1.length : Int))), st.2.2.1, st.2.2.2.1, (IntKind.wrap .i64 (st.2.2.2.2 + 1)))))
  (some (.inl (st.1, st.2.1)))

noncomputable def slices_Concat_L3 : Nat → ((List (List Pat)) × Int × (List (List Pat)) × Int × Int) → Option (((List (List Pat)) × Int) ⊕ Empty)
  | 0, _ => none
  | n + 1, st => slices_Concat_L3_B (slices_Concat_L3 n) st

noncomputable def slices_Concat_L3_f (st : (List (List Pat)) × Int × (List (List Pat)) × Int × Int) : Option (((List (List Pat)) × Int) ⊕ Empty) := slices_Concat_L3 (List.length st.1 + Int.natAbs st.2.1 + List.length st.2.2.1 + Int.natAbs st.2.2.2.1 + Int.natAbs st.2.2.2.2 + 1000) st

/-- A round of the loop 11 of slices.Concat[[]stockyard/api.Pattern,stockyard/api.Pattern]. -/
noncomputable def slices_Concat_L11_B (rec : ((List Pat) × (List (List Pat)) × Int × Int) → Option ((List Pat) ⊕ Empty)) (st : (List Pat) × (List (List Pat)) × Int × Int) : Option ((List Pat) ⊕ Empty) :=
  brK (decide ((st.2.2.2 : Int) < st.2.2.1))
  (bindK (listAt st.2.1 st.2.2.2) fun e6 =>
  brK (fits (List.length st.1) (List.length e6) 32)
  (rec ((st.1 ++ e6), st.2.1, st.2.2.1, (IntKind.wrap .i64 (st.2.2.2 + 1))))
  (none))
  (some (.inl st.1))

noncomputable def slices_Concat_L11 : Nat → ((List Pat) × (List (List Pat)) × Int × Int) → Option ((List Pat) ⊕ Empty)
  | 0, _ => none
  | n + 1, st => slices_Concat_L11_B (slices_Concat_L11 n) st

noncomputable def slices_Concat_L11_f (st : (List Pat) × (List (List Pat)) × Int × Int) : Option ((List Pat) ⊕ Empty) := slices_Concat_L11 (List.length st.1 + List.length st.2.1 + Int.natAbs st.2.2.1 + Int.natAbs st.2.2.2 + 1000) st

/-- slices.Concat[[]stockyard/api.Pattern,stockyard/api.Pattern]. -/
noncomputable def slices_Concat (x : List (List Pat)) : Option (List Pat) :=
  bindK (slices_Concat_L3_f (x, 0, x, (x.length : Int), 0)) fun o1001 =>
  sumK o1001 (fun y1002 =>
  bindK (slices_Grow ((), y1002.2)) fun r1004 =>
  bindK (slices_Concat_L11_f (r1004, y1002.1, (y1002.1.length : Int), 0)) fun o1005 =>
  sumK o1005 (fun y1006 =>
  some y1006)
  (fun z1007 => emptyK z1007))
  (fun z1003 => emptyK z1003)

noncomputable def slices_Concat_sp : FSpec := ⟨43, (.list (.list (.prod (.list .str) .bool))), (.list (.prod (.list .str) .bool)), slices_Concat⟩
noncomputable def slices_Concat_lo : List FSpec := [slices_Grow_sp]
noncomputable def slices_Concat_L3_e : LEnt := ⟨3, ⟨36, 0, [0, 3, 9, 10, 11], (.pair (.list (.list (.prod (.list .str) .bool))) (.pair (.int .i64) (.pair (.list (.list (.prod (.list .str) .bool))) (.pair (.int .i64) (.int .i64)))))⟩, [((.exit 0), ⟨36, 0, [0, 3], (.pair (.list (.list (.prod (.list .str) .bool))) (.int .i64))⟩)], slices_Concat_L3_f⟩
noncomputable def slices_Concat_L11_e : LEnt := ⟨11, ⟨36, 1, [6, 25, 26, 27], (.pair (.own 0 27 (.prod (.list .str) .bool)) (.pair (.list (.list (.prod (.list .str) .bool))) (.pair (.int .i64) (.int .i64))))⟩, [((.exit 2), ⟨36, 1, [6], (.own 0 27 (.prod (.list .str) .bool))⟩)], slices_Concat_L11_f⟩
noncomputable def slices_Concat_ll : List LEnt := [slices_Concat_L3_e, slices_Concat_L11_e]
theorem slices_Concat_ook : OOK Tryd.prog tG (otab slices_Concat_lo) := ook_of (l := slices_Concat_lo) (by
    intro sp hsp
    simp only [slices_Concat_lo, List.mem_cons, List.not_mem_nil, or_false] at hsp
    rcases hsp with rfl
    · exact slices_Grow_ok)
noncomputable def slices_Concat_c : Code := (Tryd.f43.body).getD .skip
theorem slices_Concat_L11_B_eq (n : Nat) (st : slices_Concat_L11_e.head.shape.den) : slices_Concat_L11 (n + 1) st = aexecK tT (otabK slices_Concat_lo) noX (itabK tT []) (ltabK slices_Concat_ll) (((loops slices_Concat_c)[1]?).getD .skip) (slices_Concat_L11_e.head.enc st) (lres slices_Concat_L11_e.head slices_Concat_L11_e.exits (slices_Concat_L11 n)) := by kernel_rfl
theorem slices_Concat_L11_lok : LOK Tryd.prog tG (ltab slices_Concat_ll) (((loops slices_Concat_c)[1]?).getD .skip) :=
  lok_of tT_ok slices_Concat_ook (iok_of tT_ok tP_mixed (l := []) (fun _ h => nomatch h)) tP_mixed (loopsOK_of (by
    have e : loops (((loops slices_Concat_c)[1]?).getD .skip) = [] := by kernel_rfl
    rw [e]
    intro a ha
    cases ha)) slices_Concat_L11_e (F := slices_Concat_L11) (fun st => List.length st.1 + List.length st.2.1 + Int.natAbs st.2.2.1 + Int.natAbs st.2.2.2 + 1000) (fun s => by kernel_rfl) (fun st => by kernel_rfl) (fun st => by kernel_rfl) (fun n st => (slices_Concat_L11_B_eq n st).trans (loopF_eq tT slices_Concat_lo noX [] slices_Concat_ll (((loops slices_Concat_c)[1]?).getD .skip) slices_Concat_L11_e.head slices_Concat_L11_e.exits (slices_Concat_L11 n) st).symm)
theorem slices_Concat_L3_B_eq (n : Nat) (st : slices_Concat_L3_e.head.shape.den) : slices_Concat_L3 (n + 1) st = aexecK tT (otabK slices_Concat_lo) noX (itabK tT []) (ltabK slices_Concat_ll) (((loops slices_Concat_c)[0]?).getD .skip) (slices_Concat_L3_e.head.enc st) (lres slices_Concat_L3_e.head slices_Concat_L3_e.exits (slices_Concat_L3 n)) := by kernel_rfl
theorem slices_Concat_L3_lok : LOK Tryd.prog tG (ltab slices_Concat_ll) (((loops slices_Concat_c)[0]?).getD .skip) :=
  lok_of tT_ok slices_Concat_ook (iok_of tT_ok tP_mixed (l := []) (fun _ h => nomatch h)) tP_mixed (loopsOK_of (by
    have e : loops (((loops slices_Concat_c)[0]?).getD .skip) = [] := by kernel_rfl
    rw [e]
    intro a ha
    cases ha)) slices_Concat_L3_e (F := slices_Concat_L3) (fun st => List.length st.1 + Int.natAbs st.2.1 + List.length st.2.2.1 + Int.natAbs st.2.2.2.1 + Int.natAbs st.2.2.2.2 + 1000) (fun s => by kernel_rfl) (fun st => by kernel_rfl) (fun st => by kernel_rfl) (fun n st => (slices_Concat_L3_B_eq n st).trans (loopF_eq tT slices_Concat_lo noX [] slices_Concat_ll (((loops slices_Concat_c)[0]?).getD .skip) slices_Concat_L3_e.head slices_Concat_L3_e.exits (slices_Concat_L3 n) st).symm)
theorem slices_Concat_h (x : slices_Concat_sp.arg.den) : slices_Concat_sp.f x = bodyF tT (otab slices_Concat_lo) noX (itab tT []) (ltab slices_Concat_ll) Tryd.f43 slices_Concat_sp.arg slices_Concat_sp.res x := by
  rw [bodyF_eq]
  kernel_rfl
theorem slices_Concat_ok : SpecOK Tryd.prog tG slices_Concat_sp :=
  spec_of_body (c := slices_Concat_c) tT_ok slices_Concat_ook (iok_of tT_ok tP_mixed (l := []) (fun _ h => nomatch h)) tP_mixed (fn := Tryd.f43) Tryd.func43 (by kernel_rfl) (by kernel_rfl) (loopsOK_of (by
    have e : loops slices_Concat_c = [((loops slices_Concat_c)[0]?).getD .skip, ((loops slices_Concat_c)[1]?).getD .skip] := by kernel_rfl
    rw [e]
    intro a ha
    simp only [List.mem_cons, List.not_mem_nil, or_false] at ha
    rcases ha with rfl | rfl
    · exact slices_Concat_L3_lok
    · exact slices_Concat_L11_lok)) (fun x => enc_closed x (by kernel_rfl)) (by kernel_rfl) (by kernel_rfl) slices_Concat_h


/-- stockyard/region.Meet. -/
noncomputable def region_Meet (x : Reg × Reg) : Option (Reg × Bool × Int) :=
  bindK (region_Check x.1) fun r1001 =>
  brK (decide ((r1001 : Int) ≠ 0))
  (some (((([] : List ByteArray), false), ([] : List Pat)), false, r1001))
  (bindK (region_Check x.2) fun r1002 =>
  brK (decide ((r1002 : Int) ≠ 0))
  (some (((([] : List ByteArray), false), ([] : List Pat)), false, r1002))
  (bindK (pattern_Meet (x.1.1, x.2.1)) fun r1003 =>
  brK (!r1003.2)
  (some (((([] : List ByteArray), false), ([] : List Pat)), false, 0))
  (bindK (slices_Concat ([x.1.2, x.2.2] : List (List Pat))) fun r1004 =>
  bindK (holes_Simple (r1003.1, r1004)) fun r1005 =>
  brK (decide (((r1005.2.length : Int) : Int) > 64))
  (some (((([] : List ByteArray), false), ([] : List Pat)), false, 52))
  (bindK (holes_Length r1005) fun r1006 =>
  brK (!r1006.2)
  (some (((([] : List ByteArray), false), ([] : List Pat)), false, 0))
  (some (r1005, true, 0))))))

noncomputable def region_Meet_sp : FSpec := ⟨22, (.pair (.agg (.prod (.prod (.list .str) .bool) (.list (.prod (.list .str) .bool)))) (.agg (.prod (.prod (.list .str) .bool) (.list (.prod (.list .str) .bool))))), (.tup (.pair (.agg (.prod (.prod (.list .str) .bool) (.list (.prod (.list .str) .bool)))) (.pair .bool (.int .i64)))), region_Meet⟩
noncomputable def region_Meet_lo : List FSpec := [region_Check_sp, pattern_Meet_sp, slices_Concat_sp, holes_Simple_sp, holes_Length_sp]
noncomputable def region_Meet_ll : List LEnt := []
theorem region_Meet_ook : OOK Tryd.prog tG (otab region_Meet_lo) := ook_of (l := region_Meet_lo) (by
    intro sp hsp
    simp only [region_Meet_lo, List.mem_cons, List.not_mem_nil, or_false] at hsp
    rcases hsp with rfl | rfl | rfl | rfl | rfl
    · exact region_Check_ok
    · exact pattern_Meet_ok
    · exact slices_Concat_ok
    · exact holes_Simple_ok
    · exact holes_Length_ok)
noncomputable def region_Meet_c : Code := (Tryd.f22.body).getD .skip
theorem region_Meet_h (x : region_Meet_sp.arg.den) : region_Meet_sp.f x = bodyF tT (otab region_Meet_lo) noX (itab tT []) (ltab region_Meet_ll) Tryd.f22 region_Meet_sp.arg region_Meet_sp.res x := by
  rw [bodyF_eq]
  kernel_rfl
theorem region_Meet_ok : SpecOK Tryd.prog tG region_Meet_sp :=
  spec_of_body (c := region_Meet_c) tT_ok region_Meet_ook (iok_of tT_ok tP_mixed (l := []) (fun _ h => nomatch h)) tP_mixed (fn := Tryd.f22) Tryd.func22 (by kernel_rfl) (by kernel_rfl) (loopsOK_of (by
    have e : loops region_Meet_c = [] := by kernel_rfl
    rw [e]
    intro a ha
    cases ha)) (fun x => enc_closed x (by kernel_rfl)) (by kernel_rfl) (by kernel_rfl) region_Meet_h


/-- stockyard/stockyardlaw05.RegionMeetMeans. -/
noncomputable def law05_RegionMeetMeans (x : Reg × Reg × ByteArray) : Option Bool :=
  bindK (law05_small x.1) fun r1001 =>
  brK (!r1001)
  (bindK (law05_awake ()) fun r1002 =>
  some r1002)
  (bindK (law05_small x.2.1) fun r1003 =>
  brK (!r1003)
  (bindK (law05_awake ()) fun r1004 =>
  some r1004)
  (brK (decide (((x.2.2.size : Int) : Int) > 300))
  (bindK (law05_awake ()) fun r1005 =>
  some r1005)
  (bindK (region_Meet (x.1, x.2.1)) fun r1006 =>
  brK (decide ((r1006.2.2 : Int) = 0))
  (brK r1006.2.1
  (bindK (region_Has (r1006.1, x.2.2)) fun r1007 =>
  bindK (region_Has (x.1, x.2.2)) fun r1008 =>
  brK r1008
  (bindK (region_Has x.2) fun r1009 =>
  brK (!(r1007 == r1009))
  (some false)
  (bindK (region_Meet (x.2.1, x.1)) fun r1010 =>
  brK (!(r1010.2.1 == r1006.2.1))
  (some false)
  (bindK (ref05_Same (r1006.1, r1010.1)) fun r1011 =>
  brK (!r1011)
  (some false)
  (brK (!((decide ((r1006.2.2 : Int) = 0)) == (decide ((r1010.2.2 : Int) = 0))))
  (some false)
  (bindK (region_Simplify x.1) fun r1012 =>
  bindK (region_Meet (x.1, x.1)) fun r1013 =>
  brK (decide ((r1012.2 : Int) = r1013.2.2))
  (brK (!r1013.2.1)
  (bindK (law05_awake ()) fun r1014 =>
  some r1014)
  (bindK (ref05_Same (r1012.1, r1013.1)) fun r1015 =>
  brK r1015
  (bindK (law05_awake ()) fun r1016 =>
  some r1016)
  (some false)))
  (some false))))))
  (brK (!(r1007 == false))
  (some false)
  (bindK (region_Meet (x.2.1, x.1)) fun r1017 =>
  brK (!(r1017.2.1 == r1006.2.1))
  (some false)
  (bindK (ref05_Same (r1006.1, r1017.1)) fun r1018 =>
  brK (!r1018)
  (some false)
  (brK (!((decide ((r1006.2.2 : Int) = 0)) == (decide ((r1017.2.2 : Int) = 0))))
  (some false)
  (bindK (region_Simplify x.1) fun r1019 =>
  bindK (region_Meet (x.1, x.1)) fun r1020 =>
  brK (decide ((r1019.2 : Int) = r1020.2.2))
  (brK (!r1020.2.1)
  (bindK (law05_awake ()) fun r1021 =>
  some r1021)
  (bindK (ref05_Same (r1019.1, r1020.1)) fun r1022 =>
  brK r1022
  (bindK (law05_awake ()) fun r1023 =>
  some r1023)
  (some false)))
  (some false)))))))
  (bindK (region_Has (x.1, x.2.2)) fun r1024 =>
  brK r1024
  (bindK (region_Has x.2) fun r1025 =>
  brK (!(false == r1025))
  (some false)
  (bindK (region_Meet (x.2.1, x.1)) fun r1026 =>
  brK (!(r1026.2.1 == r1006.2.1))
  (some false)
  (bindK (ref05_Same (r1006.1, r1026.1)) fun r1027 =>
  brK (!r1027)
  (some false)
  (brK (!((decide ((r1006.2.2 : Int) = 0)) == (decide ((r1026.2.2 : Int) = 0))))
  (some false)
  (bindK (region_Simplify x.1) fun r1028 =>
  bindK (region_Meet (x.1, x.1)) fun r1029 =>
  brK (decide ((r1028.2 : Int) = r1029.2.2))
  (brK (!r1029.2.1)
  (bindK (law05_awake ()) fun r1030 =>
  some r1030)
  (bindK (ref05_Same (r1028.1, r1029.1)) fun r1031 =>
  brK r1031
  (bindK (law05_awake ()) fun r1032 =>
  some r1032)
  (some false)))
  (some false))))))
  (bindK (region_Meet (x.2.1, x.1)) fun r1033 =>
  brK (!(r1033.2.1 == r1006.2.1))
  (some false)
  (bindK (ref05_Same (r1006.1, r1033.1)) fun r1034 =>
  brK (!r1034)
  (some false)
  (brK (!((decide ((r1006.2.2 : Int) = 0)) == (decide ((r1033.2.2 : Int) = 0))))
  (some false)
  (bindK (region_Simplify x.1) fun r1035 =>
  bindK (region_Meet (x.1, x.1)) fun r1036 =>
  brK (decide ((r1035.2 : Int) = r1036.2.2))
  (brK (!r1036.2.1)
  (bindK (law05_awake ()) fun r1037 =>
  some r1037)
  (bindK (ref05_Same (r1035.1, r1036.1)) fun r1038 =>
  brK r1038
  (bindK (law05_awake ()) fun r1039 =>
  some r1039)
  (some false)))
  (some false)))))))
  (bindK (region_Meet (x.2.1, x.1)) fun r1040 =>
  brK (!(r1040.2.1 == r1006.2.1))
  (some false)
  (bindK (ref05_Same (r1006.1, r1040.1)) fun r1041 =>
  brK (!r1041)
  (some false)
  (brK (!((decide ((r1006.2.2 : Int) = 0)) == (decide ((r1040.2.2 : Int) = 0))))
  (some false)
  (bindK (region_Simplify x.1) fun r1042 =>
  bindK (region_Meet (x.1, x.1)) fun r1043 =>
  brK (decide ((r1042.2 : Int) = r1043.2.2))
  (brK (!r1043.2.1)
  (bindK (law05_awake ()) fun r1044 =>
  some r1044)
  (bindK (ref05_Same (r1042.1, r1043.1)) fun r1045 =>
  brK r1045
  (bindK (law05_awake ()) fun r1046 =>
  some r1046)
  (some false)))
  (some false))))))))

noncomputable def law05_RegionMeetMeans_sp : FSpec := ⟨7, (.pair (.agg (.prod (.prod (.list .str) .bool) (.list (.prod (.list .str) .bool)))) (.pair (.agg (.prod (.prod (.list .str) .bool) (.list (.prod (.list .str) .bool)))) .str)), .bool, law05_RegionMeetMeans⟩
noncomputable def law05_RegionMeetMeans_lo : List FSpec := [law05_small_sp, law05_awake_sp, region_Meet_sp, region_Has_sp, ref05_Same_sp, region_Simplify_sp]
noncomputable def law05_RegionMeetMeans_ll : List LEnt := []
theorem law05_RegionMeetMeans_ook : OOK Tryd.prog tG (otab law05_RegionMeetMeans_lo) := ook_of (l := law05_RegionMeetMeans_lo) (by
    intro sp hsp
    simp only [law05_RegionMeetMeans_lo, List.mem_cons, List.not_mem_nil, or_false] at hsp
    rcases hsp with rfl | rfl | rfl | rfl | rfl | rfl
    · exact law05_small_ok
    · exact law05_awake_ok
    · exact region_Meet_ok
    · exact region_Has_ok
    · exact ref05_Same_ok
    · exact region_Simplify_ok)
noncomputable def law05_RegionMeetMeans_c : Code := (Tryd.f7.body).getD .skip
theorem law05_RegionMeetMeans_h (x : law05_RegionMeetMeans_sp.arg.den) : law05_RegionMeetMeans_sp.f x = bodyF tT (otab law05_RegionMeetMeans_lo) noX (itab tT []) (ltab law05_RegionMeetMeans_ll) Tryd.f7 law05_RegionMeetMeans_sp.arg law05_RegionMeetMeans_sp.res x := by
  rw [bodyF_eq]
  kernel_rfl
theorem law05_RegionMeetMeans_ok : SpecOK Tryd.prog tG law05_RegionMeetMeans_sp :=
  spec_of_body (c := law05_RegionMeetMeans_c) tT_ok law05_RegionMeetMeans_ook (iok_of tT_ok tP_mixed (l := []) (fun _ h => nomatch h)) tP_mixed (fn := Tryd.f7) Tryd.func7 (by kernel_rfl) (by kernel_rfl) (loopsOK_of (by
    have e : loops law05_RegionMeetMeans_c = [] := by kernel_rfl
    rw [e]
    intro a ha
    cases ha)) (fun x => enc_closed x (by kernel_rfl)) (by kernel_rfl) (by kernel_rfl) law05_RegionMeetMeans_h


/-- slices.Clone[[]stockyard/api.Pattern,stockyard/api.Pattern]. -/
noncomputable def slices_Clone (x : List Pat) : Option (List Pat) :=
  cloneF x
noncomputable def slices_Clone_sp : FSpec := ⟨45, (.list (.prod (.list .str) .bool)), (.own 0 27 (.prod (.list .str) .bool)), slices_Clone⟩
theorem slices_Clone_ok : SpecOK Tryd.prog tG slices_Clone_sp := (clone_fresh _).spec

/-- A round of the loop 13 of stockyard/region.Minus. -/
noncomputable def region_Minus_L13_B (rec : (((List ByteArray) × Bool × List Pat) × (List Reg) × (List Reg) × (List Pat) × (List Pat) × Int × Int) → Option ((List Reg) ⊕ (((List Reg) × Int) ⊕ Empty))) (st : ((List ByteArray) × Bool × List Pat) × (List Reg) × (List Reg) × (List Pat) × (List Pat) × Int × Int) : Option ((List Reg) ⊕ (((List Reg) × Int) ⊕ Empty)) :=
  brK (decide ((st.2.2.2.2.2.2 : Int) < st.2.2.2.2.2.1))
  (bindK (listAt st.2.2.2.2.1 st.2.2.2.2.2.2) fun e7 =>
  bindK (pattern_Meet ((st.1.1, st.1.2.1), e7)) fun r8 =>
  brK r8.2
  (brK (decide (0 ≤ (0 : Int) ∧ (0 : Int) ≤ st.2.2.2.2.2.2 ∧ st.2.2.2.2.2.2 ≤ (st.2.2.2.1.length : Int)))
  (bindK (slices_Concat ([st.1.2.2, (List.drop (Int.toNat 0) (List.take (Int.toNat st.2.2.2.2.2.2) st.2.2.2.1))] : List (List Pat))) fun r9 =>
  bindK (holes_Simple (r8.1, r9)) fun r10 =>
  bindK (holes_Length r10) fun r11 =>
  brK r11.2
  (brK (fits (List.length st.2.2.1) (List.length ([r10] : List Reg)) 56)
  (brK (!(decide (((r10.2.length : Int) : Int) ≤ 64)))
  (some (.inr (.inl (([] : List Reg), 52))))
  (rec (st.1, (st.2.2.1 ++ ([r10] : List Reg)), (st.2.2.1 ++ ([r10] : List Reg)), st.2.2.2.1, st.2.2.2.2.1, st.2.2.2.2.2.1, (IntKind.wrap .i64 (st.2.2.2.2.2.2 + 1)))))
  (none))
  (brK (!(decide (((r10.2.length : Int) : Int) ≤ 64)))
  (some (.inr (.inl (([] : List Reg), 52))))
  (rec (st.1, st.2.1, st.2.2.1, st.2.2.2.1, st.2.2.2.2.1, st.2.2.2.2.2.1, (IntKind.wrap .i64 (st.2.2.2.2.2.2 + 1))))))
  (none))
  (rec (st.1, st.2.1, st.2.2.1, st.2.2.2.1, st.2.2.2.2.1, st.2.2.2.2.2.1, (IntKind.wrap .i64 (st.2.2.2.2.2.2 + 1)))))
  (some (.inl st.2.1))

noncomputable def region_Minus_L13 : Nat → (((List ByteArray) × Bool × List Pat) × (List Reg) × (List Reg) × (List Pat) × (List Pat) × Int × Int) → Option ((List Reg) ⊕ (((List Reg) × Int) ⊕ Empty))
  | 0, _ => none
  | n + 1, st => region_Minus_L13_B (region_Minus_L13 n) st

noncomputable def region_Minus_L13_f (st : ((List ByteArray) × Bool × List Pat) × (List Reg) × (List Reg) × (List Pat) × (List Pat) × Int × Int) : Option ((List Reg) ⊕ (((List Reg) × Int) ⊕ Empty)) := region_Minus_L13 (List.length st.1.1 + List.length st.1.2.2 + List.length st.2.1 + List.length st.2.2.1 + List.length st.2.2.2.1 + List.length st.2.2.2.2.1 + Int.natAbs st.2.2.2.2.2.1 + Int.natAbs st.2.2.2.2.2.2 + 1000) st

/-- stockyard/region.Minus. -/
noncomputable def region_Minus (x : Reg × Reg) : Option ((List Reg) × Int) :=
  bindK (region_Check x.1) fun r1001 =>
  brK (decide ((r1001 : Int) ≠ 0))
  (some (([] : List Reg), r1001))
  (bindK (region_Check x.2) fun r1002 =>
  brK (decide ((r1002 : Int) ≠ 0))
  (some (([] : List Reg), r1002))
  (bindK (holes_Simple x.2) fun r1003 =>
  bindK (slices_Clone x.1.2) fun r1004 =>
  brK (fits (List.length r1004) (List.length ([x.2.1] : List Pat)) 32)
  (bindK (holes_Simple (x.1.1, (r1004 ++ ([x.2.1] : List Pat)))) fun r1005 =>
  bindK (holes_Length r1005) fun r1006 =>
  brK r1006.2
  (brK (fits 0 (List.length ([r1005] : List Reg)) 56)
  (brK (!(decide (((r1005.2.length : Int) : Int) ≤ 64)))
  (some (([] : List Reg), 52))
  (bindK (region_Minus_L13_f ((x.1.1.1, x.1.1.2, x.1.2), ([r1005] : List Reg), ([r1005] : List Reg), r1003.2, r1003.2, (r1003.2.length : Int), 0)) fun o1007 =>
  sumK o1007 (fun y1008 =>
  some (y1008, 0))
  (fun z1009 => sumK z1009 (fun y1010 =>
  some y1010)
  (fun z1011 => emptyK z1011))))
  (none))
  (brK (!(decide (((r1005.2.length : Int) : Int) ≤ 64)))
  (some (([] : List Reg), 52))
  (bindK (region_Minus_L13_f ((x.1.1.1, x.1.1.2, x.1.2), ([] : List Reg), ([] : List Reg), r1003.2, r1003.2, (r1003.2.length : Int), 0)) fun o1012 =>
  sumK o1012 (fun y1013 =>
  some (y1013, 0))
  (fun z1014 => sumK z1014 (fun y1015 =>
  some y1015)
  (fun z1016 => emptyK z1016)))))
  (none)))

noncomputable def region_Minus_sp : FSpec := ⟨23, (.pair (.agg (.prod (.prod (.list .str) .bool) (.list (.prod (.list .str) .bool)))) (.agg (.prod (.prod (.list .str) .bool) (.list (.prod (.list .str) .bool))))), (.tup (.pair (.list (.prod (.prod (.list .str) .bool) (.list (.prod (.list .str) .bool)))) (.int .i64))), region_Minus⟩
noncomputable def region_Minus_lo : List FSpec := [region_Check_sp, holes_Simple_sp, slices_Clone_sp, pattern_Meet_sp, slices_Concat_sp]
noncomputable def region_Minus_L13_e : LEnt := ⟨13, ⟨76, 3, [2, 8, 9, 10, 45, 46, 47], (.pair (.box 0 (.pair (.list .str) (.pair .bool (.list (.prod (.list .str) .bool))))) (.pair (.box 1 (.own 2 29 (.prod (.prod (.list .str) .bool) (.list (.prod (.list .str) .bool))))) (.pair (.fn 44 (.box 1 (.own 2 29 (.prod (.prod (.list .str) .bool) (.list (.prod (.list .str) .bool)))))) (.pair (.list (.prod (.list .str) .bool)) (.pair (.list (.prod (.list .str) .bool)) (.pair (.int .i64) (.int .i64)))))))⟩, [((.exit 0), ⟨76, 2, [8], (.box 0 (.own 1 29 (.prod (.prod (.list .str) .bool) (.list (.prod (.list .str) .bool)))))⟩), (.ret, ⟨76, 1, [4, 5], (.pair (.own 0 29 (.prod (.prod (.list .str) .bool) (.list (.prod (.list .str) .bool)))) (.int .i64))⟩)], region_Minus_L13_f⟩
noncomputable def region_Minus_ll : List LEnt := [region_Minus_L13_e]
theorem region_Minus_ook : OOK Tryd.prog tG (otab region_Minus_lo) := ook_of (l := region_Minus_lo) (by
    intro sp hsp
    simp only [region_Minus_lo, List.mem_cons, List.not_mem_nil, or_false] at hsp
    rcases hsp with rfl | rfl | rfl | rfl | rfl
    · exact region_Check_ok
    · exact holes_Simple_ok
    · exact slices_Clone_ok
    · exact pattern_Meet_ok
    · exact slices_Concat_ok)
def region_Minus_X : Oper → Bool := marks [43, 71] []
noncomputable def region_Minus_il44 : List FSpec := [holes_Length_sp]
noncomputable def region_Minus_il : List IEnt := [.inl 44 Tryd.f44 region_Minus_il44]
theorem region_Minus_iok : IOK Tryd.prog tG (itab tT region_Minus_il) := iok_of tT_ok tP_mixed (by
  intro e he
  simp only [region_Minus_il, List.mem_cons, List.not_mem_nil, or_false] at he
  rcases he with rfl
  · refine ⟨Tryd.func44, by kernel_rfl, ⟨(Tryd.f44.body).getD .skip, by kernel_rfl⟩, ?_⟩
    intro sp hsp
    simp only [region_Minus_il44, List.mem_cons, List.not_mem_nil, or_false] at hsp
    rcases hsp with rfl
    · exact holes_Length_ok)
noncomputable def region_Minus_c : Code := (Tryd.f23.body).getD .skip
theorem region_Minus_L13_B_eq (n : Nat) (st : region_Minus_L13_e.head.shape.den) : region_Minus_L13 (n + 1) st = aexecK tT (otabK region_Minus_lo) region_Minus_X (itabK tT region_Minus_il) (ltabK region_Minus_ll) (((loops region_Minus_c)[0]?).getD .skip) (region_Minus_L13_e.head.enc st) (lres region_Minus_L13_e.head region_Minus_L13_e.exits (region_Minus_L13 n)) := by kernel_rfl
theorem region_Minus_L13_lok : LOK Tryd.prog tG (ltab region_Minus_ll) (((loops region_Minus_c)[0]?).getD .skip) :=
  lok_of tT_ok region_Minus_ook region_Minus_iok tP_mixed (loopsOK_of (by
    have e : loops (((loops region_Minus_c)[0]?).getD .skip) = [] := by kernel_rfl
    rw [e]
    intro a ha
    cases ha)) region_Minus_L13_e (F := region_Minus_L13) (fun st => List.length st.1.1 + List.length st.1.2.2 + List.length st.2.1 + List.length st.2.2.1 + List.length st.2.2.2.1 + List.length st.2.2.2.2.1 + Int.natAbs st.2.2.2.2.2.1 + Int.natAbs st.2.2.2.2.2.2 + 1000) (fun s => by kernel_rfl) (fun st => by kernel_rfl) (fun st => by kernel_rfl) (fun n st => (region_Minus_L13_B_eq n st).trans (loopF_eq tT region_Minus_lo region_Minus_X region_Minus_il region_Minus_ll (((loops region_Minus_c)[0]?).getD .skip) region_Minus_L13_e.head region_Minus_L13_e.exits (region_Minus_L13 n) st).symm)
theorem region_Minus_h (x : region_Minus_sp.arg.den) : region_Minus_sp.f x = bodyF tT (otab region_Minus_lo) region_Minus_X (itab tT region_Minus_il) (ltab region_Minus_ll) Tryd.f23 region_Minus_sp.arg region_Minus_sp.res x := by
  rw [bodyF_eq]
  kernel_rfl
theorem region_Minus_ok : SpecOK Tryd.prog tG region_Minus_sp :=
  spec_of_body (c := region_Minus_c) tT_ok region_Minus_ook region_Minus_iok tP_mixed (fn := Tryd.f23) Tryd.func23 (by kernel_rfl) (by kernel_rfl) (loopsOK_of (by
    have e : loops region_Minus_c = [((loops region_Minus_c)[0]?).getD .skip] := by kernel_rfl
    rw [e]
    intro a ha
    simp only [List.mem_cons, List.not_mem_nil, or_false] at ha
    rcases ha with rfl
    · exact region_Minus_L13_lok)) (fun x => enc_closed x (by kernel_rfl)) (by kernel_rfl) (by kernel_rfl) region_Minus_h


/-- stockyard/region.Empty. -/
noncomputable def region_Empty (x : Reg) : Option (Bool × Int) :=
  bindK (region_Check x) fun r1001 =>
  brK (decide ((r1001 : Int) ≠ 0))
  (some (false, r1001))
  (bindK (holes_Length x) fun r1002 =>
  some ((!r1002.2), 0))

noncomputable def region_Empty_sp : FSpec := ⟨14, (.agg (.prod (.prod (.list .str) .bool) (.list (.prod (.list .str) .bool)))), (.tup (.pair .bool (.int .i64))), region_Empty⟩
noncomputable def region_Empty_lo : List FSpec := [region_Check_sp, holes_Length_sp]
noncomputable def region_Empty_ll : List LEnt := []
theorem region_Empty_ook : OOK Tryd.prog tG (otab region_Empty_lo) := ook_of (l := region_Empty_lo) (by
    intro sp hsp
    simp only [region_Empty_lo, List.mem_cons, List.not_mem_nil, or_false] at hsp
    rcases hsp with rfl | rfl
    · exact region_Check_ok
    · exact holes_Length_ok)
noncomputable def region_Empty_c : Code := (Tryd.f14.body).getD .skip
theorem region_Empty_h (x : region_Empty_sp.arg.den) : region_Empty_sp.f x = bodyF tT (otab region_Empty_lo) noX (itab tT []) (ltab region_Empty_ll) Tryd.f14 region_Empty_sp.arg region_Empty_sp.res x := by
  rw [bodyF_eq]
  kernel_rfl
theorem region_Empty_ok : SpecOK Tryd.prog tG region_Empty_sp :=
  spec_of_body (c := region_Empty_c) tT_ok region_Empty_ook (iok_of tT_ok tP_mixed (l := []) (fun _ h => nomatch h)) tP_mixed (fn := Tryd.f14) Tryd.func14 (by kernel_rfl) (by kernel_rfl) (loopsOK_of (by
    have e : loops region_Empty_c = [] := by kernel_rfl
    rw [e]
    intro a ha
    cases ha)) (fun x => enc_closed x (by kernel_rfl)) (by kernel_rfl) (by kernel_rfl) region_Empty_h

/-- A round of the loop 8 of stockyard/stockyardlaw05.RegionMinusMeans. -/
noncomputable def law05_RegionMinusMeans_L8_B (rec : (ByteArray × ((List ByteArray) × Bool × List Pat) × ((List ByteArray) × Bool × List Pat) × Int × (List Reg) × Int × Int) → Option ((ByteArray × ((List ByteArray) × Bool × List Pat) × ((List ByteArray) × Bool × List Pat) × Int) ⊕ (Bool ⊕ Empty))) (st : ByteArray × ((List ByteArray) × Bool × List Pat) × ((List ByteArray) × Bool × List Pat) × Int × (List Reg) × Int × Int) : Option ((ByteArray × ((List ByteArray) × Bool × List Pat) × ((List ByteArray) × Bool × List Pat) × Int) ⊕ (Bool ⊕ Empty)) :=
  brK (decide ((st.2.2.2.2.2.2 : Int) < st.2.2.2.2.2.1))
  (bindK (listAt st.2.2.2.2.1 st.2.2.2.2.2.2) fun e8 =>
  bindK (region_Has (e8, st.1)) fun r9 =>
  brK r9
  (bindK (region_Empty e8) fun r10 =>
  brK r10.1
  (some (.inr (.inl false)))
  (brK (decide ((r10.2 : Int) ≠ 0))
  (some (.inr (.inl false)))
  (rec (st.1, st.2.1, st.2.2.1, (IntKind.wrap .i64 (st.2.2.2.1 + 1)), st.2.2.2.2.1, st.2.2.2.2.2.1, (IntKind.wrap .i64 (st.2.2.2.2.2.2 + 1))))))
  (bindK (region_Empty e8) fun r11 =>
  brK r11.1
  (some (.inr (.inl false)))
  (brK (decide ((r11.2 : Int) ≠ 0))
  (some (.inr (.inl false)))
  (rec (st.1, st.2.1, st.2.2.1, st.2.2.2.1, st.2.2.2.2.1, st.2.2.2.2.2.1, (IntKind.wrap .i64 (st.2.2.2.2.2.2 + 1)))))))
  (some (.inl (st.1, st.2.1, st.2.2.1, st.2.2.2.1)))

noncomputable def law05_RegionMinusMeans_L8 : Nat → (ByteArray × ((List ByteArray) × Bool × List Pat) × ((List ByteArray) × Bool × List Pat) × Int × (List Reg) × Int × Int) → Option ((ByteArray × ((List ByteArray) × Bool × List Pat) × ((List ByteArray) × Bool × List Pat) × Int) ⊕ (Bool ⊕ Empty))
  | 0, _ => none
  | n + 1, st => law05_RegionMinusMeans_L8_B (law05_RegionMinusMeans_L8 n) st

noncomputable def law05_RegionMinusMeans_L8_f (st : ByteArray × ((List ByteArray) × Bool × List Pat) × ((List ByteArray) × Bool × List Pat) × Int × (List Reg) × Int × Int) : Option ((ByteArray × ((List ByteArray) × Bool × List Pat) × ((List ByteArray) × Bool × List Pat) × Int) ⊕ (Bool ⊕ Empty)) := law05_RegionMinusMeans_L8 (ByteArray.size st.1 + List.length st.2.1.1 + List.length st.2.1.2.2 + List.length st.2.2.1.1 + List.length st.2.2.1.2.2 + Int.natAbs st.2.2.2.1 + List.length st.2.2.2.2.1 + Int.natAbs st.2.2.2.2.2.1 + Int.natAbs st.2.2.2.2.2.2 + 1000) st

/-- stockyard/stockyardlaw05.RegionMinusMeans. -/
noncomputable def law05_RegionMinusMeans (x : Reg × Reg × ByteArray) : Option Bool :=
  bindK (law05_small x.1) fun r1001 =>
  brK (!r1001)
  (bindK (law05_awake ()) fun r1002 =>
  some r1002)
  (bindK (law05_small x.2.1) fun r1003 =>
  brK (!r1003)
  (bindK (law05_awake ()) fun r1004 =>
  some r1004)
  (brK (decide (((x.2.2.size : Int) : Int) > 300))
  (bindK (law05_awake ()) fun r1005 =>
  some r1005)
  (bindK (region_Minus (x.1, x.2.1)) fun r1006 =>
  brK (decide ((r1006.2 : Int) ≠ 0))
  (bindK (law05_awake ()) fun r1007 =>
  some r1007)
  (bindK (law05_RegionMinusMeans_L8_f (x.2.2, (x.1.1.1, x.1.1.2, x.1.2), (x.2.1.1.1, x.2.1.1.2, x.2.1.2), 0, r1006.1, (r1006.1.length : Int), 0)) fun o1008 =>
  sumK o1008 (fun y1009 =>
  bindK (region_Has (((y1009.2.1.1, y1009.2.1.2.1), y1009.2.1.2.2), y1009.1)) fun r1011 =>
  brK r1011
  (bindK (region_Has (((y1009.2.2.1.1, y1009.2.2.1.2.1), y1009.2.2.1.2.2), y1009.1)) fun r1012 =>
  brK ((decide ((y1009.2.2.2 : Int) = 1)) == (!r1012))
  (brK (decide ((y1009.2.2.2 : Int) ≤ 1))
  (bindK (law05_awake ()) fun r1013 =>
  some r1013)
  (some false))
  (some false))
  (brK ((decide ((y1009.2.2.2 : Int) = 1)) == false)
  (brK (decide ((y1009.2.2.2 : Int) ≤ 1))
  (bindK (law05_awake ()) fun r1014 =>
  some r1014)
  (some false))
  (some false)))
  (fun z1010 => sumK z1010 (fun y1015 =>
  some y1015)
  (fun z1016 => emptyK z1016))))))

noncomputable def law05_RegionMinusMeans_sp : FSpec := ⟨8, (.pair (.agg (.prod (.prod (.list .str) .bool) (.list (.prod (.list .str) .bool)))) (.pair (.agg (.prod (.prod (.list .str) .bool) (.list (.prod (.list .str) .bool)))) .str)), .bool, law05_RegionMinusMeans⟩
noncomputable def law05_RegionMinusMeans_lo : List FSpec := [law05_small_sp, law05_awake_sp, region_Minus_sp, region_Has_sp, region_Empty_sp]
noncomputable def law05_RegionMinusMeans_L8_e : LEnt := ⟨8, ⟨80, 2, [2, 3, 4, 9, 38, 39, 40], (.pair .str (.pair (.box 0 (.pair (.list .str) (.pair .bool (.list (.prod (.list .str) .bool))))) (.pair (.box 1 (.pair (.list .str) (.pair .bool (.list (.prod (.list .str) .bool))))) (.pair (.int .i64) (.pair (.list (.prod (.prod (.list .str) .bool) (.list (.prod (.list .str) .bool)))) (.pair (.int .i64) (.int .i64)))))))⟩, [((.exit 0), ⟨80, 2, [2, 3, 4, 9], (.pair .str (.pair (.box 0 (.pair (.list .str) (.pair .bool (.list (.prod (.list .str) .bool))))) (.pair (.box 1 (.pair (.list .str) (.pair .bool (.list (.prod (.list .str) .bool))))) (.int .i64))))⟩), (.ret, ⟨80, 0, [6], .bool⟩)], law05_RegionMinusMeans_L8_f⟩
noncomputable def law05_RegionMinusMeans_ll : List LEnt := [law05_RegionMinusMeans_L8_e]
theorem law05_RegionMinusMeans_ook : OOK Tryd.prog tG (otab law05_RegionMinusMeans_lo) := ook_of (l := law05_RegionMinusMeans_lo) (by
    intro sp hsp
    simp only [law05_RegionMinusMeans_lo, List.mem_cons, List.not_mem_nil, or_false] at hsp
    rcases hsp with rfl | rfl | rfl | rfl | rfl
    · exact law05_small_ok
    · exact law05_awake_ok
    · exact region_Minus_ok
    · exact region_Has_ok
    · exact region_Empty_ok)
noncomputable def law05_RegionMinusMeans_c : Code := (Tryd.f8.body).getD .skip
theorem law05_RegionMinusMeans_L8_B_eq (n : Nat) (st : law05_RegionMinusMeans_L8_e.head.shape.den) : law05_RegionMinusMeans_L8 (n + 1) st = aexecK tT (otabK law05_RegionMinusMeans_lo) noX (itabK tT []) (ltabK law05_RegionMinusMeans_ll) (((loops law05_RegionMinusMeans_c)[0]?).getD .skip) (law05_RegionMinusMeans_L8_e.head.enc st) (lres law05_RegionMinusMeans_L8_e.head law05_RegionMinusMeans_L8_e.exits (law05_RegionMinusMeans_L8 n)) := by kernel_rfl
theorem law05_RegionMinusMeans_L8_lok : LOK Tryd.prog tG (ltab law05_RegionMinusMeans_ll) (((loops law05_RegionMinusMeans_c)[0]?).getD .skip) :=
  lok_of tT_ok law05_RegionMinusMeans_ook (iok_of tT_ok tP_mixed (l := []) (fun _ h => nomatch h)) tP_mixed (loopsOK_of (by
    have e : loops (((loops law05_RegionMinusMeans_c)[0]?).getD .skip) = [] := by kernel_rfl
    rw [e]
    intro a ha
    cases ha)) law05_RegionMinusMeans_L8_e (F := law05_RegionMinusMeans_L8) (fun st => ByteArray.size st.1 + List.length st.2.1.1 + List.length st.2.1.2.2 + List.length st.2.2.1.1 + List.length st.2.2.1.2.2 + Int.natAbs st.2.2.2.1 + List.length st.2.2.2.2.1 + Int.natAbs st.2.2.2.2.2.1 + Int.natAbs st.2.2.2.2.2.2 + 1000) (fun s => by kernel_rfl) (fun st => by kernel_rfl) (fun st => by kernel_rfl) (fun n st => (law05_RegionMinusMeans_L8_B_eq n st).trans (loopF_eq tT law05_RegionMinusMeans_lo noX [] law05_RegionMinusMeans_ll (((loops law05_RegionMinusMeans_c)[0]?).getD .skip) law05_RegionMinusMeans_L8_e.head law05_RegionMinusMeans_L8_e.exits (law05_RegionMinusMeans_L8 n) st).symm)
theorem law05_RegionMinusMeans_h (x : law05_RegionMinusMeans_sp.arg.den) : law05_RegionMinusMeans_sp.f x = bodyF tT (otab law05_RegionMinusMeans_lo) noX (itab tT []) (ltab law05_RegionMinusMeans_ll) Tryd.f8 law05_RegionMinusMeans_sp.arg law05_RegionMinusMeans_sp.res x := by
  rw [bodyF_eq]
  kernel_rfl
theorem law05_RegionMinusMeans_ok : SpecOK Tryd.prog tG law05_RegionMinusMeans_sp :=
  spec_of_body (c := law05_RegionMinusMeans_c) tT_ok law05_RegionMinusMeans_ook (iok_of tT_ok tP_mixed (l := []) (fun _ h => nomatch h)) tP_mixed (fn := Tryd.f8) Tryd.func8 (by kernel_rfl) (by kernel_rfl) (loopsOK_of (by
    have e : loops law05_RegionMinusMeans_c = [((loops law05_RegionMinusMeans_c)[0]?).getD .skip] := by kernel_rfl
    rw [e]
    intro a ha
    simp only [List.mem_cons, List.not_mem_nil, or_false] at ha
    rcases ha with rfl
    · exact law05_RegionMinusMeans_L8_lok)) (fun x => enc_closed x (by kernel_rfl)) (by kernel_rfl) (by kernel_rfl) law05_RegionMinusMeans_h


end Go.Proofs.YtcmfkmhmehhkpaaDoor
