/- A part of the proof of a law of this seat (rD_S2, rD_S3, rD_S5). -/
import Derived.Test.YtcmfkmhmehhkpaaDoorMb
import Derived.Test.YtcmfkmhmehhkpaaDoorAe
set_option linter.unusedSimpArgs false
set_option linter.unusedVariables false
set_option maxRecDepth 100000
namespace Go.Proofs.YtcmfkmhmehhkpaaDoor
open Go Go.Ai
/-! ### Simplified regions -/
theorem meet_small {p q m : Pat} (h : MeetIs p q m) (hp : SmallP p) (hq : SmallP q) : SmallP m := by
  have hbig : big = 1048576 := rfl
  have h12 := (patErr_zero.1 h.err).2.2.2
  refine ⟨by omega, fun s hs => ?_⟩
  obtain ⟨i, hi, rfl⟩ := List.mem_iff_getElem.1 hs
  have e : m.1[i] = ptAt m i := (ptAt_in hi).symm
  rw [e]
  rcases narrow_some (h.at_ i) with e | e
  · rw [e]; exact ptAt_size hp i
  · rw [e]; exact ptAt_size hq i
theorem metL_small {base : Pat} {hs : List Pat} (hb : SmallP base) (hh : ∀ h ∈ hs, SmallP h) {m : Pat} (hm : m ∈ metL base hs) : SmallP m := by
  obtain ⟨h, h1, h2⟩ := metL_mem.1 hm
  exact meet_small (meetP_is h2) hb (hh h h1)
theorem simpleL_small {base : Pat} {hs : List Pat} (hb : SmallP base) (hh : ∀ h ∈ hs, SmallP h) : ∀ m ∈ simpleL base hs, SmallP m := fun _ hm => metL_small hb hh (simpleL_sub hm)
theorem simpleG_small {base : Pat} {hs : List Pat} (hb : SmallP base) (hh : ∀ h ∈ hs, SmallP h) (hl : hs.length ≤ big) : SmallG (simpleG base hs) := ⟨hb, simpleL_small hb hh, Nat.le_trans (simpleL_length base hs) hl⟩
theorem simpleG_ok {base : Pat} (hs : List Pat) (eb : patErr base = 0) : okG (simpleG base hs) := ⟨eb, fun _ h => simpleL_err h⟩

def metS (base : Pat) (a : List Hol) (h : Pat) : List Hol := match meetP base h with | some m => a ++ [(textP m, m)] | none => a
theorem metS_fold (base : Pat) {O : Type} (fin : List Hol → O) : ∀ (hs : List Pat) (a : List Hol), foldE (fun a h => (.inl (metS base a h) : List Hol ⊕ O)) fin a hs = fin (a ++ holL (metL base hs))
  | [], a => by simp [foldE, metL, holL]
  | h :: hs, a => by
    rw [foldE]
    simp only
    rw [metS_fold base fin hs]
    congr 1
    unfold metS metL holL
    rw [List.filterMap_cons]
    cases meetP base h <;> simp

theorem holes_Copied_val (p : Pat) (hp : SmallP p) : holes_Copied p = some p := by
  have hbig : big = 1048576 := rfl
  have := hp.len
  unfold holes_Copied
  rw [fits_ok (by simp) (by omega) (by omega)]
  rfl

theorem holes_Simple_3_val (a b : Hol) (ha : SmallP a.2) (hb : SmallP b.2) : holes_Simple_3 (a, b) = some (decide (b.1 ≠ a.1) && withinP b.2 a.2) := by
  unfold holes_Simple_3
  simp only
  rw [brK_ite]
  by_cases h : b.1 = a.1
  · rw [if_neg (by simp [h])]
    simp [h]
  · have hw := pattern_Within_val b.2 a.2 hb ha
    rw [if_pos h, decide_eq_true h, Bool.true_and]
    have e : (b.2.1, b.2.2) = b.2 := rfl
    first | rw [hw] | rw [e, hw] | skip
    rfl
theorem ContainsFunc_Simple_val (l : List Hol) (x : Hol) (hl : l.length ≤ big) (hs : ∀ a ∈ l, SmallP a.2) (hx : SmallP x.2) : slices_ContainsFunc__holes_Simple_3 (l, x) = some (l.any fun y => decide (x.1 ≠ y.1) && withinP x.2 y.2) := by
  have hbig : big = 1048576 := rfl
  unfold slices_ContainsFunc__holes_Simple_3 slices_IndexFunc__holes_Simple_3 slices_IndexFunc__holes_Simple_3_L2_f
  simp only
  have := idx_loop (F := slices_IndexFunc__holes_Simple_3_L2) (B := slices_IndexFunc__holes_Simple_3_L2_B) (fun _ _ => rfl) l (fun i => (l, x, (l.length : Int), (i : Int))) (fun y => decide (x.1 ≠ y.1) && withinP x.2 y.2) (fun i => .inr (.inl (i : Int))) (.inl ())
    (fun rec i h => by
      simp only [slices_IndexFunc__holes_Simple_3_L2_B, brK_ite]
      rw [if_pos (by omega), listAt_nat, List.getElem?_eq_getElem h]
      simp only [bindK_some]
      rw [holes_Simple_3_val _ _ (hs _ (List.getElem_mem h)) hx, bindK_some, wrap_succ (by omega)]
      cases decide (x.1 ≠ l[i].1) && withinP x.2 l[i].2 <;> rfl)
    (fun rec => by
      simp only [slices_IndexFunc__holes_Simple_3_L2_B, brK_ite]
      rw [if_neg (by omega)]) l.length 0 (List.length l + ByteArray.size x.1 + List.length x.2.1 + Int.natAbs (l.length : Int) + Int.natAbs 0 + 1000) (by omega) (by omega)
  rw [show ((0 : Nat) : Int) = 0 from rfl, List.drop_zero] at this
  rcases this with ⟨j, h1, h2, _⟩ | ⟨h1, h2⟩
  · rw [h1, h2]
    simp only [bindK_some, sumK_inr, sumK_inl]
    rw [decide_eq_true (by omega)]
  · rw [h1, h2]
    rfl

def keepS (u : List Hol) (out : List Pat) (x : Hol) : List Pat := if (u.any fun y => decide (x.1 ≠ y.1) && withinP x.2 y.2) = true then out else out ++ [x.2]
theorem keepS_fold (u : List Hol) {O : Type} (fin : List Pat → O) : ∀ (l : List Hol) (out : List Pat), foldE (fun a h => (.inl (keepS u a h) : List Pat ⊕ O)) fin out l = fin (out ++ (l.filter fun x => !(u.any fun y => decide (x.1 ≠ y.1) && withinP x.2 y.2)).map Prod.snd)
  | [], a => by simp [foldE]
  | h :: hs, a => by
    rw [foldE]
    simp only
    rw [keepS_fold u fin hs, List.filter_cons]
    congr 1
    unfold keepS
    cases (u.any fun y => decide (h.1 ≠ y.1) && withinP h.2 y.2) <;> simp

theorem kept_eq (l : List Pat) (hl : ∀ m ∈ l, patErr m = 0) : (((compL ((holL l).mergeSort leH)).filter fun x => !((compL ((holL l).mergeSort leH)).any fun y => decide (x.1 ≠ y.1) && withinP x.2 y.2)).map Prod.snd) = (uniqL l).filter (keepB (uniqL l)) := by
  have hok : okH (compL ((holL l).mergeSort leH)) := fun a ha => holL_ok hl a ((uniq_pairs_mem hl).1 ha)
  unfold uniqL
  rw [List.filter_map]
  congr 1
  apply List.filter_congr
  intro x hx
  simp only [Function.comp]
  unfold keepB
  rw [List.all_map]
  rw [Bool.eq_iff_iff, Bool.not_eq_true', List.any_eq_false, List.all_eq_true]
  refine forall_congr' fun y => forall_congr' fun hy => ?_
  simp only [Function.comp]
  have e : (x.1 = y.1) ↔ y.2 = x.2 := ⟨fun h => by rw [hok.eq hx hy h], fun h => by rw [(hok x hx).1, (hok y hy).1, h]⟩
  cases hw : withinP x.2 y.2 with
  | false => simp
  | true =>
    by_cases h : x.1 = y.1
    · simp [h, e.1 h]
    · have : ¬ y.2 = x.2 := fun h2 => h (e.2 h2)
      simp [h, this]

theorem holes_Simple_val (base : Pat) (hs : List Pat) (hb : SmallP base) (hh : ∀ h ∈ hs, SmallP h) (hl : hs.length ≤ big) : holes_Simple (base, hs) = some (simpleG base hs) := by
  have hbig : big = 1048576 := rfl
  unfold holes_Simple holes_Simple_L3_f
  simp only
  have loop1 := range_ind (F := holes_Simple_L3) (B := holes_Simple_L3_B) (fun _ _ => rfl) hs (fun (a : List Hol) i => (base, (([] : List ByteArray), false, ([] : List Pat)), a, hs, (hs.length : Int), (i : Int))) (fun a h => .inl (metS base a h)) (fun a => .inl (base, (([] : List ByteArray), false, ([] : List Pat)), a)) (fun i a => a.length ≤ i)
    (fun rec a i h ha => by
      have hm := hh _ (List.getElem_mem h)
      simp only [holes_Simple_L3_B, brK_ite]
      rw [if_pos (by omega), listAt_nat, List.getElem?_eq_getElem h, bindK_some, pattern_Meet_val base _ hb hm, bindK_some]
      unfold metS
      cases hmm : meetP base hs[i] with
      | none =>
        simp only [meetR, brK_false]
        rw [wrap_succ (by omega)]
      | some m =>
        have hi := meetP_is hmm
        simp only [meetR, brK_true]
        rw [pattern_Format_val m (meet_small hi hb hm), if_pos hi.err, bindK_some]
        simp only [List.length_cons, List.length_nil, Nat.zero_add]
        rw [fits_ok (by omega) (by omega) (by omega), brK_true, wrap_succ (by omega)])
    (fun a i h a' ha he => by
      cases he
      unfold metS
      split
      · simp; omega
      · omega)
    (fun rec a ha => by
      simp only [holes_Simple_L3_B, brK_ite]
      rw [if_neg (by omega)])
    hs.length 0 (List.length base.1 + List.length ([] : List ByteArray) + List.length ([] : List Pat) + List.length ([] : List Hol) + List.length hs + Int.natAbs (hs.length : Int) + Int.natAbs 0 + 1000) [] (by omega) (by omega) (by simp)
  rw [show ((0 : Nat) : Int) = 0 from rfl, List.drop_zero, metS_fold, List.nil_append] at loop1
  rw [loop1, bindK_some, sumK_inl]
  have herr : ∀ m ∈ metL base hs, patErr m = 0 := fun _ => metL_err
  have hsm : ∀ a ∈ holL (metL base hs), SmallP a.2 := fun a ha => by
    obtain ⟨m, hm, rfl⟩ := List.mem_map.1 ha
    exact metL_small hb hh hm
  have hlen : (holL (metL base hs)).length ≤ hs.length := by unfold holL; rw [List.length_map]; exact metL_length base hs
  have hsort : sortF (holL (metL base hs)) = some ((holL (metL base hs)).mergeSort leH) := by
    unfold sortF
    rw [if_pos ⟨by omega, fun a ha b hb e => (holL_ok herr).eq ha hb e⟩]
  simp only
  rw [hsort, bindK_some]
  have e1 : List.take (holL (metL base hs)).length ((holL (metL base hs)).mergeSort leH) ++ List.drop ((holL (metL base hs)).mergeSort leH).length (holL (metL base hs)) = (holL (metL base hs)).mergeSort leH := by
    rw [List.take_of_length_le (Nat.le_of_eq (List.length_mergeSort _)), List.drop_of_length_le (Nat.le_of_eq (List.length_mergeSort _).symm), List.append_nil]
  rw [e1]
  unfold compF
  rw [bindK_some, holes_Copied_val base hb, bindK_some]
  obtain ⟨u, hu⟩ : ∃ u, u = compL ((holL (metL base hs)).mergeSort leH) := ⟨_, rfl⟩
  have husm : ∀ a ∈ u, SmallP a.2 := fun a ha => hsm a ((uniq_pairs_mem herr).1 (by rw [← hu]; exact ha))
  have hul : u.length ≤ hs.length := by
    have nd : (u.map Prod.snd).Nodup := by
      have := uniqL_sorted herr
      unfold uniqL at this
      rw [← hu] at this
      exact this.imp fun {a b} hab e => by subst e; exact ltP_irrefl _ hab
    have := nodup_length nd (m := metL base hs) fun x hx => (uniqL_mem herr).1 (by unfold uniqL; rw [← hu]; exact hx)
    rw [List.length_map] at this
    exact Nat.le_trans this (metL_length base hs)
  rw [← hu]
  unfold holes_Simple_L14_f
  have loop2 := range_ind (F := holes_Simple_L14) (B := holes_Simple_L14_B) (fun _ _ => rfl) u (fun (a : List Pat) i => ((([] : List ByteArray), false, ([] : List Pat)), u, (base.1, base.2, a), u, (u.length : Int), (i : Int))) (fun a h => .inl (keepS u a h)) (fun a => .inl ((([] : List ByteArray), false, ([] : List Pat)), (base.1, base.2, a))) (fun i a => a.length ≤ i)
    (fun rec a i h ha => by
      have hm := husm _ (List.getElem_mem h)
      simp only [holes_Simple_L14_B, brK_ite]
      rw [if_pos (by omega), listAt_nat, List.getElem?_eq_getElem h, bindK_some, ContainsFunc_Simple_val u _ (by omega) husm hm, bindK_some]
      unfold keepS
      cases (u.any fun y => decide (u[i].1 ≠ y.1) && withinP u[i].2 y.2) with
      | true =>
        simp only [Bool.not_true, brK_false, if_true]
        rw [wrap_succ (by omega)]
      | false =>
        simp only [Bool.not_false, brK_true, Bool.false_eq_true, if_false, List.length_cons, List.length_nil, Nat.zero_add]
        rw [fits_ok (by omega) (by omega) (by omega), brK_true, wrap_succ (by omega)])
    (fun a i h a' ha he => by
      cases he
      unfold keepS
      split
      · omega
      · simp; omega)
    (fun rec a ha => by
      simp only [holes_Simple_L14_B, brK_ite]
      rw [if_neg (by omega)])
    u.length 0 (List.length ([] : List ByteArray) + List.length ([] : List Pat) + List.length u + List.length base.1 + List.length ([] : List Pat) + List.length u + Int.natAbs (u.length : Int) + Int.natAbs 0 + 1000) [] (by omega) (by omega) (by simp)
  rw [show ((0 : Nat) : Int) = 0 from rfl, List.drop_zero, keepS_fold, List.nil_append] at loop2
  rw [loop2, bindK_some, sumK_inl]
  simp only
  rw [hu, kept_eq _ herr]
  rfl

/-! ### The reference's way -/
def metSR (base : Pat) (a : List Pat) (h : Pat) : List Pat := match meetP base h with | some m => a ++ [m] | none => a
theorem metSR_fold (base : Pat) {O : Type} (fin : List Pat → O) : ∀ (hs : List Pat) (a : List Pat), foldE (fun a h => (.inl (metSR base a h) : List Pat ⊕ O)) fin a hs = fin (a ++ metL base hs)
  | [], a => by simp [foldE, metL]
  | h :: hs, a => by
    rw [foldE]
    simp only
    rw [metSR_fold base fin hs]
    congr 1
    unfold metSR metL
    rw [List.filterMap_cons]
    cases meetP base h <;> simp
end Go.Proofs.YtcmfkmhmehhkpaaDoor

set_option linter.unusedSimpArgs false
set_option linter.unusedVariables false
set_option maxRecDepth 100000
namespace Go.Proofs.YtcmfkmhmehhkpaaDoor
open Go Go.Ai
/-! ### The functions on regions -/
theorem smallG_app {a : Reg} {hs : List Pat} (sa : SmallG a) (h : ∀ x ∈ hs, SmallP x) : ∀ x ∈ a.2 ++ hs, SmallP x := by
  intro x hx
  rcases List.mem_append.1 hx with hx | hx
  · exact sa.hole x hx
  · exact h x hx
theorem ref05_Same_val (g h : Reg) (sg : SmallG g) : ref05_Same (g, h) = some (decide (g = h)) := by
  have hbig : big = 1048576 := rfl
  have hl := sg.len
  unfold ref05_Same
  simp only
  rw [ref03_Same_val g.1 h.1 sg.base.len, bindK_some]
  by_cases e1 : g.1 = h.1
  case neg =>
    rw [decide_eq_false e1, Bool.not_false, brK_true, decide_eq_false (fun e => e1 (by rw [e]))]
  rw [decide_eq_true e1, Bool.not_true, brK_false, brK_ite]
  by_cases hlen : g.2.length = h.2.length
  case neg =>
    rw [if_pos (by omega), decide_eq_false (fun e => hlen (by rw [e]))]
  rw [if_neg (by omega)]
  unfold ref05_Same_L4_f
  have loop := range_ind (F := ref05_Same_L4) (B := ref05_Same_L4_B) (fun _ _ => rfl) (g.2.zip h.2) (fun (_ : Unit) i => ((h.1.1, h.1.2, h.2), g.2, (g.2.length : Int), (i : Int))) (fun _ x => if x.1 = x.2 then .inl () else .inr (.inr (.inl false))) (fun _ => .inl ()) (fun _ _ => True)
    (fun rec a i hi _ => by
      have hz : (g.2.zip h.2).length = g.2.length := by simp; omega
      rw [hz] at hi
      simp only [ref05_Same_L4_B, brK_ite]
      rw [if_pos (by omega), listAt_nat, List.getElem?_eq_getElem hi, bindK_some, listAt_nat, List.getElem?_eq_getElem (by omega), bindK_some, ref03_Same_val _ _ (sg.hole _ (List.getElem_mem hi)).len, bindK_some, wrap_succ (by omega), List.getElem_zip]
      by_cases e : g.2[i] = h.2[i]
      · rw [decide_eq_true e, if_pos e]; rfl
      · rw [decide_eq_false e, if_neg e]; rfl)
    (fun _ _ _ _ _ _ => trivial)
    (fun rec a _ => by
      have hz : (g.2.zip h.2).length = g.2.length := by simp; omega
      simp only [ref05_Same_L4_B, brK_ite]
      rw [hz, if_neg (by omega)])
    (g.2.zip h.2).length 0 (List.length h.1.1 + List.length h.2 + List.length g.2 + Int.natAbs (g.2.length : Int) + Int.natAbs 0 + 1000) () (by omega) (by simp; omega) trivial
  rw [show ((0 : Nat) : Int) = 0 from rfl, List.drop_zero] at loop
  rw [loop]
  have key : ∀ (l m : List Pat), l.length = m.length → foldE (fun (_ : Unit) (x : Pat × Pat) => if x.1 = x.2 then (.inl () : Unit ⊕ (Unit ⊕ (Bool ⊕ Empty))) else .inr (.inr (.inl false))) (fun _ => .inl ()) () (l.zip m) = if l = m then .inl () else .inr (.inl false) := by
    intro l
    induction l with
    | nil => intro m hm; have : m = [] := List.eq_nil_of_length_eq_zero hm.symm; subst this; rfl
    | cons a l ih =>
      intro m hm
      cases m with
      | nil => cases hm
      | cons b m =>
        rw [List.zip_cons_cons, foldE]
        by_cases e : a = b
        · rw [if_pos e]
          simp only
          rw [ih m (by simpa using hm)]
          by_cases e2 : l = m
          · rw [if_pos e2, if_pos (by rw [e, e2])]
          · rw [if_neg e2, if_neg (by simp [e, e2])]
        · rw [if_neg e, if_neg (by simp [e])]
  rw [key g.2 h.2 hlen]
  by_cases e : g.2 = h.2
  · rw [if_pos e, bindK_some, sumK_inl, decide_eq_true (Prod.ext e1 e)]
  · rw [if_neg e, bindK_some, sumK_inr, sumK_inl, decide_eq_false (fun h => e (by rw [h]))]

theorem zeroG_small : SmallG zeroG := ⟨⟨by decide, fun s h => (by cases h)⟩, fun h hh => (by cases hh), by decide⟩

theorem region_Simplify_val (g : Reg) (sg : SmallG g) : region_Simplify g = some (if regErr g = 0 then (simpleG g.1 g.2, 0) else (zeroG, regErr g)) := by
  unfold region_Simplify
  rw [region_Check_val g sg, bindK_some, brK_ite]
  by_cases h0 : regErr g = 0
  · rw [if_neg (fun h => h h0), if_pos h0]
    have := holes_Simple_val g.1 g.2 sg.base sg.hole sg.len
    have e : (g.1, g.2) = g := rfl
    rw [e] at this
    rw [this]
    rfl
  · rw [if_pos h0, if_neg h0]
    rfl

/-- The library's joining of two rows. -/
theorem slices_Concat_val (l m : List Pat) (hl : l.length ≤ big) (hm : m.length ≤ big) : slices_Concat [l, m] = some (l ++ m) := by
  have hbig : big = 1048576 := rfl
  have w1 : IntKind.wrap .i64 ((0 : Int) + (l.length : Int)) = (l.length : Int) := by rw [wrap_id (by omega) (by omega)]; omega
  have w2 : IntKind.wrap .i64 ((l.length : Int) + (m.length : Int)) = ((l.length + m.length : Nat) : Int) := by rw [wrap_id (by omega) (by omega)]; omega
  have s1 : IntKind.wrap .i64 ((0 : Int) + 1) = 1 := by decide
  have s2 : IntKind.wrap .i64 ((1 : Int) + 1) = 2 := by decide
  have g0 : listAt [l, m] (0 : Int) = some l := rfl
  have g1 : listAt [l, m] (1 : Int) = some m := rfl
  have loop1 : slices_Concat_L3_f ([l, m], 0, [l, m], (2 : Int), 0) = some (.inl ([l, m], ((l.length + m.length : Nat) : Int))) := by
    unfold slices_Concat_L3_f
    obtain ⟨f, hf⟩ : ∃ f, List.length [l, m] + Int.natAbs 0 + List.length [l, m] + Int.natAbs 2 + Int.natAbs 0 + 1000 = f + 3 := ⟨1003, rfl⟩
    rw [hf]
    simp only [slices_Concat_L3, slices_Concat_L3_B, brK_ite]
    rw [if_pos (by omega), g0]
    simp only [bindK_some, w1]
    rw [if_neg (by omega), s1, if_pos (by omega), g1]
    simp only [bindK_some, w2]
    rw [if_neg (by omega), s2, if_neg (by omega)]
  have hfit1 : fits 0 l.length 32 = true := fits_ok (by omega) (by omega) (by omega)
  have hfit2 : fits l.length m.length 32 = true := fits_ok (by omega) (by omega) (by omega)
  have loop2 : slices_Concat_L11_f ([], [l, m], (2 : Int), 0) = some (.inl (l ++ m)) := by
    unfold slices_Concat_L11_f
    obtain ⟨f, hf⟩ : ∃ f, List.length ([] : List Pat) + List.length [l, m] + Int.natAbs 2 + Int.natAbs 0 + 1000 = f + 3 := ⟨1001, rfl⟩
    rw [hf]
    simp only [slices_Concat_L11, slices_Concat_L11_B, brK_ite]
    rw [if_pos (by omega), g0]
    simp only [bindK_some, List.length_nil, hfit1, brK_true, List.nil_append]
    rw [s1, if_pos (by omega), g1]
    simp only [bindK_some, hfit2, brK_true]
    rw [s2, if_neg (by omega)]
  unfold slices_Concat
  have e : (([l, m] : List (List Pat)).length : Int) = 2 := rfl
  rw [e, loop1, bindK_some, sumK_inl]
  unfold slices_Grow growF
  simp only
  rw [if_pos ⟨by omega, by omega⟩, bindK_some, e, loop2, bindK_some, sumK_inl]

theorem region_Meet_val (a b : Reg) (sa : SmallG a) (sb : SmallG b) : region_Meet (a, b) = some (meetG a b) := by
  have hbig : big = 1048576 := rfl
  unfold region_Meet meetG
  simp only
  rw [region_Check_val a sa, region_Check_val b sb]
  simp only [bindK_some, brK_ite]
  by_cases ea : regErr a = 0
  case neg => rw [if_pos ea, if_pos ea]; rfl
  by_cases eb : regErr b = 0
  case neg => rw [if_neg (fun h => h ea), if_pos eb, if_neg (fun h => h ea), if_pos eb]; rfl
  rw [if_neg (fun h => h ea), if_neg (fun h => h eb), if_neg (fun h => h ea), if_neg (fun h => h eb), pattern_Meet_val a.1 b.1 sa.base sb.base, bindK_some]
  have la := (regErr_zero.1 ea).2.2
  have lb := (regErr_zero.1 eb).2.2
  cases hm : meetP a.1 b.1 with
  | none => rfl
  | some m =>
    have hi := meetP_is hm
    have sm := meet_small hi sa.base sb.base
    have hsm := smallG_app sa sb.hole
    simp only [meetR, Bool.not_true, brK_false]
    rw [slices_Concat_val a.2 b.2 (by omega) (by omega), bindK_some, holes_Simple_val m _ sm hsm (by rw [List.length_append]; omega), bindK_some]
    by_cases h64 : 64 < (simpleG m (a.2 ++ b.2)).2.length
    · rw [if_pos (by omega), if_pos h64]; rfl
    · rw [if_neg (by omega), if_neg h64, holes_Length_val _ (simpleG_small sm hsm (by rw [List.length_append]; omega)) (simpleG_ok _ hi.err), bindK_some]
      unfold nonE
      cases lengthG (simpleG m (a.2 ++ b.2)) <;> rfl

theorem meetG_small {a b : Reg} (sa : SmallG a) (sb : SmallG b) : SmallG (meetG a b).1 := by
  have hbig : big = 1048576 := rfl
  cases hs : (meetG a b).2.1 with
  | true =>
    obtain ⟨ea, eb, _, m, h1, h2, _⟩ := meetG_some hs
    rw [h2]
    have la := (regErr_zero.1 ea).2.2
    have lb := (regErr_zero.1 eb).2.2
    exact simpleG_small (meet_small (meetP_is h1) sa.base sb.base) (smallG_app sa sb.hole) (by rw [List.length_append]; omega)
  | false =>
    have : (meetG a b).1 = zeroG := by
      unfold meetG at hs ⊢
      by_cases h1 : regErr a ≠ 0
      · rw [if_pos h1]
      by_cases h2 : regErr b ≠ 0
      · rw [if_neg h1, if_pos h2]
      rw [if_neg h1, if_neg h2] at hs ⊢
      cases hm : meetP a.1 b.1 with
      | none => rfl
      | some m =>
        rw [hm] at hs
        simp only at hs ⊢
        by_cases h3 : 64 < (simpleG m (a.2 ++ b.2)).2.length
        · rw [if_pos h3]
        · rw [if_neg h3] at hs ⊢
          by_cases h4 : nonE (simpleG m (a.2 ++ b.2)) = true
          · rw [if_pos h4] at hs; cases hs
          · rw [if_neg h4]
    rw [this]
    exact zeroG_small

theorem part_small {a : Reg} {s : List Pat} {h m : Pat} (sa : SmallG a) (hs : ∀ x ∈ s, SmallP x) (hh : SmallP h) (hm : meetP a.1 h = some m) (k : Nat) (la : a.2.length ≤ 64) (ls : s.length ≤ 64) : (∀ x ∈ a.2 ++ s.take k, SmallP x) ∧ (a.2 ++ s.take k).length ≤ big ∧ SmallP m ∧ SmallG (simpleG m (a.2 ++ s.take k)) := by
  have hbig : big = 1048576 := rfl
  have h1 : ∀ x ∈ a.2 ++ s.take k, SmallP x := smallG_app sa fun x hx => hs x (List.mem_of_mem_take hx)
  have h2 : (a.2 ++ s.take k).length ≤ big := by rw [List.length_append, List.length_take]; omega
  have h3 := meet_small (meetP_is hm) sa.base hh
  exact ⟨h1, h2, h3, simpleG_small h3 h1 h2⟩

theorem limF_part {out : List Reg} {m : Pat} {hs : List Pat} {l : List Reg} : limF out (simpleG m hs :: l) = if 64 < (simpleG m hs).2.length then none else limF (out ++ if nonE (simpleG m hs) = true then [simpleG m hs] else []) l := rfl

theorem region_Minus_L13_loop (a : Reg) (s : List Pat) (sa : SmallG a) (la : a.2.length ≤ 64) (ls : s.length ≤ 64) (hs : ∀ x ∈ s, SmallP x) : ∀ (n k fuel : Nat) (out : List Reg), k + n = s.length → out.length ≤ k + 1 → n < fuel →
    region_Minus_L13 fuel ((a.1.1, a.1.2, a.2), out, out, s, s, (s.length : Int), (k : Int)) = some (match limF out (partsTail a s k (s.drop k)) with | some o => .inl o | none => .inr (.inl ([], 52)))
  | 0, k, fuel + 1, out, h, _, _ => by
    have hd : s.drop k = [] := List.drop_eq_nil_of_le (by omega)
    simp only [region_Minus_L13, region_Minus_L13_B, brK_ite]
    rw [if_neg (by omega), hd]
    rfl
  | n + 1, k, fuel + 1, out, h, ho, hf => by
    have hbig : big = 1048576 := rfl
    have hk : k < s.length := by omega
    have sh := hs _ (List.getElem_mem hk)
    simp only [region_Minus_L13, region_Minus_L13_B, brK_ite]
    rw [if_pos (by omega), listAt_nat, List.getElem?_eq_getElem hk, List.drop_eq_getElem_cons hk]
    simp only [bindK_some, partsTail]
    have hM := pattern_Meet_val a.1 s[k] sa.base sh
    have e1 : (a.1.1, a.1.2) = a.1 := rfl
    rw [e1, hM, bindK_some]
    unfold Go.Ai.partAt
    cases hm : meetP a.1 s[k] with
    | none =>
      simp only [meetR, brK_false, List.nil_append]
      rw [wrap_succ (by omega), region_Minus_L13_loop a s sa la ls hs n (k + 1) fuel out (by omega) (by omega) (by omega)]
    | some m =>
      obtain ⟨p1, p2, p3, p4⟩ := part_small sa hs sh hm k la ls
      have hi := meetP_is hm
      have ho' := simpleG_ok (base := m) (a.2 ++ s.take k) hi.err
      have e0 : Int.toNat 0 = 0 := rfl
      simp only [meetR, brK_true]
      rw [if_pos ⟨by omega, by omega, by omega⟩, Int.toNat_natCast, e0, List.drop_zero, slices_Concat_val _ _ (by omega) (by rw [List.length_take]; omega), bindK_some, holes_Simple_val m _ p3 p1 p2, bindK_some, holes_Length_val _ p4 ho', bindK_some]
      rw [List.singleton_append, limF_part]
      have hnon : nonE (simpleG m (a.2 ++ s.take k)) = (lengthG (simpleG m (a.2 ++ s.take k))).isSome := rfl
      rw [hnon]
      cases hlen : lengthG (simpleG m (a.2 ++ s.take k)) with
      | none =>
        simp only [Option.isSome_none, brK_false, Bool.false_eq_true, if_false, List.append_nil]
        by_cases h64 : 64 < (simpleG m (a.2 ++ s.take k)).2.length
        · rw [decide_eq_false (by omega), Bool.not_false, brK_true, if_pos h64]
        · rw [decide_eq_true (by omega), Bool.not_true, brK_false, if_neg h64, wrap_succ (by omega), region_Minus_L13_loop a s sa la ls hs n (k + 1) fuel out (by omega) (by omega) (by omega)]
      | some x =>
        simp only [Option.isSome_some, brK_true, if_true, List.length_cons, List.length_nil, Nat.zero_add]
        rw [fits_ok (by omega) (by omega) (by omega), brK_true]
        by_cases h64 : 64 < (simpleG m (a.2 ++ s.take k)).2.length
        · rw [decide_eq_false (by omega), Bool.not_false, brK_true, if_pos h64]
        · rw [decide_eq_true (by omega), Bool.not_true, brK_false, if_neg h64, wrap_succ (by omega), region_Minus_L13_loop a s sa la ls hs n (k + 1) fuel _ (by omega) (by simp; omega) (by omega)]

theorem region_Minus_val (a b : Reg) (sa : SmallG a) (sb : SmallG b) : region_Minus (a, b) = some (minusG a b) := by
  have hbig : big = 1048576 := rfl
  unfold region_Minus minusG
  simp only
  rw [region_Check_val a sa, region_Check_val b sb]
  simp only [bindK_some, brK_ite]
  by_cases ea : regErr a = 0
  case neg => rw [if_pos ea, if_pos ea]
  by_cases eb : regErr b = 0
  case neg => rw [if_neg (fun h => h ea), if_pos eb, if_neg (fun h => h ea), if_pos eb]
  rw [if_neg (fun h => h ea), if_neg (fun h => h eb), if_neg (fun h => h ea), if_neg (fun h => h eb)]
  have la := (regErr_zero.1 ea).2.2
  have lb := (regErr_zero.1 eb).2.2
  have hbs := holes_Simple_val b.1 b.2 sb.base sb.hole sb.len
  have e1 : (b.1, b.2) = b := rfl
  rw [e1] at hbs
  rw [hbs, bindK_some]
  have hs1 := simpleL_small sb.base sb.hole
  have hsl : (simpleL b.1 b.2).length ≤ 64 := Nat.le_trans (simpleL_length b.1 b.2) lb
  have hcl : slices_Clone a.2 = some a.2 := by
    unfold slices_Clone cloneF
    rw [if_pos (fits_ok (by omega) (by omega) (by omega))]
  rw [hcl, bindK_some]
  simp only [List.length_cons, List.length_nil, Nat.zero_add]
  have hsm : ∀ x ∈ a.2 ++ [b.1], SmallP x := smallG_app sa fun x hx => by have : x = b.1 := (by simpa using hx); rw [this]; exact sb.base
  have hlen2 : (a.2 ++ [b.1]).length ≤ big := by simp; omega
  have ho := simpleG_ok (base := a.1) (a.2 ++ [b.1]) (regErr_zero.1 ea).1
  rw [fits_ok (by omega) (by omega) (by omega), brK_true, holes_Simple_val a.1 _ sa.base hsm hlen2, bindK_some, holes_Length_val _ (simpleG_small sa.base hsm hlen2) ho, bindK_some]
  have hnon : nonE (simpleG a.1 (a.2 ++ [b.1])) = (lengthG (simpleG a.1 (a.2 ++ [b.1]))).isSome := rfl
  have hlim := limF_eq (partsG a b) []
  unfold partsG at hlim
  rw [limF_part, hnon, List.nil_append] at hlim
  have hloop := fun out (ho : List.length (α := Reg) out ≤ 1) => region_Minus_L13_loop a (simpleL b.1 b.2) sa la hsl hs1 (simpleL b.1 b.2).length 0
    (List.length a.1.1 + List.length a.2 + List.length out + List.length out + List.length (simpleL b.1 b.2) + List.length (simpleL b.1 b.2) + Int.natAbs ((simpleL b.1 b.2).length : Int) + Int.natAbs 0 + 1000) out (by omega) (by omega) (by omega)
  rw [show ((0 : Nat) : Int) = 0 from rfl] at hloop
  simp only [List.drop_zero] at hloop
  have fin : ∀ o : Option (List Reg), o = (if over (partsG a b) = true then none else some ((partsG a b).filter nonE)) →
      (bindK (some (match o with | some o => (.inl o : List Reg ⊕ ((List Reg × Int) ⊕ Empty)) | none => .inr (.inl ([], 52)))) fun o => sumK o (fun y => some (y, (0 : Int))) fun z => sumK z (fun y => some y) fun z => emptyK z) = some (if over (partsG a b) = true then ([], 52) else ((partsG a b).filter nonE, 0)) := by
    intro o ho
    subst ho
    by_cases hov : over (partsG a b) = true
    · rw [if_pos hov, if_pos hov]; rfl
    · rw [if_neg hov, if_neg hov]; rfl
  unfold region_Minus_L13_f
  cases hlen : lengthG (simpleG a.1 (a.2 ++ [b.1])) with
  | none =>
    rw [hlen] at hlim
    simp only [Option.isSome_none, brK_false, Bool.false_eq_true, if_false] at hlim ⊢
    by_cases h64 : 64 < (simpleG a.1 (a.2 ++ [b.1])).2.length
    · rw [if_pos h64] at hlim
      rw [decide_eq_false (by omega), Bool.not_false, brK_true]
      have := fin none hlim
      simpa using this
    · rw [if_neg h64] at hlim
      rw [decide_eq_true (by omega), Bool.not_true, brK_false]
      have hl := hloop [] (by simp)
      simp only [simpleG] at hl ⊢
      rw [hl]
      exact fin _ hlim
  | some x =>
    rw [hlen] at hlim
    simp only [Option.isSome_some, brK_true, if_true] at hlim ⊢
    rw [fits_ok (by omega) (by omega) (by omega), brK_true]
    by_cases h64 : 64 < (simpleG a.1 (a.2 ++ [b.1])).2.length
    · rw [if_pos h64] at hlim
      rw [decide_eq_false (by omega), Bool.not_false, brK_true]
      have := fin none hlim
      simpa using this
    · rw [if_neg h64] at hlim
      rw [decide_eq_true (by omega), Bool.not_true, brK_false]
      have hl := hloop [simpleG a.1 (a.2 ++ [b.1])] (by simp)
      simp only [simpleG] at hl hlim ⊢
      rw [hl]
      exact fin _ hlim

theorem partsTail_length (a : Reg) (s : List Pat) : ∀ (l : List Pat) (k : Nat), (partsTail a s k l).length ≤ l.length
  | [], _ => Nat.le_refl _
  | h :: l, k => by
    rw [partsTail, List.length_append, List.length_cons]
    have := partsTail_length a s l (k + 1)
    have : (Go.Ai.partAt a s k h).length ≤ 1 := by unfold Go.Ai.partAt; split <;> simp
    omega
theorem partsG_length (a b : Reg) : (partsG a b).length ≤ b.2.length + 1 := by
  unfold partsG
  have := partsTail_length a (simpleL b.1 b.2) (simpleL b.1 b.2) 0
  have := simpleL_length b.1 b.2
  simp
  omega
theorem partsG_small {a b : Reg} (sa : SmallG a) (sb : SmallG b) (ea : regErr a = 0) (eb : regErr b = 0) : ∀ g ∈ partsG a b, SmallG g := by
  have hbig : big = 1048576 := rfl
  have la := (regErr_zero.1 ea).2.2
  have lb := (regErr_zero.1 eb).2.2
  intro g hg
  rcases List.mem_cons.1 hg with rfl | hg
  · exact simpleG_small sa.base (smallG_app sa fun x hx => by have : x = b.1 := (by simpa using hx); rw [this]; exact sb.base) (by simp; omega)
  · obtain ⟨t, x, hx, hg'⟩ := partsTail_mem.1 hg
    have hs1 := simpleL_small sb.base sb.hole
    have hsl : (simpleL b.1 b.2).length ≤ 64 := Nat.le_trans (simpleL_length b.1 b.2) lb
    unfold Go.Ai.partAt at hg'
    split at hg'
    case h_2 => cases hg'
    rename_i m hm
    have : g = simpleG m (a.2 ++ (simpleL b.1 b.2).take (0 + t)) := by simpa using hg'
    rw [this]
    exact (part_small sa hs1 (hs1 _ (List.mem_of_getElem? hx)) hm _ la hsl).2.2.2
theorem minusG_small {a b : Reg} (sa : SmallG a) (sb : SmallG b) : ∀ g ∈ (minusG a b).1, SmallG g := by
  intro g hg
  unfold minusG at hg
  split at hg
  · cases hg
  rename_i ea
  split at hg
  · cases hg
  rename_i eb
  split at hg
  · cases hg
  exact partsG_small sa sb (Decidable.byContradiction ea) (Decidable.byContradiction eb) g (List.mem_filter.1 hg).1
theorem minusG_length (a b : Reg) (hb : b.2.length ≤ 70) : (minusG a b).1.length ≤ 71 := by
  unfold minusG
  split
  · simp
  split
  · simp
  split
  · simp
  · have := partsG_length a b
    exact Nat.le_trans (List.length_filter_le _ _) (by omega)
end Go.Proofs.YtcmfkmhmehhkpaaDoor

set_option linter.unusedSimpArgs false
set_option linter.unusedVariables false
set_option maxRecDepth 100000
namespace Go.Proofs.YtcmfkmhmehhkpaaDoor
open Go Go.Ai
/-! ### What the functions on regions mean -/
/-- A text is a path of a region. -/
def inR (g : Reg) (s : ByteArray) : Bool := decide (regErr g = 0) && hasR g s
theorem inR_none {g : Reg} {s : ByteArray} (h : pathWords s = none) : inR g s = false := by unfold inR; rw [hasR_none h, Bool.and_false]
theorem inR_some {g : Reg} {s : ByteArray} {ws : List ByteArray} (h : pathWords s = some ws) (hg : regErr g = 0) : inR g s = hasW g ws := by unfold inR; rw [hasR_some h, decide_eq_true hg, Bool.true_and]

theorem RegionKeeps_val (g : Reg) (s : ByteArray) (hg : WideG g) : law05_RegionKeeps (g, s) = some true := by
  have hh : huge = 1073741824 := rfl
  obtain ⟨b, hb, ht⟩ := small_val g hg
  unfold law05_RegionKeeps
  simp only
  rw [hb, awake_val]
  simp only [bindK_some]
  cases b with
  | false => rfl
  | true =>
    have sg := (ht rfl).small
    simp only [Bool.not_true, brK_false, brK_ite]
    by_cases hs : (s.size : Int) > 300
    · rw [if_pos hs]
    have hsz : s.size ≤ huge := by omega
    rw [if_neg hs, region_Simplify_val g sg, bindK_some]
    by_cases h0 : regErr g = 0
    case neg =>
      rw [if_neg h0, if_pos h0, region_Check_val g sg, bindK_some, if_pos rfl]
    have hl64 := (regErr_zero.1 h0).2.2
    have ss := simpleG_small sg.base sg.hole sg.len
    have hlen := simpleL_length g.1 g.2
    have es : regErr (simpleG g.1 g.2) = 0 := simpleG_err (regErr_zero.1 h0).1 (by show (simpleL g.1 g.2).length ≤ 64; omega)
    rw [if_pos h0, if_neg (by simp), region_Simplify_val _ ss, bindK_some, if_pos es]
    have hag : simpleG (simpleG g.1 g.2).1 (simpleG g.1 g.2).2 = simpleG g.1 g.2 := by
      show (g.1, simpleL g.1 (simpleL g.1 g.2)) = (g.1, simpleL g.1 g.2)
      rw [simpleL_again]
    rw [hag, if_pos rfl, ref05_Same_val _ _ ss, bindK_some, decide_eq_true rfl, brK_true, if_pos (by show ((simpleL g.1 g.2).length : Int) ≤ _; omega), region_Has_val _ s ss hsz, bindK_some, region_Has_val g s sg hsz, bindK_some]
    have : (decide (regErr (simpleG g.1 g.2) = 0) && hasR (simpleG g.1 g.2) s) = (decide (regErr g = 0) && hasR g s) := by
      rw [es, h0]
      cases hp : pathWords s with
      | none => rw [hasR_none hp, hasR_none hp]
      | some ws => rw [hasR_some hp, hasR_some hp, simpleG_hasW g.1 g.2 (pathWords_some hp).2.1]
    rw [this]
    simp

theorem meetG_errA {a b : Reg} (h : regErr a ≠ 0) : meetG a b = (zeroG, false, regErr a) := by unfold meetG; rw [if_pos h]
theorem meetG_errB {a b : Reg} (ha : regErr a = 0) (h : regErr b ≠ 0) : meetG a b = (zeroG, false, regErr b) := by unfold meetG; rw [if_neg (fun h => h ha), if_pos h]
theorem meetG_good {a b : Reg} (ha : regErr a = 0) (hb : regErr b = 0) : meetG a b = match meetP a.1 b.1 with
    | none => (zeroG, false, 0)
    | some m => if 64 < (simpleG m (a.2 ++ b.2)).2.length then (zeroG, false, 52) else if nonE (simpleG m (a.2 ++ b.2)) = true then (simpleG m (a.2 ++ b.2), true, 0) else (zeroG, false, 0) := by
  unfold meetG
  rw [if_neg (fun h => h ha), if_neg (fun h => h hb)]
  cases meetP a.1 b.1 <;> rfl
theorem meetG_comm (a b : Reg) : (meetG b a).1 = (meetG a b).1 ∧ (meetG b a).2.1 = (meetG a b).2.1 ∧ (decide ((meetG b a).2.2 = 0) = decide ((meetG a b).2.2 = 0)) := by
  by_cases ea : regErr a = 0
  case neg =>
    rw [meetG_errA (a := a) (b := b) ea]
    by_cases eb : regErr b = 0
    · rw [meetG_errB eb ea]; exact ⟨rfl, rfl, rfl⟩
    · rw [meetG_errA (a := b) (b := a) eb]; exact ⟨rfl, rfl, by simp [ea, eb]⟩
  by_cases eb : regErr b = 0
  case neg =>
    rw [meetG_errA (a := b) (b := a) eb, meetG_errB ea eb]; exact ⟨rfl, rfl, rfl⟩
  rw [meetG_good ea eb, meetG_good eb ea, meetP_comm b.1 a.1]
  cases hm : meetP a.1 b.1 with
  | none => exact ⟨rfl, rfl, rfl⟩
  | some m =>
    have e : simpleG m (b.2 ++ a.2) = simpleG m (a.2 ++ b.2) := by
      unfold simpleG
      rw [simpleL_congr (base := m) (hs := b.2 ++ a.2) (hs' := a.2 ++ b.2) fun x => by
        simp only [metL_mem, List.mem_append]
        constructor
        · rintro ⟨h, h1 | h1, h2⟩
          · exact ⟨h, .inr h1, h2⟩
          · exact ⟨h, .inl h1, h2⟩
        · rintro ⟨h, h1 | h1, h2⟩
          · exact ⟨h, .inr h1, h2⟩
          · exact ⟨h, .inl h1, h2⟩]
    simp only [e]
    exact ⟨trivial, trivial, trivial⟩
theorem meetG_self (a : Reg) : (meetG a a).2.2 = regErr a ∧ ((meetG a a).2.1 = true → (meetG a a).1 = simpleG a.1 a.2) := by
  by_cases ea : regErr a = 0
  case neg => rw [meetG_errA ea]; exact ⟨rfl, fun h => by cases h⟩
  rw [meetG_good ea ea]
  obtain ⟨e1, e2, e3⟩ := regErr_zero.1 ea
  have hm : meetP a.1 a.1 = some a.1 := meet_of_within (withinP_refl e1)
  rw [hm]
  have e : simpleG a.1 (a.2 ++ a.2) = simpleG a.1 a.2 := by
    unfold simpleG
    rw [simpleL_congr (base := a.1) (hs := a.2 ++ a.2) (hs' := a.2) fun x => by simp only [metL_mem, List.mem_append, or_self]]
  have hl : ¬ 64 < (simpleG a.1 a.2).2.length := by
    have := simpleL_length a.1 a.2
    show ¬ 64 < (simpleL a.1 a.2).length
    omega
  simp only [e, hl, if_false]
  by_cases h : nonE (simpleG a.1 a.2) = true
  · rw [if_pos h]; exact ⟨ea.symm, fun _ => rfl⟩
  · rw [if_neg h]; exact ⟨ea.symm, fun h => by cases h⟩
theorem meetG_means {a b : Reg} (s : ByteArray) (h : (meetG a b).2.2 = 0) : ((meetG a b).2.1 && inR (meetG a b).1 s) = (inR a s && inR b s) := by
  cases hp : pathWords s with
  | none => simp [inR_none hp]
  | some ws =>
    have hc := (pathWords_some hp).2.1
    cases hm : (meetG a b).2.1 with
    | true =>
      obtain ⟨ea, eb, _, m, h1, h2, h3, _⟩ := meetG_some hm
      rw [h2, inR_some hp h3, inR_some hp ea, inR_some hp eb, Bool.true_and, Bool.eq_iff_iff, meet_has h1 hc, Bool.and_eq_true]
    | false =>
      obtain ⟨ea, eb, _, hd⟩ := meetG_none hm h
      rw [inR_some hp ea, inR_some hp eb, Bool.false_and]
      cases h1 : hasW a ws with
      | false => rfl
      | true =>
        cases h2 : hasW b ws with
        | false => rfl
        | true => exact (hd ws hc h1 h2).elim

theorem RegionMeetMeans_val (a b : Reg) (s : ByteArray) (ha : WideG a) (hb : WideG b) : law05_RegionMeetMeans (a, b, s) = some true := by
  have hh : huge = 1073741824 := rfl
  obtain ⟨x, hx, tx⟩ := small_val a ha
  obtain ⟨y, hy, ty⟩ := small_val b hb
  unfold law05_RegionMeetMeans
  simp only
  rw [hx, hy, awake_val]
  simp only [bindK_some]
  cases x with
  | false => rfl
  | true =>
    cases y with
    | false => rfl
    | true =>
      have sa := (tx rfl).small
      have sb := (ty rfl).small
      simp only [Bool.not_true, brK_false]
      rw [brK_ite]
      by_cases hs : (s.size : Int) > 300
      · rw [if_pos hs]
      have hsz : s.size ≤ huge := by omega
      have sm := meetG_small sa sb
      obtain ⟨c1, c2, c3⟩ := meetG_comm a b
      obtain ⟨d1, d2⟩ := meetG_self a
      rw [if_neg hs, region_Meet_val a b sa sb, bindK_some, region_Has_val a s sa hsz, region_Has_val b s sb hsz, region_Has_val _ s sm hsz, region_Meet_val b a sb sa, region_Meet_val a a sa sa, region_Simplify_val a sa]
      simp only [bindK_some]
      rw [ref05_Same_val _ _ sm, c1, c2, decide_eq_true rfl]
      simp only [bindK_some, beq_self_eq_true, Bool.not_true, brK_false]
      have c3' : (!((decide ((meetG a b).2.2 = 0)) == (decide ((meetG b a).2.2 = 0)))) = false := by rw [c3]; simp
      rw [c3', brK_false, d1]
      have htail : (brK (decide ((if regErr a = 0 then (simpleG a.1 a.2, (0 : Int)) else (zeroG, regErr a)).2 = regErr a)) (brK (!(meetG a a).2.1) (some true) (bindK (ref05_Same ((if regErr a = 0 then (simpleG a.1 a.2, (0 : Int)) else (zeroG, regErr a)).1, (meetG a a).1)) fun r => brK r (some true) (some false))) (some false)) = some true := by
        by_cases ea : regErr a = 0
        · rw [if_pos ea, decide_eq_true ea.symm, brK_true]
          cases hm : (meetG a a).2.1 with
          | false => rfl
          | true =>
            rw [Bool.not_true, brK_false, d2 hm, ref05_Same_val _ _ (simpleG_small sa.base sa.hole sa.len), bindK_some, decide_eq_true rfl]
            rfl
        · have hm : (meetG a a).2.1 = false := by
            cases hm : (meetG a a).2.1 with
            | false => rfl
            | true => exact absurd (meetG_some hm).1 ea
          rw [if_neg ea, decide_eq_true rfl, brK_true, hm]
          rfl
      rw [htail]
      by_cases he : (meetG a b).2.2 = 0
      · have hmean := meetG_means s he
        unfold inR at hmean
        rw [decide_eq_true he, brK_true]
        cases hm : (meetG a b).2.1 with
        | true =>
          rw [hm, Bool.true_and] at hmean
          rw [hmean, brK_true]
          cases hA : (decide (regErr a = 0) && hasR a s) with
          | true => rw [Bool.true_and]; simp
          | false => simp
        | false =>
          rw [hm, Bool.false_and] at hmean
          rw [brK_false]
          cases hA : (decide (regErr a = 0) && hasR a s) with
          | true => rw [hA, Bool.true_and] at hmean; rw [← hmean]; simp
          | false => simp
      · rw [decide_eq_false he, brK_false]

theorem RegionMinusMeans_loop (a b : Reg) (s : ByteArray) (hsz : s.size ≤ huge) (l : List Reg) (hl : l.length ≤ big) (hs : ∀ g ∈ l, SmallG g) (he : ∀ g ∈ l, regErr g = 0 ∧ nonE g = true) : ∀ (k i fuel : Nat) (n : Nat), i + k = l.length → n ≤ i → k < fuel →
    law05_RegionMinusMeans_L8 fuel (s, (a.1.1, a.1.2, a.2), (b.1.1, b.1.2, b.2), (n : Int), l, (l.length : Int), (i : Int)) = some (.inl (s, (a.1.1, a.1.2, a.2), (b.1.1, b.1.2, b.2), ((n + ((l.drop i).filter fun g => inR g s).length : Nat) : Int)))
  | 0, i, fuel + 1, n, h, _, _ => by
    have hd : l.drop i = [] := List.drop_eq_nil_of_le (by omega)
    simp only [law05_RegionMinusMeans_L8, law05_RegionMinusMeans_L8_B, brK_ite]
    rw [if_neg (by omega), hd]
    rfl
  | k + 1, i, fuel + 1, n, h, hn, hf => by
    have hbig : big = 1048576 := rfl
    have hi : i < l.length := by omega
    have hm := List.getElem_mem hi
    obtain ⟨e1, e2⟩ := he _ hm
    have hE : region_Empty l[i] = some (false, 0) := by
      rw [region_Empty_val _ (hs _ hm), if_pos e1]
      unfold nonE at e2
      cases hl : lengthG l[i] with
      | none => rw [hl] at e2; cases e2
      | some n => rfl
    simp only [law05_RegionMinusMeans_L8, law05_RegionMinusMeans_L8_B, brK_ite]
    rw [if_pos (by omega), listAt_nat, List.getElem?_eq_getElem hi, List.drop_eq_getElem_cons hi]
    simp only [bindK_some]
    rw [region_Has_val _ s (hs _ hm) hsz, bindK_some, hE]
    simp only [bindK_some, brK_false, ne_eq, not_true_eq_false, if_false]
    rw [List.filter_cons, wrap_succ (by omega), wrap_succ (by omega)]
    have hin : (decide (regErr l[i] = 0) && hasR l[i] s) = inR l[i] s := rfl
    rw [hin]
    cases inR l[i] s with
    | true =>
      rw [brK_true, RegionMinusMeans_loop a b s hsz l hl hs he k (i + 1) fuel (n + 1) (by omega) (by omega) (by omega)]
      simp
      omega
    | false =>
      rw [brK_false, RegionMinusMeans_loop a b s hsz l hl hs he k (i + 1) fuel n (by omega) (by omega) (by omega)]
      simp

theorem filter_one {l : List Reg} {p : Reg → Bool} (hd : l.Pairwise fun g h => ¬ (p g = true ∧ p h = true)) : (l.filter p).length = if (l.any p) = true then 1 else 0 := by
  induction l with
  | nil => rfl
  | cons g l ih =>
    rw [List.pairwise_cons] at hd
    rw [List.filter_cons, List.any_cons]
    cases hp : p g with
    | false => simp only [Bool.false_eq_true, if_false, Bool.false_or]; exact ih hd.2
    | true =>
      have : l.filter p = [] := List.filter_eq_nil_iff.2 fun x hx hpx => hd.1 x hx ⟨hp, hpx⟩
      simp [this]
theorem minusG_means {a b : Reg} (s : ByteArray) (h : (minusG a b).2 = 0) : ((minusG a b).1.filter fun g => inR g s).length = if (inR a s && !inR b s) = true then 1 else 0 := by
  obtain ⟨ea, eb, _, hp, herr⟩ := minusG_parts h
  cases hw : pathWords s with
  | none =>
    rw [List.filter_eq_nil_iff.2 (fun g _ => by rw [inR_none hw]; simp), inR_none hw]
    rfl
  | some ws =>
    have hc := (pathWords_some hw).2.1
    have hd : ((minusG a b).1).Pairwise fun g h => ¬ (inR g s = true ∧ inR h s = true) := by
      rw [hp]
      refine ((partsG_disj a b).filter nonE).imp_of_mem fun {g h} hg hh hgh => ?_
      rw [inR_some hw (herr g (List.mem_filter.1 hg).1), inR_some hw (herr h (List.mem_filter.1 hh).1)]
      rintro ⟨h1, h2⟩
      exact hgh ws hc h1 h2
    rw [filter_one hd, inR_some hw ea, inR_some hw eb]
    have hany : ((minusG a b).1.any fun g => inR g s) = (hasW a ws && !hasW b ws) := by
      rw [Bool.eq_iff_iff, List.any_eq_true, Bool.and_eq_true, Bool.not_eq_true', ← partsG_has hc, hp]
      constructor
      · rintro ⟨g, hg, hgw⟩
        have := (List.mem_filter.1 hg).1
        rw [inR_some hw (herr g this)] at hgw
        exact ⟨g, this, hgw⟩
      · rintro ⟨g, hg, hgw⟩
        exact ⟨g, List.mem_filter.2 ⟨hg, nonE_of (herr g hg) hc hgw⟩, by rw [inR_some hw (herr g hg)]; exact hgw⟩
    rw [hany]

theorem RegionMinusMeans_val (a b : Reg) (s : ByteArray) (ha : WideG a) (hb : WideG b) : law05_RegionMinusMeans (a, b, s) = some true := by
  have hh : huge = 1073741824 := rfl
  have hbig : big = 1048576 := rfl
  obtain ⟨x, hx, tx⟩ := small_val a ha
  obtain ⟨y, hy, ty⟩ := small_val b hb
  unfold law05_RegionMinusMeans
  simp only
  rw [hx, hy, awake_val]
  simp only [bindK_some]
  cases x with
  | false => rfl
  | true =>
    cases y with
    | false => rfl
    | true =>
      have sa := (tx rfl).small
      have sb := (ty rfl).small
      have hl := minusG_length a b (ty rfl).len
      simp only [Bool.not_true, brK_false]
      rw [brK_ite]
      by_cases hs : (s.size : Int) > 300
      · rw [if_pos hs]
      have hsz : s.size ≤ huge := by omega
      rw [if_neg hs, region_Minus_val a b sa sb]
      simp only [bindK_some, brK_ite]
      by_cases h2 : (minusG a b).2 = 0
      case neg => rw [if_pos h2]
      rw [if_neg (fun h => h h2)]
      obtain ⟨ea, eb, _, hp, herr⟩ := minusG_parts h2
      unfold law05_RegionMinusMeans_L8_f
      have loop := RegionMinusMeans_loop a b s hsz (minusG a b).1 (by omega) (minusG_small sa sb) (fun g hg => by
          rw [hp] at hg
          exact ⟨herr g (List.mem_filter.1 hg).1, (List.mem_filter.1 hg).2⟩) (minusG a b).1.length 0
        (ByteArray.size s + List.length a.1.1 + List.length a.2 + List.length b.1.1 + List.length b.2 + Int.natAbs 0 + List.length (minusG a b).1 + Int.natAbs ((minusG a b).1.length : Int) + Int.natAbs 0 + 1000) 0 (by omega) (by omega) (by omega)
      rw [show ((0 : Nat) : Int) = 0 from rfl, List.drop_zero, minusG_means s h2, Nat.zero_add] at loop
      rw [loop, bindK_some, sumK_inl]
      simp only
      have e1 : ((a.1.1, a.1.2), a.2) = a := rfl
      have e2 : ((b.1.1, b.1.2), b.2) = b := rfl
      rw [e1, e2, region_Has_val a s sa hsz, region_Has_val b s sb hsz, bindK_some, bindK_some]
      have i1 : (decide (regErr a = 0) && hasR a s) = inR a s := rfl
      have i2 : (decide (regErr b = 0) && hasR b s) = inR b s := rfl
      rw [i1, i2]
      cases inR a s <;> cases inR b s <;> rfl

theorem regionKeeps_pure (g : Reg) (s : ByteArray) (hg : Ty.wOK 140737488351232 tyReg g) (hs : Ty.wOK 140737488351232 .str s) : law05_RegionKeeps (g, s) = some true := RegionKeeps_val g s (wideG_of hg)
theorem regionMeetMeans_pure (a b : Reg) (s : ByteArray) (ha : Ty.wOK 140737488351232 tyReg a) (hb : Ty.wOK 140737488351232 tyReg b) (hs : Ty.wOK 140737488351232 .str s) : law05_RegionMeetMeans (a, b, s) = some true := RegionMeetMeans_val a b s (wideG_of ha) (wideG_of hb)
theorem regionMinusMeans_pure (a b : Reg) (s : ByteArray) (ha : Ty.wOK 140737488351232 tyReg a) (hb : Ty.wOK 140737488351232 tyReg b) (hs : Ty.wOK 140737488351232 .str s) : law05_RegionMinusMeans (a, b, s) = some true := RegionMinusMeans_val a b s (wideG_of ha) (wideG_of hb)
end Go.Proofs.YtcmfkmhmehhkpaaDoor
