/- A part of the proof of a law of this seat (rP_S2, rP_S3, rP_S4). -/
import Derived.Test.YtcmfkmhmehhkpaaMb
import Derived.Test.YtcmfkmhmehhkpaaAe
set_option linter.unusedSimpArgs false
set_option linter.unusedVariables false
set_option maxRecDepth 100000
namespace Go.Proofs.Ytcmfkmhmehhkpaa
open Go Go.Ai
/-! ### Simplified regions -/
theorem meet_small {p q m : Pat} (h : MeetIs p q m) (hp : SmallP p) (hq : SmallP q) : SmallP m := by
  have hbig : big = 1048576 := rfl
  have h12 := (patErr_zero.1 h.err).2.2.2
  refine ⟨by omega, fun s hs => ?_⟩
  obtain ⟨i, hi, rfl⟩ := List.mem_iff_getElem.1 hs
  have e : m.1[i] = ptAt m i := (ptAt_in hi).symm
  rw [e]
  rcases narrow_some (h.at_ i) with e | e
  · rw [e]; exact ptAt_size hp i
  · rw [e]; exact ptAt_size hq i
theorem metL_small {base : Pat} {hs : List Pat} (hb : SmallP base) (hh : ∀ h ∈ hs, SmallP h) {m : Pat} (hm : m ∈ metL base hs) : SmallP m := by
  obtain ⟨h, h1, h2⟩ := metL_mem.1 hm
  exact meet_small (meetP_is h2) hb (hh h h1)
theorem simpleL_small {base : Pat} {hs : List Pat} (hb : SmallP base) (hh : ∀ h ∈ hs, SmallP h) : ∀ m ∈ simpleL base hs, SmallP m := fun _ hm => metL_small hb hh (simpleL_sub hm)
theorem simpleG_small {base : Pat} {hs : List Pat} (hb : SmallP base) (hh : ∀ h ∈ hs, SmallP h) (hl : hs.length ≤ big) : SmallG (simpleG base hs) := ⟨hb, simpleL_small hb hh, Nat.le_trans (simpleL_length base hs) hl⟩
theorem simpleG_ok {base : Pat} (hs : List Pat) (eb : patErr base = 0) : okG (simpleG base hs) := ⟨eb, fun _ h => simpleL_err h⟩

def metS (base : Pat) (a : List Hol) (h : Pat) : List Hol := match meetP base h with | some m => a ++ [(textP m, m)] | none => a
theorem metS_fold (base : Pat) {O : Type} (fin : List Hol → O) : ∀ (hs : List Pat) (a : List Hol), foldE (fun a h => (.inl (metS base a h) : List Hol ⊕ O)) fin a hs = fin (a ++ holL (metL base hs))
  | [], a => by simp [foldE, metL, holL]
  | h :: hs, a => by
    rw [foldE]
    simp only
    rw [metS_fold base fin hs]
    congr 1
    unfold metS metL holL
    rw [List.filterMap_cons]
    cases meetP base h <;> simp

theorem holes_Copied_val (p : Pat) (hp : SmallP p) : holes_Copied p = some p := by
  have hbig : big = 1048576 := rfl
  have := hp.len
  unfold holes_Copied
  rw [fits_ok (by simp) (by omega) (by omega)]
  rfl

theorem holes_Simple_3_val (a b : Hol) (ha : SmallP a.2) (hb : SmallP b.2) : holes_Simple_3 (a, b) = some (decide (b.1 ≠ a.1) && withinP b.2 a.2) := by
  unfold holes_Simple_3
  simp only
  rw [brK_ite]
  by_cases h : b.1 = a.1
  · rw [if_neg (by simp [h])]
    simp [h]
  · have hw := pattern_Within_val b.2 a.2 hb ha
    rw [if_pos h, decide_eq_true h, Bool.true_and]
    have e : (b.2.1, b.2.2) = b.2 := rfl
    first | rw [hw] | rw [e, hw] | skip
    rfl
theorem ContainsFunc_Simple_val (l : List Hol) (x : Hol) (hl : l.length ≤ big) (hs : ∀ a ∈ l, SmallP a.2) (hx : SmallP x.2) : slices_ContainsFunc__holes_Simple_3 (l, x) = some (l.any fun y => decide (x.1 ≠ y.1) && withinP x.2 y.2) := by
  have hbig : big = 1048576 := rfl
  unfold slices_ContainsFunc__holes_Simple_3 slices_IndexFunc__holes_Simple_3 slices_IndexFunc__holes_Simple_3_L2_f
  simp only
  have := idx_loop (F := slices_IndexFunc__holes_Simple_3_L2) (B := slices_IndexFunc__holes_Simple_3_L2_B) (fun _ _ => rfl) l (fun i => (l, x, (l.length : Int), (i : Int))) (fun y => decide (x.1 ≠ y.1) && withinP x.2 y.2) (fun i => .inr (.inl (i : Int))) (.inl ())
    (fun rec i h => by
      simp only [slices_IndexFunc__holes_Simple_3_L2_B, brK_ite]
      rw [if_pos (by omega), listAt_nat, List.getElem?_eq_getElem h]
      simp only [bindK_some]
      rw [holes_Simple_3_val _ _ (hs _ (List.getElem_mem h)) hx, bindK_some, wrap_succ (by omega)]
      cases decide (x.1 ≠ l[i].1) && withinP x.2 l[i].2 <;> rfl)
    (fun rec => by
      simp only [slices_IndexFunc__holes_Simple_3_L2_B, brK_ite]
      rw [if_neg (by omega)]) l.length 0 (List.length l + ByteArray.size x.1 + List.length x.2.1 + Int.natAbs (l.length : Int) + Int.natAbs 0 + 1000) (by omega) (by omega)
  rw [show ((0 : Nat) : Int) = 0 from rfl, List.drop_zero] at this
  rcases this with ⟨j, h1, h2, _⟩ | ⟨h1, h2⟩
  · rw [h1, h2]
    simp only [bindK_some, sumK_inr, sumK_inl]
    rw [decide_eq_true (by omega)]
  · rw [h1, h2]
    rfl

def keepS (u : List Hol) (out : List Pat) (x : Hol) : List Pat := if (u.any fun y => decide (x.1 ≠ y.1) && withinP x.2 y.2) = true then out else out ++ [x.2]
theorem keepS_fold (u : List Hol) {O : Type} (fin : List Pat → O) : ∀ (l : List Hol) (out : List Pat), foldE (fun a h => (.inl (keepS u a h) : List Pat ⊕ O)) fin out l = fin (out ++ (l.filter fun x => !(u.any fun y => decide (x.1 ≠ y.1) && withinP x.2 y.2)).map Prod.snd)
  | [], a => by simp [foldE]
  | h :: hs, a => by
    rw [foldE]
    simp only
    rw [keepS_fold u fin hs, List.filter_cons]
    congr 1
    unfold keepS
    cases (u.any fun y => decide (h.1 ≠ y.1) && withinP h.2 y.2) <;> simp

theorem kept_eq (l : List Pat) (hl : ∀ m ∈ l, patErr m = 0) : (((compL ((holL l).mergeSort leH)).filter fun x => !((compL ((holL l).mergeSort leH)).any fun y => decide (x.1 ≠ y.1) && withinP x.2 y.2)).map Prod.snd) = (uniqL l).filter (keepB (uniqL l)) := by
  have hok : okH (compL ((holL l).mergeSort leH)) := fun a ha => holL_ok hl a ((uniq_pairs_mem hl).1 ha)
  unfold uniqL
  rw [List.filter_map]
  congr 1
  apply List.filter_congr
  intro x hx
  simp only [Function.comp]
  unfold keepB
  rw [List.all_map]
  rw [Bool.eq_iff_iff, Bool.not_eq_true', List.any_eq_false, List.all_eq_true]
  refine forall_congr' fun y => forall_congr' fun hy => ?_
  simp only [Function.comp]
  have e : (x.1 = y.1) ↔ y.2 = x.2 := ⟨fun h => by rw [hok.eq hx hy h], fun h => by rw [(hok x hx).1, (hok y hy).1, h]⟩
  cases hw : withinP x.2 y.2 with
  | false => simp
  | true =>
    by_cases h : x.1 = y.1
    · simp [h, e.1 h]
    · have : ¬ y.2 = x.2 := fun h2 => h (e.2 h2)
      simp [h, this]

theorem holes_Simple_val (base : Pat) (hs : List Pat) (hb : SmallP base) (hh : ∀ h ∈ hs, SmallP h) (hl : hs.length ≤ big) : holes_Simple (base, hs) = some (simpleG base hs) := by
  have hbig : big = 1048576 := rfl
  unfold holes_Simple holes_Simple_L3_f
  simp only
  have loop1 := range_ind (F := holes_Simple_L3) (B := holes_Simple_L3_B) (fun _ _ => rfl) hs (fun (a : List Hol) i => (base, (([] : List ByteArray), false, ([] : List Pat)), a, hs, (hs.length : Int), (i : Int))) (fun a h => .inl (metS base a h)) (fun a => .inl (base, (([] : List ByteArray), false, ([] : List Pat)), a)) (fun i a => a.length ≤ i)
    (fun rec a i h ha => by
      have hm := hh _ (List.getElem_mem h)
      simp only [holes_Simple_L3_B, brK_ite]
      rw [if_pos (by omega), listAt_nat, List.getElem?_eq_getElem h, bindK_some, pattern_Meet_val base _ hb hm, bindK_some]
      unfold metS
      cases hmm : meetP base hs[i] with
      | none =>
        simp only [meetR, brK_false]
        rw [wrap_succ (by omega)]
      | some m =>
        have hi := meetP_is hmm
        simp only [meetR, brK_true]
        rw [pattern_Format_val m (meet_small hi hb hm), if_pos hi.err, bindK_some]
        simp only [List.length_cons, List.length_nil, Nat.zero_add]
        rw [fits_ok (by omega) (by omega) (by omega), brK_true, wrap_succ (by omega)])
    (fun a i h a' ha he => by
      cases he
      unfold metS
      split
      · simp; omega
      · omega)
    (fun rec a ha => by
      simp only [holes_Simple_L3_B, brK_ite]
      rw [if_neg (by omega)])
    hs.length 0 (List.length base.1 + List.length ([] : List ByteArray) + List.length ([] : List Pat) + List.length ([] : List Hol) + List.length hs + Int.natAbs (hs.length : Int) + Int.natAbs 0 + 1000) [] (by omega) (by omega) (by simp)
  rw [show ((0 : Nat) : Int) = 0 from rfl, List.drop_zero, metS_fold, List.nil_append] at loop1
  rw [loop1, bindK_some, sumK_inl]
  have herr : ∀ m ∈ metL base hs, patErr m = 0 := fun _ => metL_err
  have hsm : ∀ a ∈ holL (metL base hs), SmallP a.2 := fun a ha => by
    obtain ⟨m, hm, rfl⟩ := List.mem_map.1 ha
    exact metL_small hb hh hm
  have hlen : (holL (metL base hs)).length ≤ hs.length := by unfold holL; rw [List.length_map]; exact metL_length base hs
  have hsort : sortF (holL (metL base hs)) = some ((holL (metL base hs)).mergeSort leH) := by
    unfold sortF
    rw [if_pos ⟨by omega, fun a ha b hb e => (holL_ok herr).eq ha hb e⟩]
  simp only
  rw [hsort, bindK_some]
  have e1 : List.take (holL (metL base hs)).length ((holL (metL base hs)).mergeSort leH) ++ List.drop ((holL (metL base hs)).mergeSort leH).length (holL (metL base hs)) = (holL (metL base hs)).mergeSort leH := by
    rw [List.take_of_length_le (Nat.le_of_eq (List.length_mergeSort _)), List.drop_of_length_le (Nat.le_of_eq (List.length_mergeSort _).symm), List.append_nil]
  rw [e1]
  unfold compF
  rw [bindK_some, holes_Copied_val base hb, bindK_some]
  obtain ⟨u, hu⟩ : ∃ u, u = compL ((holL (metL base hs)).mergeSort leH) := ⟨_, rfl⟩
  have husm : ∀ a ∈ u, SmallP a.2 := fun a ha => hsm a ((uniq_pairs_mem herr).1 (by rw [← hu]; exact ha))
  have hul : u.length ≤ hs.length := by
    have nd : (u.map Prod.snd).Nodup := by
      have := uniqL_sorted herr
      unfold uniqL at this
      rw [← hu] at this
      exact this.imp fun {a b} hab e => by subst e; exact ltP_irrefl _ hab
    have := nodup_length nd (m := metL base hs) fun x hx => (uniqL_mem herr).1 (by unfold uniqL; rw [← hu]; exact hx)
    rw [List.length_map] at this
    exact Nat.le_trans this (metL_length base hs)
  rw [← hu]
  unfold holes_Simple_L14_f
  have loop2 := range_ind (F := holes_Simple_L14) (B := holes_Simple_L14_B) (fun _ _ => rfl) u (fun (a : List Pat) i => ((([] : List ByteArray), false, ([] : List Pat)), u, (base.1, base.2, a), u, (u.length : Int), (i : Int))) (fun a h => .inl (keepS u a h)) (fun a => .inl ((([] : List ByteArray), false, ([] : List Pat)), (base.1, base.2, a))) (fun i a => a.length ≤ i)
    (fun rec a i h ha => by
      have hm := husm _ (List.getElem_mem h)
      simp only [holes_Simple_L14_B, brK_ite]
      rw [if_pos (by omega), listAt_nat, List.getElem?_eq_getElem h, bindK_some, ContainsFunc_Simple_val u _ (by omega) husm hm, bindK_some]
      unfold keepS
      cases (u.any fun y => decide (u[i].1 ≠ y.1) && withinP u[i].2 y.2) with
      | true =>
        simp only [Bool.not_true, brK_false, if_true]
        rw [wrap_succ (by omega)]
      | false =>
        simp only [Bool.not_false, brK_true, Bool.false_eq_true, if_false, List.length_cons, List.length_nil, Nat.zero_add]
        rw [fits_ok (by omega) (by omega) (by omega), brK_true, wrap_succ (by omega)])
    (fun a i h a' ha he => by
      cases he
      unfold keepS
      split
      · omega
      · simp; omega)
    (fun rec a ha => by
      simp only [holes_Simple_L14_B, brK_ite]
      rw [if_neg (by omega)])
    u.length 0 (List.length ([] : List ByteArray) + List.length ([] : List Pat) + List.length u + List.length base.1 + List.length ([] : List Pat) + List.length u + Int.natAbs (u.length : Int) + Int.natAbs 0 + 1000) [] (by omega) (by omega) (by simp)
  rw [show ((0 : Nat) : Int) = 0 from rfl, List.drop_zero, keepS_fold, List.nil_append] at loop2
  rw [loop2, bindK_some, sumK_inl]
  simp only
  rw [hu, kept_eq _ herr]
  rfl

/-! ### The reference's way -/
def metSR (base : Pat) (a : List Pat) (h : Pat) : List Pat := match meetP base h with | some m => a ++ [m] | none => a
theorem metSR_fold (base : Pat) {O : Type} (fin : List Pat → O) : ∀ (hs : List Pat) (a : List Pat), foldE (fun a h => (.inl (metSR base a h) : List Pat ⊕ O)) fin a hs = fin (a ++ metL base hs)
  | [], a => by simp [foldE, metL]
  | h :: hs, a => by
    rw [foldE]
    simp only
    rw [metSR_fold base fin hs]
    congr 1
    unfold metSR metL
    rw [List.filterMap_cons]
    cases meetP base h <;> simp

theorem ref05_Simplify_L13_loop (base : Pat) (z : List ByteArray × Bool × List Pat) (n i : Int) : ∀ (k fuel : Nat) (l : List Pat), k < l.length ∨ k = 0 → l.length ≤ big → (∀ x ∈ l, SmallP x ∧ patErr x = 0) → k < fuel →
    ref05_Simplify_L13 fuel (base, z, l, (k : Int), n, i) = some (.inl (base, z, insR k l, n, i))
  | 0, fuel + 1, l, _, hl, hx, _ => by
    simp only [ref05_Simplify_L13, ref05_Simplify_L13_B, brK_ite]
    rw [if_neg (by omega)]
    rfl
  | k + 1, fuel + 1, l, hk, hl, hx, hf => by
    have hbig : big = 1048576 := rfl
    have hlt : k + 1 < l.length := by omega
    have hlt0 : k < l.length := by omega
    obtain ⟨s1, e1⟩ := hx _ (List.getElem_mem hlt)
    obtain ⟨s0, e0⟩ := hx _ (List.getElem_mem hlt0)
    have hw : IntKind.wrap .i64 (((k + 1 : Nat) : Int) - 1) = (k : Int) := by rw [wrap_id (by omega) (by omega)]; omega
    have g1 : l[k + 1]? = some l[k + 1] := List.getElem?_eq_getElem hlt
    have g0 : l[k]? = some l[k] := List.getElem?_eq_getElem hlt0
    simp only [ref05_Simplify_L13, ref05_Simplify_L13_B, brK_ite]
    rw [if_pos (by omega)]
    simp only [hw, listAt_nat, g1, g0, bindK_some, ref03_Text_val _ s1 e1, ref03_Text_val _ s0 e0]
    rw [toList_bts, toList_bts, less_ltB]
    have e2 : Int.toNat ((k + 1 : Nat) : Int) = k + 1 := by omega
    have e3 : Int.toNat (k : Int) = k := by omega
    rw [e2, e3]
    have g2 : (l.set (k + 1) l[k])[k]? = some l[k] := by rw [List.getElem?_set_ne (by omega)]; exact g0
    rw [g2]
    simp only [bindK_some]
    unfold insR
    rw [g1, g0]
    have hlt' : ltB (bts (textP l[k + 1])) (bts (textP l[k])) = ltT l[k + 1] l[k] := rfl
    rw [hlt']
    by_cases hc : ltT l[k + 1] l[k] = true
    case neg =>
      have hc' : ltT l[k + 1] l[k] = false := by simpa using hc
      simp only [hc', brK_false, Bool.false_eq_true, if_false]
    case pos =>
      simp only [hc, brK_true, if_true]
      refine ref05_Simplify_L13_loop base z n i k fuel _ (.inl (by simp; omega)) (by simpa using hl) (fun x hx' => ?_) (by omega)
      rcases List.mem_or_eq_of_mem_set hx' with h | rfl
      · rcases List.mem_or_eq_of_mem_set h with h | rfl
        · exact hx x h
        · exact ⟨s0, e0⟩
      · exact ⟨s1, e1⟩
theorem ref05_Simplify_L10_loop (base : Pat) (z : List ByteArray × Bool × List Pat) (n : Nat) (hn : n ≤ big) : ∀ (k i fuel : Nat) (l : List Pat), l.length = n → i + k = n → (∀ x ∈ l, SmallP x ∧ patErr x = 0) → k < fuel →
    ref05_Simplify_L10 fuel (base, z, l, (n : Int), (i : Int)) = some (.inl (base, z, insAll n k l))
  | 0, i, fuel + 1, l, hl, h, hx, _ => by
    simp only [ref05_Simplify_L10, ref05_Simplify_L10_B, brK_ite]
    rw [if_neg (by omega)]
    rfl
  | k + 1, i, fuel + 1, l, hl, h, hx, hf => by
    have hbig : big = 1048576 := rfl
    simp only [ref05_Simplify_L10, ref05_Simplify_L10_B, brK_ite]
    rw [if_pos (by omega)]
    unfold ref05_Simplify_L13_f
    rw [ref05_Simplify_L13_loop base z (n : Int) (i : Int) i _ l (.inl (by omega)) (by omega) hx (by simp only [Int.natAbs_natCast]; omega), bindK_some, sumK_inl]
    simp only
    rw [wrap_succ (by omega), ref05_Simplify_L10_loop base z n hn k (i + 1) fuel (insR i l) (by rw [insR_length]; exact hl) (by omega) (insR_mem i hx) (by omega)]
    rw [insAll, show n - (k + 1) = i by omega]

theorem ref05_Simplify_L23_loop (z g : List ByteArray × Bool × List Pat) (l s : List Pat) (h : Pat) (i : Nat) (n x : Int) (hs : s.length ≤ big) (hx : ∀ x ∈ s, SmallP x) (hh : SmallP h) : ∀ (k j fuel : Nat) (b : Bool), j + k = s.length → k < fuel →
    ref05_Simplify_L23 fuel (z, s, g, (i : Int), h, b, l, n, x, s, (s.length : Int), (j : Int)) = some (.inl (z, s, g, h, (b && clearR h i j (s.drop j)), l, n, x))
  | 0, j, fuel + 1, b, hk, _ => by
    have hd : s.drop j = [] := List.drop_eq_nil_of_le (by omega)
    simp only [ref05_Simplify_L23, ref05_Simplify_L23_B, brK_ite]
    rw [if_neg (by omega), hd]
    simp [clearR]
  | k + 1, j, fuel + 1, b, hk, hf => by
    have hbig : big = 1048576 := rfl
    have hj : j < s.length := by omega
    have sj := hx _ (List.getElem_mem hj)
    simp only [ref05_Simplify_L23, ref05_Simplify_L23_B, brK_ite]
    rw [if_pos (by omega), listAt_nat, List.getElem?_eq_getElem hj, List.drop_eq_getElem_cons hj]
    simp only [bindK_some, clearR]
    rw [ref03_Within_val _ _ hh sj, bindK_some, ref03_Same_val _ _ hh.len, bindK_some, wrap_succ (by omega)]
    rw [ref05_Simplify_L23_loop z g l s h i n x hs hx hh k (j + 1) fuel _ (by omega) (by omega), ref05_Simplify_L23_loop z g l s h i n x hs hx hh k (j + 1) fuel _ (by omega) (by omega)]
    have c1 : ((i : Int) ≠ (j : Int)) ↔ i ≠ j := by omega
    have c2 : ((j : Int) < (i : Int)) ↔ j < i := by omega
    simp only [c1, c2]
    by_cases h1 : i = j
    · rw [if_neg (by simp [h1])]
      simp [h1]
    · rw [if_pos h1]
      cases hw : withinP h s[j] with
      | false => simp
      | true =>
        rw [brK_true]
        by_cases h2 : j < i
        · rw [if_pos h2]; simp [h1, h2]
        · rw [if_neg h2]
          by_cases h3 : h = s[j]
          · simp [h1, h2, h3]
          · simp [h1, h2, h3]

theorem ref05_Simplify_L19_loop (z : List ByteArray × Bool × List Pat) (base : Pat) (s : List Pat) (hs : s.length ≤ big) (hx : ∀ x ∈ s, SmallP x) : ∀ (k i fuel : Nat) (out : List Pat), i + k = s.length → out.length ≤ i → k < fuel →
    ref05_Simplify_L19 fuel (z, s, (base.1, base.2, out), s, (s.length : Int), (i : Int)) = some (.inl (z, (base.1, base.2, out ++ keptR s i (s.drop i))))
  | 0, i, fuel + 1, out, hk, _, _ => by
    have hd : s.drop i = [] := List.drop_eq_nil_of_le (by omega)
    simp only [ref05_Simplify_L19, ref05_Simplify_L19_B, brK_ite]
    rw [if_neg (by omega), hd]
    simp [keptR]
  | k + 1, i, fuel + 1, out, hk, ho, hf => by
    have hbig : big = 1048576 := rfl
    have hi : i < s.length := by omega
    have si := hx _ (List.getElem_mem hi)
    simp only [ref05_Simplify_L19, ref05_Simplify_L19_B, brK_ite]
    rw [if_pos (by omega), listAt_nat, List.getElem?_eq_getElem hi, List.drop_eq_getElem_cons hi]
    simp only [bindK_some, keptR]
    unfold ref05_Simplify_L23_f
    have := ref05_Simplify_L23_loop z (base.1, base.2, out) s s s[i] i (s.length : Int) (i : Int) hs hx si s.length 0 (List.length z.1 + List.length z.2.2 + List.length s + List.length base.1 + List.length out + Int.natAbs (i : Int) + List.length s[i].1 + List.length s + Int.natAbs (s.length : Int) + Int.natAbs (i : Int) + List.length s + Int.natAbs (s.length : Int) + Int.natAbs 0 + 1000) true (by omega) (by omega)
    rw [show ((0 : Nat) : Int) = 0 from rfl, List.drop_zero, Bool.true_and] at this
    rw [this, bindK_some, sumK_inl]
    simp only [List.length_cons, List.length_nil, Nat.zero_add]
    rw [fits_ok (by omega) (by omega) (by omega), brK_true, wrap_succ (by omega)]
    cases clearR s[i] i 0 s with
    | true =>
      rw [brK_true, if_pos rfl, ref05_Simplify_L19_loop z base s hs hx k (i + 1) fuel _ (by omega) (by simp; omega) (by omega)]
      simp
    | false =>
      rw [brK_false, if_neg (by simp), ref05_Simplify_L19_loop z base s hs hx k (i + 1) fuel _ (by omega) (by omega) (by omega)]

theorem ref05_Simplify_val (base : Pat) (hs : List Pat) (hb : SmallP base) (hh : ∀ h ∈ hs, SmallP h) (hl : hs.length ≤ big) : ref05_Simplify (base, hs) = some (simpleG base hs) := by
  have hbig : big = 1048576 := rfl
  unfold ref05_Simplify ref05_Simplify_L3_f
  simp only
  have loop1 := range_ind (F := ref05_Simplify_L3) (B := ref05_Simplify_L3_B) (fun _ _ => rfl) hs (fun (a : List Pat) i => (base, (([] : List ByteArray), false, ([] : List Pat)), a, hs, (hs.length : Int), (i : Int))) (fun a h => .inl (metSR base a h)) (fun a => .inl (base, (([] : List ByteArray), false, ([] : List Pat)), a)) (fun i a => a.length ≤ i)
    (fun rec a i h ha => by
      have hm := hh _ (List.getElem_mem h)
      simp only [ref05_Simplify_L3_B, brK_ite]
      rw [if_pos (by omega), listAt_nat, List.getElem?_eq_getElem h, bindK_some, ref03_Meet_val base _ hb hm, bindK_some]
      unfold metSR
      cases hmm : meetP base hs[i] with
      | none =>
        simp only [meetR, brK_false]
        rw [wrap_succ (by omega)]
      | some m =>
        simp only [meetR, brK_true, List.length_cons, List.length_nil, Nat.zero_add]
        rw [fits_ok (by omega) (by omega) (by omega), brK_true, wrap_succ (by omega)])
    (fun a i h a' ha he => by
      cases he
      unfold metSR
      split
      · simp; omega
      · omega)
    (fun rec a ha => by
      simp only [ref05_Simplify_L3_B, brK_ite]
      rw [if_neg (by omega)])
    hs.length 0 (List.length base.1 + List.length ([] : List ByteArray) + List.length ([] : List Pat) + List.length ([] : List Pat) + List.length hs + Int.natAbs (hs.length : Int) + Int.natAbs 0 + 1000) [] (by omega) (by omega) (by simp)
  rw [show ((0 : Nat) : Int) = 0 from rfl, List.drop_zero, metSR_fold, List.nil_append] at loop1
  rw [loop1, bindK_some, sumK_inl]
  have herr : ∀ m ∈ metL base hs, patErr m = 0 := fun _ => metL_err
  have hsm : ∀ m ∈ metL base hs, SmallP m := fun _ hm => metL_small hb hh hm
  have hml := metL_length base hs
  unfold ref05_Simplify_L10_f
  simp only
  have loop2 := ref05_Simplify_L10_loop base (([] : List ByteArray), false, ([] : List Pat)) (metL base hs).length (by omega) (metL base hs).length 0 (List.length base.1 + List.length ([] : List ByteArray) + List.length ([] : List Pat) + List.length (metL base hs) + Int.natAbs ((metL base hs).length : Int) + Int.natAbs 0 + 1000) (metL base hs) rfl (by omega) (fun x hx => ⟨hsm x hx, herr x hx⟩) (by omega)
  rw [show ((0 : Nat) : Int) = 0 from rfl] at loop2
  rw [loop2, bindK_some, sumK_inl]
  obtain ⟨hp, hsd⟩ := insAll_all herr
  obtain ⟨s, hs'⟩ : ∃ s, s = insAll (metL base hs).length (metL base hs).length (metL base hs) := ⟨_, rfl⟩
  rw [← hs'] at hp hsd ⊢
  have hsl : s.length ≤ big := by rw [hp.length_eq]; omega
  unfold ref05_Simplify_L19_f
  simp only
  have loop3 := ref05_Simplify_L19_loop (([] : List ByteArray), false, ([] : List Pat)) base s hsl (fun x hx => hsm x (hp.mem_iff.1 hx)) s.length 0 (List.length ([] : List ByteArray) + List.length ([] : List Pat) + List.length s + List.length base.1 + List.length ([] : List Pat) + List.length s + Int.natAbs (s.length : Int) + Int.natAbs 0 + 1000) [] (by omega) (by simp) (by omega)
  rw [show ((0 : Nat) : Int) = 0 from rfl, List.drop_zero, List.nil_append] at loop3
  rw [loop3, bindK_some, sumK_inl]
  simp only
  rw [keptR_eq hp hsd]
  rfl
end Go.Proofs.Ytcmfkmhmehhkpaa

set_option linter.unusedSimpArgs false
set_option linter.unusedVariables false
set_option maxRecDepth 100000
namespace Go.Proofs.Ytcmfkmhmehhkpaa
open Go Go.Ai
/-! ### The functions on regions -/
theorem smallG_app {a : Reg} {hs : List Pat} (sa : SmallG a) (h : ∀ x ∈ hs, SmallP x) : ∀ x ∈ a.2 ++ hs, SmallP x := by
  intro x hx
  rcases List.mem_append.1 hx with hx | hx
  · exact sa.hole x hx
  · exact h x hx
theorem ref05_Same_val (g h : Reg) (sg : SmallG g) : ref05_Same (g, h) = some (decide (g = h)) := by
  have hbig : big = 1048576 := rfl
  have hl := sg.len
  unfold ref05_Same
  simp only
  rw [ref03_Same_val g.1 h.1 sg.base.len, bindK_some]
  by_cases e1 : g.1 = h.1
  case neg =>
    rw [decide_eq_false e1, Bool.not_false, brK_true, decide_eq_false (fun e => e1 (by rw [e]))]
  rw [decide_eq_true e1, Bool.not_true, brK_false, brK_ite]
  by_cases hlen : g.2.length = h.2.length
  case neg =>
    rw [if_pos (by omega), decide_eq_false (fun e => hlen (by rw [e]))]
  rw [if_neg (by omega)]
  unfold ref05_Same_L4_f
  have loop := range_ind (F := ref05_Same_L4) (B := ref05_Same_L4_B) (fun _ _ => rfl) (g.2.zip h.2) (fun (_ : Unit) i => ((h.1.1, h.1.2, h.2), g.2, (g.2.length : Int), (i : Int))) (fun _ x => if x.1 = x.2 then .inl () else .inr (.inr (.inl false))) (fun _ => .inl ()) (fun _ _ => True)
    (fun rec a i hi _ => by
      have hz : (g.2.zip h.2).length = g.2.length := by simp; omega
      rw [hz] at hi
      simp only [ref05_Same_L4_B, brK_ite]
      rw [if_pos (by omega), listAt_nat, List.getElem?_eq_getElem hi, bindK_some, listAt_nat, List.getElem?_eq_getElem (by omega), bindK_some, ref03_Same_val _ _ (sg.hole _ (List.getElem_mem hi)).len, bindK_some, wrap_succ (by omega), List.getElem_zip]
      by_cases e : g.2[i] = h.2[i]
      · rw [decide_eq_true e, if_pos e]; rfl
      · rw [decide_eq_false e, if_neg e]; rfl)
    (fun _ _ _ _ _ _ => trivial)
    (fun rec a _ => by
      have hz : (g.2.zip h.2).length = g.2.length := by simp; omega
      simp only [ref05_Same_L4_B, brK_ite]
      rw [hz, if_neg (by omega)])
    (g.2.zip h.2).length 0 (List.length h.1.1 + List.length h.2 + List.length g.2 + Int.natAbs (g.2.length : Int) + Int.natAbs 0 + 1000) () (by omega) (by simp; omega) trivial
  rw [show ((0 : Nat) : Int) = 0 from rfl, List.drop_zero] at loop
  rw [loop]
  have key : ∀ (l m : List Pat), l.length = m.length → foldE (fun (_ : Unit) (x : Pat × Pat) => if x.1 = x.2 then (.inl () : Unit ⊕ (Unit ⊕ (Bool ⊕ Empty))) else .inr (.inr (.inl false))) (fun _ => .inl ()) () (l.zip m) = if l = m then .inl () else .inr (.inl false) := by
    intro l
    induction l with
    | nil => intro m hm; have : m = [] := List.eq_nil_of_length_eq_zero hm.symm; subst this; rfl
    | cons a l ih =>
      intro m hm
      cases m with
      | nil => cases hm
      | cons b m =>
        rw [List.zip_cons_cons, foldE]
        by_cases e : a = b
        · rw [if_pos e]
          simp only
          rw [ih m (by simpa using hm)]
          by_cases e2 : l = m
          · rw [if_pos e2, if_pos (by rw [e, e2])]
          · rw [if_neg e2, if_neg (by simp [e, e2])]
        · rw [if_neg e, if_neg (by simp [e])]
  rw [key g.2 h.2 hlen]
  by_cases e : g.2 = h.2
  · rw [if_pos e, bindK_some, sumK_inl, decide_eq_true (Prod.ext e1 e)]
  · rw [if_neg e, bindK_some, sumK_inr, sumK_inl, decide_eq_false (fun h => e (by rw [h]))]

theorem zeroG_small : SmallG zeroG := ⟨⟨by decide, fun s h => (by cases h)⟩, fun h hh => (by cases hh), by decide⟩

theorem region_Simplify_val (g : Reg) (sg : SmallG g) : region_Simplify g = some (if regErr g = 0 then (simpleG g.1 g.2, 0) else (zeroG, regErr g)) := by
  unfold region_Simplify
  rw [region_Check_val g sg, bindK_some, brK_ite]
  by_cases h0 : regErr g = 0
  · rw [if_neg (fun h => h h0), if_pos h0]
    have := holes_Simple_val g.1 g.2 sg.base sg.hole sg.len
    have e : (g.1, g.2) = g := rfl
    rw [e] at this
    rw [this]
    rfl
  · rw [if_pos h0, if_neg h0]
    rfl

/-- The library's joining of two rows. -/
theorem slices_Concat_val (l m : List Pat) (hl : l.length ≤ big) (hm : m.length ≤ big) : slices_Concat [l, m] = some (l ++ m) := by
  have hbig : big = 1048576 := rfl
  have w1 : IntKind.wrap .i64 ((0 : Int) + (l.length : Int)) = (l.length : Int) := by rw [wrap_id (by omega) (by omega)]; omega
  have w2 : IntKind.wrap .i64 ((l.length : Int) + (m.length : Int)) = ((l.length + m.length : Nat) : Int) := by rw [wrap_id (by omega) (by omega)]; omega
  have s1 : IntKind.wrap .i64 ((0 : Int) + 1) = 1 := by decide
  have s2 : IntKind.wrap .i64 ((1 : Int) + 1) = 2 := by decide
  have g0 : listAt [l, m] (0 : Int) = some l := rfl
  have g1 : listAt [l, m] (1 : Int) = some m := rfl
  have loop1 : slices_Concat_L3_f ([l, m], 0, [l, m], (2 : Int), 0) = some (.inl ([l, m], ((l.length + m.length : Nat) : Int))) := by
    unfold slices_Concat_L3_f
    obtain ⟨f, hf⟩ : ∃ f, List.length [l, m] + Int.natAbs 0 + List.length [l, m] + Int.natAbs 2 + Int.natAbs 0 + 1000 = f + 3 := ⟨1003, rfl⟩
    rw [hf]
    simp only [slices_Concat_L3, slices_Concat_L3_B, brK_ite]
    rw [if_pos (by omega), g0]
    simp only [bindK_some, w1]
    rw [if_neg (by omega), s1, if_pos (by omega), g1]
    simp only [bindK_some, w2]
    rw [if_neg (by omega), s2, if_neg (by omega)]
  have hfit1 : fits 0 l.length 32 = true := fits_ok (by omega) (by omega) (by omega)
  have hfit2 : fits l.length m.length 32 = true := fits_ok (by omega) (by omega) (by omega)
  have loop2 : slices_Concat_L11_f ([], [l, m], (2 : Int), 0) = some (.inl (l ++ m)) := by
    unfold slices_Concat_L11_f
    obtain ⟨f, hf⟩ : ∃ f, List.length ([] : List Pat) + List.length [l, m] + Int.natAbs 2 + Int.natAbs 0 + 1000 = f + 3 := ⟨1001, rfl⟩
    rw [hf]
    simp only [slices_Concat_L11, slices_Concat_L11_B, brK_ite]
    rw [if_pos (by omega), g0]
    simp only [bindK_some, List.length_nil, hfit1, brK_true, List.nil_append]
    rw [s1, if_pos (by omega), g1]
    simp only [bindK_some, hfit2, brK_true]
    rw [s2, if_neg (by omega)]
  unfold slices_Concat
  have e : (([l, m] : List (List Pat)).length : Int) = 2 := rfl
  rw [e, loop1, bindK_some, sumK_inl]
  unfold slices_Grow growF
  simp only
  rw [if_pos ⟨by omega, by omega⟩, bindK_some, e, loop2, bindK_some, sumK_inl]

theorem region_Meet_val (a b : Reg) (sa : SmallG a) (sb : SmallG b) : region_Meet (a, b) = some (meetG a b) := by
  have hbig : big = 1048576 := rfl
  unfold region_Meet meetG
  simp only
  rw [region_Check_val a sa, region_Check_val b sb]
  simp only [bindK_some, brK_ite]
  by_cases ea : regErr a = 0
  case neg => rw [if_pos ea, if_pos ea]; rfl
  by_cases eb : regErr b = 0
  case neg => rw [if_neg (fun h => h ea), if_pos eb, if_neg (fun h => h ea), if_pos eb]; rfl
  rw [if_neg (fun h => h ea), if_neg (fun h => h eb), if_neg (fun h => h ea), if_neg (fun h => h eb), pattern_Meet_val a.1 b.1 sa.base sb.base, bindK_some]
  have la := (regErr_zero.1 ea).2.2
  have lb := (regErr_zero.1 eb).2.2
  cases hm : meetP a.1 b.1 with
  | none => rfl
  | some m =>
    have hi := meetP_is hm
    have sm := meet_small hi sa.base sb.base
    have hsm := smallG_app sa sb.hole
    simp only [meetR, Bool.not_true, brK_false]
    rw [slices_Concat_val a.2 b.2 (by omega) (by omega), bindK_some, holes_Simple_val m _ sm hsm (by rw [List.length_append]; omega), bindK_some]
    by_cases h64 : 64 < (simpleG m (a.2 ++ b.2)).2.length
    · rw [if_pos (by omega), if_pos h64]; rfl
    · rw [if_neg (by omega), if_neg h64, holes_Length_val _ (simpleG_small sm hsm (by rw [List.length_append]; omega)) (simpleG_ok _ hi.err), bindK_some]
      unfold nonE
      cases lengthG (simpleG m (a.2 ++ b.2)) <;> rfl

theorem ref05_Meet_val (a b : Reg) (sa : SmallG a) (sb : SmallG b) : ref05_Meet (a, b) = some (meetG a b) := by
  have hbig : big = 1048576 := rfl
  unfold ref05_Meet meetG
  simp only
  rw [ref05_Check_val a sa, ref05_Check_val b sb]
  simp only [bindK_some, brK_ite]
  by_cases ea : regErr a = 0
  case neg => rw [if_pos ea, if_pos ea]; rfl
  by_cases eb : regErr b = 0
  case neg => rw [if_neg (fun h => h ea), if_pos eb, if_neg (fun h => h ea), if_pos eb]; rfl
  rw [if_neg (fun h => h ea), if_neg (fun h => h eb), if_neg (fun h => h ea), if_neg (fun h => h eb), ref03_Meet_val a.1 b.1 sa.base sb.base, bindK_some]
  have la := (regErr_zero.1 ea).2.2
  have lb := (regErr_zero.1 eb).2.2
  cases hm : meetP a.1 b.1 with
  | none => rfl
  | some m =>
    have hi := meetP_is hm
    have sm := meet_small hi sa.base sb.base
    have hsm := smallG_app sa sb.hole
    have ho := simpleG_ok (base := m) (a.2 ++ b.2) hi.err
    simp only [meetR, Bool.not_true, brK_false]
    rw [fits_ok (by omega) (by omega) (by omega), brK_true, fits_ok (by omega) (by omega) (by omega), brK_true, ref05_Simplify_val m _ sm hsm (by rw [List.length_append]; omega), bindK_some]
    by_cases h64 : 64 < (simpleG m (a.2 ++ b.2)).2.length
    · rw [if_pos (by omega), if_pos h64]; rfl
    · rw [if_neg (by omega), if_neg h64, ref05_Length_val _ (simpleG_small sm hsm (by rw [List.length_append]; omega)) ho, bindK_some]
      unfold nonE
      cases hlen : lengthG (simpleG m (a.2 ++ b.2)) with
      | none => rfl
      | some n =>
        have := lengthG_pos ho hlen
        simp only
        rw [if_neg (by omega)]
        rfl

theorem meetG_small {a b : Reg} (sa : SmallG a) (sb : SmallG b) : SmallG (meetG a b).1 := by
  have hbig : big = 1048576 := rfl
  cases hs : (meetG a b).2.1 with
  | true =>
    obtain ⟨ea, eb, _, m, h1, h2, _⟩ := meetG_some hs
    rw [h2]
    have la := (regErr_zero.1 ea).2.2
    have lb := (regErr_zero.1 eb).2.2
    exact simpleG_small (meet_small (meetP_is h1) sa.base sb.base) (smallG_app sa sb.hole) (by rw [List.length_append]; omega)
  | false =>
    have : (meetG a b).1 = zeroG := by
      unfold meetG at hs ⊢
      by_cases h1 : regErr a ≠ 0
      · rw [if_pos h1]
      by_cases h2 : regErr b ≠ 0
      · rw [if_neg h1, if_pos h2]
      rw [if_neg h1, if_neg h2] at hs ⊢
      cases hm : meetP a.1 b.1 with
      | none => rfl
      | some m =>
        rw [hm] at hs
        simp only at hs ⊢
        by_cases h3 : 64 < (simpleG m (a.2 ++ b.2)).2.length
        · rw [if_pos h3]
        · rw [if_neg h3] at hs ⊢
          by_cases h4 : nonE (simpleG m (a.2 ++ b.2)) = true
          · rw [if_pos h4] at hs; cases hs
          · rw [if_neg h4]
    rw [this]
    exact zeroG_small

theorem part_small {a : Reg} {s : List Pat} {h m : Pat} (sa : SmallG a) (hs : ∀ x ∈ s, SmallP x) (hh : SmallP h) (hm : meetP a.1 h = some m) (k : Nat) (la : a.2.length ≤ 64) (ls : s.length ≤ 64) : (∀ x ∈ a.2 ++ s.take k, SmallP x) ∧ (a.2 ++ s.take k).length ≤ big ∧ SmallP m ∧ SmallG (simpleG m (a.2 ++ s.take k)) := by
  have hbig : big = 1048576 := rfl
  have h1 : ∀ x ∈ a.2 ++ s.take k, SmallP x := smallG_app sa fun x hx => hs x (List.mem_of_mem_take hx)
  have h2 : (a.2 ++ s.take k).length ≤ big := by rw [List.length_append, List.length_take]; omega
  have h3 := meet_small (meetP_is hm) sa.base hh
  exact ⟨h1, h2, h3, simpleG_small h3 h1 h2⟩

theorem limF_part {out : List Reg} {m : Pat} {hs : List Pat} {l : List Reg} : limF out (simpleG m hs :: l) = if 64 < (simpleG m hs).2.length then none else limF (out ++ if nonE (simpleG m hs) = true then [simpleG m hs] else []) l := rfl

theorem region_Minus_L13_loop (a : Reg) (s : List Pat) (sa : SmallG a) (la : a.2.length ≤ 64) (ls : s.length ≤ 64) (hs : ∀ x ∈ s, SmallP x) : ∀ (n k fuel : Nat) (out : List Reg), k + n = s.length → out.length ≤ k + 1 → n < fuel →
    region_Minus_L13 fuel ((a.1.1, a.1.2, a.2), out, out, s, s, (s.length : Int), (k : Int)) = some (match limF out (partsTail a s k (s.drop k)) with | some o => .inl o | none => .inr (.inl ([], 52)))
  | 0, k, fuel + 1, out, h, _, _ => by
    have hd : s.drop k = [] := List.drop_eq_nil_of_le (by omega)
    simp only [region_Minus_L13, region_Minus_L13_B, brK_ite]
    rw [if_neg (by omega), hd]
    rfl
  | n + 1, k, fuel + 1, out, h, ho, hf => by
    have hbig : big = 1048576 := rfl
    have hk : k < s.length := by omega
    have sh := hs _ (List.getElem_mem hk)
    simp only [region_Minus_L13, region_Minus_L13_B, brK_ite]
    rw [if_pos (by omega), listAt_nat, List.getElem?_eq_getElem hk, List.drop_eq_getElem_cons hk]
    simp only [bindK_some, partsTail]
    have hM := pattern_Meet_val a.1 s[k] sa.base sh
    have e1 : (a.1.1, a.1.2) = a.1 := rfl
    rw [e1, hM, bindK_some]
    unfold Go.Ai.partAt
    cases hm : meetP a.1 s[k] with
    | none =>
      simp only [meetR, brK_false, List.nil_append]
      rw [wrap_succ (by omega), region_Minus_L13_loop a s sa la ls hs n (k + 1) fuel out (by omega) (by omega) (by omega)]
    | some m =>
      obtain ⟨p1, p2, p3, p4⟩ := part_small sa hs sh hm k la ls
      have hi := meetP_is hm
      have ho' := simpleG_ok (base := m) (a.2 ++ s.take k) hi.err
      have e0 : Int.toNat 0 = 0 := rfl
      simp only [meetR, brK_true]
      rw [if_pos ⟨by omega, by omega, by omega⟩, Int.toNat_natCast, e0, List.drop_zero, slices_Concat_val _ _ (by omega) (by rw [List.length_take]; omega), bindK_some, holes_Simple_val m _ p3 p1 p2, bindK_some, holes_Length_val _ p4 ho', bindK_some]
      rw [List.singleton_append, limF_part]
      have hnon : nonE (simpleG m (a.2 ++ s.take k)) = (lengthG (simpleG m (a.2 ++ s.take k))).isSome := rfl
      rw [hnon]
      cases hlen : lengthG (simpleG m (a.2 ++ s.take k)) with
      | none =>
        simp only [Option.isSome_none, brK_false, Bool.false_eq_true, if_false, List.append_nil]
        by_cases h64 : 64 < (simpleG m (a.2 ++ s.take k)).2.length
        · rw [decide_eq_false (by omega), Bool.not_false, brK_true, if_pos h64]
        · rw [decide_eq_true (by omega), Bool.not_true, brK_false, if_neg h64, wrap_succ (by omega), region_Minus_L13_loop a s sa la ls hs n (k + 1) fuel out (by omega) (by omega) (by omega)]
      | some x =>
        simp only [Option.isSome_some, brK_true, if_true, List.length_cons, List.length_nil, Nat.zero_add]
        rw [fits_ok (by omega) (by omega) (by omega), brK_true]
        by_cases h64 : 64 < (simpleG m (a.2 ++ s.take k)).2.length
        · rw [decide_eq_false (by omega), Bool.not_false, brK_true, if_pos h64]
        · rw [decide_eq_true (by omega), Bool.not_true, brK_false, if_neg h64, wrap_succ (by omega), region_Minus_L13_loop a s sa la ls hs n (k + 1) fuel _ (by omega) (by simp; omega) (by omega)]

theorem region_Minus_val (a b : Reg) (sa : SmallG a) (sb : SmallG b) : region_Minus (a, b) = some (minusG a b) := by
  have hbig : big = 1048576 := rfl
  unfold region_Minus minusG
  simp only
  rw [region_Check_val a sa, region_Check_val b sb]
  simp only [bindK_some, brK_ite]
  by_cases ea : regErr a = 0
  case neg => rw [if_pos ea, if_pos ea]
  by_cases eb : regErr b = 0
  case neg => rw [if_neg (fun h => h ea), if_pos eb, if_neg (fun h => h ea), if_pos eb]
  rw [if_neg (fun h => h ea), if_neg (fun h => h eb), if_neg (fun h => h ea), if_neg (fun h => h eb)]
  have la := (regErr_zero.1 ea).2.2
  have lb := (regErr_zero.1 eb).2.2
  have hbs := holes_Simple_val b.1 b.2 sb.base sb.hole sb.len
  have e1 : (b.1, b.2) = b := rfl
  rw [e1] at hbs
  rw [hbs, bindK_some]
  have hs1 := simpleL_small sb.base sb.hole
  have hsl : (simpleL b.1 b.2).length ≤ 64 := Nat.le_trans (simpleL_length b.1 b.2) lb
  have hcl : slices_Clone a.2 = some a.2 := by
    unfold slices_Clone cloneF
    rw [if_pos (fits_ok (by omega) (by omega) (by omega))]
  rw [hcl, bindK_some]
  simp only [List.length_cons, List.length_nil, Nat.zero_add]
  have hsm : ∀ x ∈ a.2 ++ [b.1], SmallP x := smallG_app sa fun x hx => by have : x = b.1 := (by simpa using hx); rw [this]; exact sb.base
  have hlen2 : (a.2 ++ [b.1]).length ≤ big := by simp; omega
  have ho := simpleG_ok (base := a.1) (a.2 ++ [b.1]) (regErr_zero.1 ea).1
  rw [fits_ok (by omega) (by omega) (by omega), brK_true, holes_Simple_val a.1 _ sa.base hsm hlen2, bindK_some, holes_Length_val _ (simpleG_small sa.base hsm hlen2) ho, bindK_some]
  have hnon : nonE (simpleG a.1 (a.2 ++ [b.1])) = (lengthG (simpleG a.1 (a.2 ++ [b.1]))).isSome := rfl
  have hlim := limF_eq (partsG a b) []
  unfold partsG at hlim
  rw [limF_part, hnon, List.nil_append] at hlim
  have hloop := fun out (ho : List.length (α := Reg) out ≤ 1) => region_Minus_L13_loop a (simpleL b.1 b.2) sa la hsl hs1 (simpleL b.1 b.2).length 0
    (List.length a.1.1 + List.length a.2 + List.length out + List.length out + List.length (simpleL b.1 b.2) + List.length (simpleL b.1 b.2) + Int.natAbs ((simpleL b.1 b.2).length : Int) + Int.natAbs 0 + 1000) out (by omega) (by omega) (by omega)
  rw [show ((0 : Nat) : Int) = 0 from rfl] at hloop
  simp only [List.drop_zero] at hloop
  have fin : ∀ o : Option (List Reg), o = (if over (partsG a b) = true then none else some ((partsG a b).filter nonE)) →
      (bindK (some (match o with | some o => (.inl o : List Reg ⊕ ((List Reg × Int) ⊕ Empty)) | none => .inr (.inl ([], 52)))) fun o => sumK o (fun y => some (y, (0 : Int))) fun z => sumK z (fun y => some y) fun z => emptyK z) = some (if over (partsG a b) = true then ([], 52) else ((partsG a b).filter nonE, 0)) := by
    intro o ho
    subst ho
    by_cases hov : over (partsG a b) = true
    · rw [if_pos hov, if_pos hov]; rfl
    · rw [if_neg hov, if_neg hov]; rfl
  unfold region_Minus_L13_f
  cases hlen : lengthG (simpleG a.1 (a.2 ++ [b.1])) with
  | none =>
    rw [hlen] at hlim
    simp only [Option.isSome_none, brK_false, Bool.false_eq_true, if_false] at hlim ⊢
    by_cases h64 : 64 < (simpleG a.1 (a.2 ++ [b.1])).2.length
    · rw [if_pos h64] at hlim
      rw [decide_eq_false (by omega), Bool.not_false, brK_true]
      have := fin none hlim
      simpa using this
    · rw [if_neg h64] at hlim
      rw [decide_eq_true (by omega), Bool.not_true, brK_false]
      have hl := hloop [] (by simp)
      simp only [simpleG] at hl ⊢
      rw [hl]
      exact fin _ hlim
  | some x =>
    rw [hlen] at hlim
    simp only [Option.isSome_some, brK_true, if_true] at hlim ⊢
    rw [fits_ok (by omega) (by omega) (by omega), brK_true]
    by_cases h64 : 64 < (simpleG a.1 (a.2 ++ [b.1])).2.length
    · rw [if_pos h64] at hlim
      rw [decide_eq_false (by omega), Bool.not_false, brK_true]
      have := fin none hlim
      simpa using this
    · rw [if_neg h64] at hlim
      rw [decide_eq_true (by omega), Bool.not_true, brK_false]
      have hl := hloop [simpleG a.1 (a.2 ++ [b.1])] (by simp)
      simp only [simpleG] at hl hlim ⊢
      rw [hl]
      exact fin _ hlim

theorem ref05_Minus_L10_loop (a : Reg) (b1 : Pat) (s : List Pat) (sa : SmallG a) (la : a.2.length ≤ 64) (ls : s.length ≤ 64) (hs : ∀ x ∈ s, SmallP x) : ∀ (n k fuel : Nat) (out : List Reg), k + n = s.length → out.length ≤ k + 1 → n < fuel →
    ref05_Minus_L10 fuel ((a.1.1, a.1.2, a.2), (b1.1, b1.2, s), out, s, (s.length : Int), (k : Int)) = some (.inl (out ++ partsTail a s k (s.drop k)))
  | 0, k, fuel + 1, out, h, _, _ => by
    have hd : s.drop k = [] := List.drop_eq_nil_of_le (by omega)
    simp only [ref05_Minus_L10, ref05_Minus_L10_B, brK_ite]
    rw [if_neg (by omega), hd]
    simp [partsTail]
  | n + 1, k, fuel + 1, out, h, ho, hf => by
    have hbig : big = 1048576 := rfl
    have hk : k < s.length := by omega
    have sh := hs _ (List.getElem_mem hk)
    simp only [ref05_Minus_L10, ref05_Minus_L10_B, brK_ite]
    rw [if_pos (by omega), listAt_nat, List.getElem?_eq_getElem hk, List.drop_eq_getElem_cons hk]
    simp only [bindK_some, partsTail]
    have e1 : (a.1.1, a.1.2) = a.1 := rfl
    rw [e1, ref03_Meet_val a.1 s[k] sa.base sh, bindK_some]
    unfold Go.Ai.partAt
    cases hm : meetP a.1 s[k] with
    | none =>
      simp only [meetR, brK_false, List.nil_append]
      rw [wrap_succ (by omega), ref05_Minus_L10_loop a b1 s sa la ls hs n (k + 1) fuel out (by omega) (by omega) (by omega)]
    | some m =>
      obtain ⟨p1, p2, p3, p4⟩ := part_small sa hs sh hm k la ls
      have e0 : Int.toNat 0 = 0 := rfl
      simp only [meetR, brK_true]
      rw [fits_ok (by omega) (by omega) (by omega), brK_true, if_pos ⟨by omega, by omega, by omega⟩, Int.toNat_natCast, e0, List.drop_zero, fits_ok (by omega) (by rw [List.length_take]; omega) (by omega), brK_true, ref05_Simplify_val m _ p3 p1 p2, bindK_some]
      simp only [List.length_cons, List.length_nil, Nat.zero_add]
      rw [fits_ok (by omega) (by omega) (by omega), brK_true, wrap_succ (by omega), ref05_Minus_L10_loop a b1 s sa la ls hs n (k + 1) fuel _ (by omega) (by simp; omega) (by omega)]
      simp

theorem ref05_Minus_L18_loop (l : List Reg) (hl : l.length ≤ big) (hs : ∀ g ∈ l, SmallG g) (ho : ∀ g ∈ l, okG g) : ∀ (n k fuel : Nat) (out : List Reg), k + n = l.length → out.length ≤ k → n < fuel →
    ref05_Minus_L18 fuel (out, l, (l.length : Int), (k : Int)) = some (match limF out (l.drop k) with | some o => .inl o | none => .inr (.inl ([], 52)))
  | 0, k, fuel + 1, out, h, _, _ => by
    have hd : l.drop k = [] := List.drop_eq_nil_of_le (by omega)
    simp only [ref05_Minus_L18, ref05_Minus_L18_B, brK_ite]
    rw [if_neg (by omega), hd]
    rfl
  | n + 1, k, fuel + 1, out, h, hout, hf => by
    have hbig : big = 1048576 := rfl
    have hk : k < l.length := by omega
    have hm := List.getElem_mem hk
    simp only [ref05_Minus_L18, ref05_Minus_L18_B, brK_ite]
    rw [if_pos (by omega), listAt_nat, List.getElem?_eq_getElem hk, List.drop_eq_getElem_cons hk]
    simp only [bindK_some, limF]
    by_cases h64 : 64 < l[k].2.length
    · rw [if_pos (by omega), if_pos h64]
    · rw [if_neg (by omega), if_neg h64, ref05_Length_val _ (hs _ hm) (ho _ hm), bindK_some]
      have hnon : nonE l[k] = (lengthG l[k]).isSome := rfl
      rw [hnon]
      cases hlen : lengthG l[k] with
      | none =>
        simp only [Option.isSome_none, Bool.false_eq_true, if_false, List.append_nil]
        rw [if_neg (by omega), wrap_succ (by omega), ref05_Minus_L18_loop l hl hs ho n (k + 1) fuel out (by omega) (by omega) (by omega)]
      | some x =>
        have := lengthG_pos (ho _ hm) hlen
        simp only [Option.isSome_some, if_true, List.length_cons, List.length_nil, Nat.zero_add]
        rw [if_pos (by omega), fits_ok (by omega) (by omega) (by omega), brK_true, wrap_succ (by omega), ref05_Minus_L18_loop l hl hs ho n (k + 1) fuel _ (by omega) (by simp; omega) (by omega)]

theorem partsTail_length (a : Reg) (s : List Pat) : ∀ (l : List Pat) (k : Nat), (partsTail a s k l).length ≤ l.length
  | [], _ => Nat.le_refl _
  | h :: l, k => by
    rw [partsTail, List.length_append, List.length_cons]
    have := partsTail_length a s l (k + 1)
    have : (Go.Ai.partAt a s k h).length ≤ 1 := by unfold Go.Ai.partAt; split <;> simp
    omega
theorem partsG_length (a b : Reg) : (partsG a b).length ≤ b.2.length + 1 := by
  unfold partsG
  have := partsTail_length a (simpleL b.1 b.2) (simpleL b.1 b.2) 0
  have := simpleL_length b.1 b.2
  simp
  omega
theorem partsG_small {a b : Reg} (sa : SmallG a) (sb : SmallG b) (ea : regErr a = 0) (eb : regErr b = 0) : ∀ g ∈ partsG a b, SmallG g := by
  have hbig : big = 1048576 := rfl
  have la := (regErr_zero.1 ea).2.2
  have lb := (regErr_zero.1 eb).2.2
  intro g hg
  rcases List.mem_cons.1 hg with rfl | hg
  · exact simpleG_small sa.base (smallG_app sa fun x hx => by have : x = b.1 := (by simpa using hx); rw [this]; exact sb.base) (by simp; omega)
  · obtain ⟨t, x, hx, hg'⟩ := partsTail_mem.1 hg
    have hs1 := simpleL_small sb.base sb.hole
    have hsl : (simpleL b.1 b.2).length ≤ 64 := Nat.le_trans (simpleL_length b.1 b.2) lb
    unfold Go.Ai.partAt at hg'
    split at hg'
    case h_2 => cases hg'
    rename_i m hm
    have : g = simpleG m (a.2 ++ (simpleL b.1 b.2).take (0 + t)) := by simpa using hg'
    rw [this]
    exact (part_small sa hs1 (hs1 _ (List.mem_of_getElem? hx)) hm _ la hsl).2.2.2
theorem minusG_small {a b : Reg} (sa : SmallG a) (sb : SmallG b) : ∀ g ∈ (minusG a b).1, SmallG g := by
  intro g hg
  unfold minusG at hg
  split at hg
  · cases hg
  rename_i ea
  split at hg
  · cases hg
  rename_i eb
  split at hg
  · cases hg
  exact partsG_small sa sb (Decidable.byContradiction ea) (Decidable.byContradiction eb) g (List.mem_filter.1 hg).1
theorem minusG_length (a b : Reg) (hb : b.2.length ≤ 70) : (minusG a b).1.length ≤ 71 := by
  unfold minusG
  split
  · simp
  split
  · simp
  split
  · simp
  · have := partsG_length a b
    exact Nat.le_trans (List.length_filter_le _ _) (by omega)

theorem ref05_Minus_val (a b : Reg) (sa : SmallG a) (sb : SmallG b) : ref05_Minus (a, b) = some (minusG a b) := by
  have hbig : big = 1048576 := rfl
  unfold ref05_Minus minusG
  simp only
  rw [ref05_Check_val a sa, ref05_Check_val b sb]
  simp only [bindK_some, brK_ite]
  by_cases ea : regErr a = 0
  case neg => rw [if_pos ea, if_pos ea]
  by_cases eb : regErr b = 0
  case neg => rw [if_neg (fun h => h ea), if_pos eb, if_neg (fun h => h ea), if_pos eb]
  rw [if_neg (fun h => h ea), if_neg (fun h => h eb), if_neg (fun h => h ea), if_neg (fun h => h eb)]
  have la := (regErr_zero.1 ea).2.2
  have lb := (regErr_zero.1 eb).2.2
  have hbs := ref05_Simplify_val b.1 b.2 sb.base sb.hole sb.len
  have e1 : (b.1, b.2) = b := rfl
  rw [e1] at hbs
  rw [hbs, bindK_some]
  have hs1 := simpleL_small sb.base sb.hole
  have hsl : (simpleL b.1 b.2).length ≤ 64 := Nat.le_trans (simpleL_length b.1 b.2) lb
  simp only [List.length_cons, List.length_nil, Nat.zero_add, simpleG]
  have hsm : ∀ x ∈ a.2 ++ [b.1], SmallP x := smallG_app sa fun x hx => by have : x = b.1 := (by simpa using hx); rw [this]; exact sb.base
  have hlen2 : (a.2 ++ [b.1]).length ≤ big := by simp; omega
  rw [fits_ok (by omega) (by omega) (by omega), brK_true, fits_ok (by omega) (by omega) (by omega), brK_true, ref05_Simplify_val a.1 _ sa.base hsm hlen2, bindK_some]
  unfold ref05_Minus_L10_f
  have loop := ref05_Minus_L10_loop a b.1 (simpleL b.1 b.2) sa la hsl hs1 (simpleL b.1 b.2).length 0
    (List.length a.1.1 + List.length a.2 + List.length b.1.1 + List.length (simpleL b.1 b.2) + List.length [simpleG a.1 (a.2 ++ [b.1])] + List.length (simpleL b.1 b.2) + Int.natAbs ((simpleL b.1 b.2).length : Int) + Int.natAbs 0 + 1000) [simpleG a.1 (a.2 ++ [b.1])] (by omega) (by simp) (by omega)
  rw [show ((0 : Nat) : Int) = 0 from rfl, List.drop_zero] at loop
  rw [loop, bindK_some, sumK_inl]
  have hpl := partsG_length a b
  have hp : [simpleG a.1 (a.2 ++ [b.1])] ++ partsTail a (simpleL b.1 b.2) 0 (simpleL b.1 b.2) = partsG a b := rfl
  rw [hp]
  unfold ref05_Minus_L18_f
  have loop2 := ref05_Minus_L18_loop (partsG a b) (by omega) (partsG_small sa sb ea eb) (fun g hg => partsG_ok (regErr_zero.1 ea).1 hg) (partsG a b).length 0 (List.length ([] : List Reg) + List.length (partsG a b) + Int.natAbs ((partsG a b).length : Int) + Int.natAbs 0 + 1000) [] (by omega) (by simp) (by omega)
  rw [show ((0 : Nat) : Int) = 0 from rfl, List.drop_zero, limF_eq, List.nil_append] at loop2
  rw [loop2]
  by_cases hov : over (partsG a b) = true
  · rw [if_pos hov, if_pos hov]; rfl
  · rw [if_neg hov, if_neg hov]; rfl
end Go.Proofs.Ytcmfkmhmehhkpaa

set_option linter.unusedSimpArgs false
set_option linter.unusedVariables false
set_option maxRecDepth 100000
namespace Go.Proofs.Ytcmfkmhmehhkpaa
open Go Go.Ai
/-! ### The laws -/
theorem RegionSimplifies_val (g : Reg) (hg : WideG g) : law05_RegionSimplifies g = some true := by
  have hbig : big = 1048576 := rfl
  obtain ⟨b, hb, ht⟩ := small_val g hg
  unfold law05_RegionSimplifies
  rw [hb, awake_val]
  simp only [bindK_some]
  cases b with
  | false => rfl
  | true =>
    have tg := ht rfl
    have sg := tg.small
    have hl := tg.len
    simp only [Bool.not_true, brK_false]
    rw [fits_ok (by omega) (by omega) (by omega), brK_true, region_Simplify_val g sg, ref05_Check_val g sg]
    simp only [bindK_some, brK_ite]
    rw [ref05_Same_val g g sg, bindK_some, decide_eq_true rfl, Bool.not_true, brK_false]
    by_cases h0 : regErr g = 0
    · rw [if_pos h0, if_neg (by simp [h0]), if_neg (by simp [h0])]
      have hs := ref05_Simplify_val g.1 g.2 sg.base sg.hole sg.len
      have e : (g.1, g.2) = g := rfl
      rw [e] at hs
      rw [hs, bindK_some, ref05_Same_val _ _ (simpleG_small sg.base sg.hole sg.len), bindK_some, decide_eq_true rfl]
      rfl
    · rw [if_neg h0, if_neg (by simp), if_pos h0]
      rfl

/-- The law's other order of the holes, with one of them doubled. -/
def turnI (n : Nat) (t : Int) (i : Nat) : Nat := (n - i % n + (t.tmod n).toNat) % n
theorem turnI_lt {n : Nat} (hn : 0 < n) (t : Int) (i : Nat) : turnI n t i < n := Nat.mod_lt _ hn
theorem RegionOrder_loop (g : Reg) (t : Int) (ht : 0 ≤ t) (hn : 0 < g.2.length) (hl : g.2.length ≤ 70) : ∀ (k i fuel : Nat) (out : List Pat), i + k = g.2.length + 1 → out.length ≤ i → k < fuel →
    law05_RegionOrder_L6 fuel (t, (g.1.1, g.1.2, g.2), (g.2.length : Int), (g.1.1, g.1.2, out), (i : Int)) = some (.inl ((g.1.1, g.1.2, g.2), (g.1.1, g.1.2, out ++ (List.range' i k).map fun j => g.2[turnI g.2.length t j]?.getD ([], false))))
  | 0, i, fuel + 1, out, h, _, _ => by
    simp only [law05_RegionOrder_L6, law05_RegionOrder_L6_B, brK_ite]
    rw [if_neg (by omega)]
    simp
  | k + 1, i, fuel + 1, out, h, ho, hf => by
    have hbig : big = 1048576 := rfl
    simp only [law05_RegionOrder_L6, law05_RegionOrder_L6_B, brK_ite]
    rw [if_pos (by omega), if_neg (by omega), if_neg (by omega), if_neg (by omega)]
    have e1 : Int.tmod (i : Int) (g.2.length : Int) = ((i % g.2.length : Nat) : Int) := rfl
    have r1 := Nat.mod_lt i hn
    obtain ⟨m, hm⟩ : ∃ m : Nat, Int.tmod t (g.2.length : Int) = (m : Int) := ⟨(Int.tmod t (g.2.length : Int)).toNat, by have := Int.tmod_nonneg (g.2.length : Int) ht; omega⟩
    have r2 : m < g.2.length := by have := Int.tmod_lt_of_pos t (show (0 : Int) < (g.2.length : Int) by omega); omega
    have w1 : IntKind.wrap .i64 ((g.2.length : Int) - ((i % g.2.length : Nat) : Int)) = ((g.2.length - i % g.2.length : Nat) : Int) := by rw [wrap_id (by omega) (by omega)]; omega
    have w2 : IntKind.wrap .i64 (((g.2.length - i % g.2.length : Nat) : Int) + (m : Int)) = ((g.2.length - i % g.2.length + m : Nat) : Int) := by rw [wrap_id (by omega) (by omega)]; omega
    have e2 : Int.tmod ((g.2.length - i % g.2.length + m : Nat) : Int) (g.2.length : Int) = ((turnI g.2.length t i : Nat) : Int) := by
      unfold turnI
      rw [hm, Int.toNat_natCast]
      rfl
    have hlt := turnI_lt hn t i
    rw [e1, hm, w1, w2, e2, listAt_nat, List.getElem?_eq_getElem hlt]
    simp only [bindK_some, List.length_cons, List.length_nil, Nat.zero_add]
    rw [fits_ok (by omega) (by omega) (by omega), brK_true, wrap_succ (by omega), RegionOrder_loop g t ht hn hl k (i + 1) fuel _ (by omega) (by simp; omega) (by omega)]
    rw [List.range'_succ, List.map_cons, List.getElem?_eq_getElem hlt]
    simp
theorem turnI_all {n : Nat} (hn : 0 < n) (t : Int) (ht : 0 ≤ t) (j : Nat) (hj : j < n) : ∃ i, i < n ∧ turnI n t i = j := by
  obtain ⟨m, hm⟩ : ∃ m : Nat, (t.tmod n).toNat = m := ⟨_, rfl⟩
  have hmlt : m < n := by have := Int.tmod_lt_of_pos t (show (0 : Int) < (n : Int) by omega); omega
  unfold turnI
  rw [hm]
  refine ⟨(n + m - j) % n, Nat.mod_lt _ hn, ?_⟩
  rw [Nat.mod_mod]
  by_cases h : m < j
  · rw [Nat.mod_eq_of_lt (show n + m - j < n by omega), show n - (n + m - j) + m = j by omega, Nat.mod_eq_of_lt hj]
  · rw [show n + m - j = (m - j) + n by omega, Nat.add_mod_right, Nat.mod_eq_of_lt (show m - j < n by omega), show n - (m - j) + m = j + n by omega, Nat.add_mod_right, Nat.mod_eq_of_lt hj]
theorem RegionOrder_val (g : Reg) (t : Int) (hg : WideG g) : law05_RegionOrder (g, t) = some true := by
  have hbig : big = 1048576 := rfl
  obtain ⟨b, hb, htiny⟩ := small_val g hg
  unfold law05_RegionOrder
  simp only
  rw [hb, awake_val]
  simp only [bindK_some]
  cases b with
  | false => rfl
  | true =>
    have tg := htiny rfl
    have sg := tg.small
    have hl := tg.len
    simp only [Bool.not_true, brK_false, brK_ite]
    by_cases c1 : (g.2.length : Int) = 0
    · rw [if_pos c1]
    rw [if_neg c1]
    by_cases c2 : (g.2.length : Int) ≥ 64
    · rw [if_pos c2]
    rw [if_neg c2]
    by_cases c3 : t < 0
    · rw [if_pos c3]
    rw [if_neg c3]
    have hn : 0 < g.2.length := by omega
    unfold law05_RegionOrder_L6_f
    have loop := RegionOrder_loop g t (by omega) hn hl (g.2.length + 1) 0 (Int.natAbs t + List.length g.1.1 + List.length g.2 + Int.natAbs (g.2.length : Int) + List.length g.1.1 + List.length ([] : List Pat) + Int.natAbs 0 + 1000) [] (by omega) (by simp) (by omega)
    rw [show ((0 : Nat) : Int) = 0 from rfl, List.nil_append] at loop
    rw [loop, bindK_some, sumK_inl]
    simp only
    obtain ⟨hs', hhs⟩ : ∃ l, l = (List.range' 0 (g.2.length + 1)).map fun j => g.2[turnI g.2.length t j]?.getD ([], false) := ⟨_, rfl⟩
    rw [← hhs]
    have hmem : ∀ x, x ∈ g.2 ↔ x ∈ hs' := by
      intro x
      rw [hhs, List.mem_map]
      constructor
      · intro hx
        obtain ⟨j, hj, rfl⟩ := List.mem_iff_getElem.1 hx
        obtain ⟨i, hi, he⟩ := turnI_all hn t (by omega) j hj
        exact ⟨i, by rw [List.mem_range']; exact ⟨i, by omega, by omega⟩, by rw [he, List.getElem?_eq_getElem hj]; rfl⟩
      · rintro ⟨i, _, rfl⟩
        have := turnI_lt hn t i
        rw [List.getElem?_eq_getElem this]
        exact List.getElem_mem this
    have hlen : hs'.length = g.2.length + 1 := by rw [hhs]; simp
    have sh : SmallG (g.1, hs') := ⟨sg.base, fun x hx => sg.hole x ((hmem x).2 hx), by show hs'.length ≤ big; omega⟩
    have e1 : ((g.1.1, g.1.2), g.2) = g := rfl
    have e2 : ((g.1.1, g.1.2), hs') = (g.1, hs') := rfl
    rw [e1, e2, region_Simplify_val g sg, region_Simplify_val (g.1, hs') sh]
    simp only [bindK_some]
    have herr : regErr g = regErr (g.1, hs') := regErr_congr (base := g.1) hmem (by omega) (by omega)
    have hsim : simpleG g.1 g.2 = simpleG g.1 hs' := by
      unfold simpleG
      rw [simpleL_congr (base := g.1) (hs := g.2) (hs' := hs') fun m => by simp only [metL_mem, hmem]]
    rw [← herr, ← hsim]
    by_cases h0 : regErr g = 0
    · rw [if_pos h0, if_pos rfl, ref05_Same_val _ _ (simpleG_small sg.base sg.hole sg.len), bindK_some, decide_eq_true rfl]
      rfl
    · rw [if_neg h0, if_pos rfl, ref05_Same_val _ _ zeroG_small, bindK_some, decide_eq_true rfl]
      rfl

theorem RegionMeets_val (a b : Reg) (ha : WideG a) (hb : WideG b) : law05_RegionMeets (a, b) = some true := by
  obtain ⟨x, hx, tx⟩ := small_val a ha
  obtain ⟨y, hy, ty⟩ := small_val b hb
  unfold law05_RegionMeets
  simp only
  rw [hx, hy, awake_val]
  simp only [bindK_some]
  cases x with
  | false => rfl
  | true =>
    cases y with
    | false => rfl
    | true =>
      have sa := (tx rfl).small
      have sb := (ty rfl).small
      simp only [Bool.not_true, brK_false]
      rw [region_Meet_val a b sa sb, ref05_Meet_val a b sa sb]
      simp only [bindK_some, brK_ite, beq_self_eq_true, brK_true, if_true]
      rw [ref05_Same_val _ _ (meetG_small sa sb), bindK_some, decide_eq_true rfl]
      rfl

theorem RegionMinuses_loop (l : List Reg) (hl : l.length ≤ big) (hs : ∀ g ∈ l, SmallG g) : ∀ (k i fuel : Nat), i + k = l.length → k < fuel →
    law05_RegionMinuses_L8 fuel (l, l, (l.length : Int), (i : Int)) = some (.inl ())
  | 0, i, fuel + 1, h, _ => by
    simp only [law05_RegionMinuses_L8, law05_RegionMinuses_L8_B, brK_ite]
    rw [if_neg (by omega)]
  | k + 1, i, fuel + 1, h, hf => by
    have hbig : big = 1048576 := rfl
    have hi : i < l.length := by omega
    simp only [law05_RegionMinuses_L8, law05_RegionMinuses_L8_B, brK_ite]
    rw [if_pos (by omega), listAt_nat, List.getElem?_eq_getElem hi]
    simp only [bindK_some]
    rw [ref05_Same_val _ _ (hs _ (List.getElem_mem hi)), bindK_some, decide_eq_true rfl, Bool.not_true, brK_false, wrap_succ (by omega)]
    exact RegionMinuses_loop l hl hs k (i + 1) fuel (by omega) (by omega)
theorem RegionMinuses_val (a b : Reg) (ha : WideG a) (hb : WideG b) : law05_RegionMinuses (a, b) = some true := by
  have hbig : big = 1048576 := rfl
  obtain ⟨x, hx, tx⟩ := small_val a ha
  obtain ⟨y, hy, ty⟩ := small_val b hb
  unfold law05_RegionMinuses
  simp only
  rw [hx, hy, awake_val]
  simp only [bindK_some]
  cases x with
  | false => rfl
  | true =>
    cases y with
    | false => rfl
    | true =>
      have sa := (tx rfl).small
      have sb := (ty rfl).small
      have hl := minusG_length a b (ty rfl).len
      simp only [Bool.not_true, brK_false]
      rw [region_Minus_val a b sa sb, ref05_Minus_val a b sa sb]
      simp only [bindK_some, brK_ite]
      rw [if_neg (by simp), if_neg (by simp)]
      unfold law05_RegionMinuses_L8_f
      have loop := RegionMinuses_loop (minusG a b).1 (by omega) (minusG_small sa sb) (minusG a b).1.length 0 (List.length (minusG a b).1 + List.length (minusG a b).1 + Int.natAbs ((minusG a b).1.length : Int) + Int.natAbs 0 + 1000) (by omega) (by omega)
      rw [show ((0 : Nat) : Int) = 0 from rfl] at loop
      rw [loop]
      rfl

theorem RegionParts_L13_loop (g : Reg) (l : List Reg) (hl : l.length ≤ big) (hs : ∀ g ∈ l, SmallG g) (hd : l.Pairwise disjG) (n m : Int) (i : Nat) (hi : i < l.length) : ∀ (k j fuel : Nat), j + k = i → k < fuel →
    law05_RegionParts_L13 fuel ((g.1.1, g.1.2, g.2), l, (i : Int), n, m, (i : Int), (j : Int)) = some (.inl ((g.1.1, g.1.2, g.2), l, n, m))
  | 0, j, fuel + 1, h, _ => by
    simp only [law05_RegionParts_L13, law05_RegionParts_L13_B, brK_ite]
    rw [if_neg (by omega)]
  | k + 1, j, fuel + 1, h, hf => by
    have hbig : big = 1048576 := rfl
    have hj : j < l.length := by omega
    have hji : j < i := by omega
    have hdj := List.pairwise_iff_getElem.1 hd j i hj hi hji
    have hm : (meetG l[i] l[j]).2.1 = false := meet_disj fun ws hc h1 h2 => hdj ws hc h2 h1
    simp only [law05_RegionParts_L13, law05_RegionParts_L13_B, brK_ite]
    rw [if_pos (by omega), listAt_nat, List.getElem?_eq_getElem hi, listAt_nat, List.getElem?_eq_getElem hj]
    simp only [bindK_some]
    rw [region_Meet_val _ _ (hs _ (List.getElem_mem hi)) (hs _ (List.getElem_mem hj)), bindK_some, hm, brK_false, wrap_succ (by omega)]
    exact RegionParts_L13_loop g l hl hs hd n m i hi k (j + 1) fuel (by omega) (by omega)
theorem RegionParts_L10_loop (g : Reg) (l : List Reg) (hl : l.length ≤ big) (hs : ∀ g ∈ l, SmallG g) (hd : l.Pairwise disjG) : ∀ (k i fuel : Nat), i + k = l.length → k < fuel →
    law05_RegionParts_L10 fuel ((g.1.1, g.1.2, g.2), l, (l.length : Int), (i : Int)) = some (.inl ((g.1.1, g.1.2, g.2), l))
  | 0, i, fuel + 1, h, _ => by
    simp only [law05_RegionParts_L10, law05_RegionParts_L10_B, brK_ite]
    rw [if_neg (by omega)]
  | k + 1, i, fuel + 1, h, hf => by
    have hbig : big = 1048576 := rfl
    have hi : i < l.length := by omega
    have e0 : Int.toNat 0 = 0 := rfl
    simp only [law05_RegionParts_L10, law05_RegionParts_L10_B, brK_ite]
    rw [if_pos (by omega), if_pos ⟨by omega, by omega, by omega⟩, Int.toNat_natCast, e0, List.drop_zero]
    have hlen : (List.take i l).length = i := by rw [List.length_take]; omega
    rw [hlen]
    unfold law05_RegionParts_L13_f
    have loop := RegionParts_L13_loop g l hl hs hd (l.length : Int) (i : Int) i hi i 0 (List.length g.1.1 + List.length g.2 + List.length l + Int.natAbs (i : Int) + Int.natAbs (l.length : Int) + Int.natAbs (i : Int) + Int.natAbs (i : Int) + Int.natAbs 0 + 1000) (by omega) (by omega)
    rw [show ((0 : Nat) : Int) = 0 from rfl] at loop
    rw [loop, bindK_some, sumK_inl]
    simp only
    rw [wrap_succ (by omega)]
    exact RegionParts_L10_loop g l hl hs hd k (i + 1) fuel (by omega) (by omega)

/-- Two regions' common part, and what is left of the first one behind the second. -/
def allParts (a b : Reg) : List Reg := if (meetG a b).2.1 = true then (minusG a b).1 ++ [(meetG a b).1] else (minusG a b).1
theorem allParts_disj {a b : Reg} (h2 : (minusG a b).2 = 0) : (allParts a b).Pairwise disjG := by
  obtain ⟨ea, eb, _, hp, _⟩ := minusG_parts h2
  have hd : (minusG a b).1.Pairwise disjG := by rw [hp]; exact (partsG_disj a b).filter _
  unfold allParts
  split
  · rename_i hm
    obtain ⟨_, _, _, m, h1, h3, _⟩ := meetG_some hm
    rw [List.pairwise_append]
    refine ⟨hd, List.pairwise_singleton _ _, fun g hg g' hg' ws hc w1 w2 => ?_⟩
    have e : g' = simpleG m (a.2 ++ b.2) := by rw [← h3]; simpa using hg'
    subst e
    rw [hp] at hg
    have := (partsG_has hc).1 ⟨g, (List.mem_filter.1 hg).1, w1⟩
    have := ((meet_has h1 hc).1 w2).2
    simp_all
  · exact hd
theorem allParts_empty {a b : Reg} (h1 : (meetG a b).2.2 = 0) (h2 : (minusG a b).2 = 0) : (lengthG a).isNone = decide ((allParts a b).length = 0) := by
  obtain ⟨ea, eb, _, hp, herr⟩ := minusG_parts h2
  have key : nonE a = true ↔ allParts a b ≠ [] := by
    constructor
    · intro hn
      obtain ⟨ws, hc, hw, _⟩ := nonE_path ea hn
      cases hb : hasW b ws with
      | false =>
        obtain ⟨g, hg, hgw⟩ := (partsG_has hc).2 ⟨hw, hb⟩
        have : g ∈ (minusG a b).1 := by rw [hp]; exact List.mem_filter.2 ⟨hg, nonE_of (herr g hg) hc hgw⟩
        unfold allParts
        split
        · simp
        · exact List.ne_nil_of_mem this
      | true =>
        unfold allParts
        cases hm : (meetG a b).2.1 with
        | true => simp
        | false => exact ((meetG_none hm h1).2.2.2 ws hc hw hb).elim
    · intro hne
      obtain ⟨g, hg⟩ := List.exists_mem_of_ne_nil _ hne
      unfold allParts at hg
      have fromParts : g ∈ (minusG a b).1 → nonE a = true := by
        intro hg
        rw [hp] at hg
        obtain ⟨hg1, hg2⟩ := List.mem_filter.1 hg
        obtain ⟨ws, hc, hw, _⟩ := nonE_path (herr g hg1) hg2
        exact nonE_of ea hc ((partsG_has hc).1 ⟨g, hg1, hw⟩).1
      split at hg
      · rename_i hm
        rcases List.mem_append.1 hg with hg | hg
        · exact fromParts hg
        · obtain ⟨_, _, _, m, h3, h4, h5, h6⟩ := meetG_some hm
          obtain ⟨ws, hc, hw, _⟩ := nonE_path h5 h6
          exact nonE_of ea hc ((meet_has h3 hc).1 hw).1
      · exact fromParts hg
  unfold nonE at key
  cases hl : lengthG a with
  | none =>
    rw [hl] at key
    have : allParts a b = [] := by
      refine Classical.byContradiction fun hn => ?_
      have := key.2 hn
      cases this
    rw [this]
    rfl
  | some n =>
    rw [hl] at key
    have := key.1 rfl
    have : (allParts a b).length ≠ 0 := fun h => this (List.eq_nil_of_length_eq_zero h)
    rw [decide_eq_false this]
    rfl
theorem allParts_small {a b : Reg} (sa : SmallG a) (sb : SmallG b) : ∀ g ∈ allParts a b, SmallG g := by
  intro g hg
  unfold allParts at hg
  split at hg
  · rcases List.mem_append.1 hg with hg | hg
    · exact minusG_small sa sb g hg
    · have : g = (meetG a b).1 := by simpa using hg
      rw [this]
      exact meetG_small sa sb
  · exact minusG_small sa sb g hg

theorem RegionParts_val (a b : Reg) (ha : WideG a) (hb : WideG b) : law05_RegionParts (a, b) = some true := by
  have hbig : big = 1048576 := rfl
  obtain ⟨x, hx, tx⟩ := small_val a ha
  obtain ⟨y, hy, ty⟩ := small_val b hb
  unfold law05_RegionParts
  simp only
  rw [hx, hy, awake_val]
  simp only [bindK_some]
  cases x with
  | false => rfl
  | true =>
    cases y with
    | false => rfl
    | true =>
      have sa := (tx rfl).small
      have sb := (ty rfl).small
      have hl := minusG_length a b (ty rfl).len
      simp only [Bool.not_true, brK_false]
      rw [region_Meet_val a b sa sb, region_Minus_val a b sa sb]
      simp only [bindK_some, brK_ite]
      by_cases h1 : (meetG a b).2.2 = 0
      case neg => rw [if_pos h1]
      by_cases h2 : (minusG a b).2 = 0
      case neg => rw [if_neg (fun h => h h1), if_pos h2]
      rw [if_neg (fun h => h h1), if_neg (fun h => h h2)]
      have ea := (minusG_parts h2).1
      have tail : ∀ l, l = allParts a b → (bindK (law05_RegionParts_L10_f ((a.1.1, a.1.2, a.2), l, (l.length : Int), 0)) fun o1009 =>
          sumK o1009 (fun y1010 => bindK (region_Empty ((y1010.1.1, y1010.1.2.1), y1010.1.2.2)) fun r1012 => brK (decide ((r1012.2 : Int) = 0)) (brK (r1012.1 == (decide (((y1010.2.length : Int) : Int) = 0))) (some true) (some false)) (some false))
          (fun z1011 => sumK z1011 (fun y1014 => some y1014) (fun z1015 => emptyK z1015))) = some true := by
        intro l hl2
        have hll : l.length ≤ big := by
          rw [hl2]
          unfold allParts
          split
          · rw [List.length_append]; simp; omega
          · omega
        unfold law05_RegionParts_L10_f
        have loop := RegionParts_L10_loop a l hll (by rw [hl2]; exact allParts_small sa sb) (by rw [hl2]; exact allParts_disj h2) l.length 0 (List.length a.1.1 + List.length a.2 + List.length l + Int.natAbs (l.length : Int) + Int.natAbs 0 + 1000) (by omega) (by omega)
        rw [show ((0 : Nat) : Int) = 0 from rfl] at loop
        rw [loop, bindK_some, sumK_inl]
        simp only
        have e : ((a.1.1, a.1.2), a.2) = a := rfl
        rw [e, region_Empty_val a sa, if_pos ea, bindK_some]
        have he := allParts_empty h1 h2
        rw [← hl2] at he
        have e2 : decide ((l.length : Int) = 0) = decide (l.length = 0) := by
          by_cases h : l.length = 0
          · simp [h]
          · rw [decide_eq_false h, decide_eq_false (by omega)]
        simp only [brK_ite, if_true]
        rw [he, e2]
        simp
      cases hm : (meetG a b).2.1 with
      | true =>
        rw [brK_true, fits_ok (by omega) (by omega) (by omega), brK_true]
        simp only [List.length_cons, List.length_nil, Nat.zero_add]
        rw [fits_ok (by omega) (by omega) (by omega), brK_true]
        have := tail ((minusG a b).1 ++ [(meetG a b).1]) (by unfold allParts; rw [if_pos hm])
        simp only [brK_ite] at this
        exact this
      | false =>
        rw [brK_false]
        have := tail (minusG a b).1 (by unfold allParts; rw [if_neg (by rw [hm]; simp)])
        simp only [brK_ite] at this
        exact this

theorem regionOrder_pure (g : Reg) (t : Int) (hg : Ty.wOK 140737488351232 tyReg g) (ht : Ty.wOK 140737488351232 (.int .i64) t) : law05_RegionOrder (g, t) = some true := RegionOrder_val g t (wideG_of hg)
theorem regionSimplifies_pure (g : Reg) (hg : Ty.wOK 140737488351232 tyReg g) : law05_RegionSimplifies g = some true := RegionSimplifies_val g (wideG_of hg)
theorem regionMeets_pure (a b : Reg) (ha : Ty.wOK 140737488351232 tyReg a) (hb : Ty.wOK 140737488351232 tyReg b) : law05_RegionMeets (a, b) = some true := RegionMeets_val a b (wideG_of ha) (wideG_of hb)
theorem regionMinuses_pure (a b : Reg) (ha : Ty.wOK 140737488351232 tyReg a) (hb : Ty.wOK 140737488351232 tyReg b) : law05_RegionMinuses (a, b) = some true := RegionMinuses_val a b (wideG_of ha) (wideG_of hb)
theorem regionParts_pure (a b : Reg) (ha : Ty.wOK 140737488351232 tyReg a) (hb : Ty.wOK 140737488351232 tyReg b) : law05_RegionParts (a, b) = some true := RegionParts_val a b (wideG_of ha) (wideG_of hb)
end Go.Proofs.Ytcmfkmhmehhkpaa
