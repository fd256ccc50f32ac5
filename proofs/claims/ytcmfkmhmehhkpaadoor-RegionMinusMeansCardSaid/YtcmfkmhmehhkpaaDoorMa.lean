/- A part of the proof of a law of this seat (rD_M1, rD_M2, rD_M3, rD_M4, rD_M5, rD_M6, rD_M8, rD_M9, rD_M10, rD_R1, rD_R2). -/
import Derived.Test.YtcmfkmhmehhkpaaDoorG
import Derived.Test.YtcmfkmhmehhkpaaDoorAc
import Derived.Test.YtcmfkmhmehhkpaaDoorAd
set_option linter.unusedSimpArgs false
set_option linter.unusedVariables false
namespace Go.Proofs.YtcmfkmhmehhkpaaDoor
open Go Go.Ai
/-! ### Components -/
theorem allowed_eq (c : UInt8) : path_allowed (c.toNat : Int) = some (okByte c) := by
  have h : ∀ c : Fin 256, path_allowed ((UInt8.ofNat c.val).toNat : Int) = some (okByte (UInt8.ofNat c.val)) := by decide +kernel
  have h1 := h ⟨c.toNat, c.toNat_lt⟩
  simpa only [UInt8.ofNat_toNat] using h1

theorem path_Component_loop (s : ByteArray) (hs : s.size ≤ 4611686018427387904) : ∀ (k i fuel : Nat), i + k = s.size → k < fuel →
    path_Component_L4 fuel (s, (s.size : Int), (i : Int)) = some (if ((bts s).drop i).all okByte = true then .inl () else .inr (.inl false))
  | 0, i, fuel + 1, h, _ => by
    have : (bts s).drop i = [] := List.drop_eq_nil_of_le (by rw [← size_bts]; omega)
    simp only [path_Component_L4, path_Component_L4_B, brK_ite]
    rw [if_neg (by omega), this]
    rfl
  | k + 1, i, fuel + 1, h, hf => by
    have hi : i < (bts s).length := by rw [← size_bts]; omega
    have hd : (bts s).drop i = (bts s)[i] :: (bts s).drop (i + 1) := List.drop_eq_getElem_cons hi
    simp only [path_Component_L4, path_Component_L4_B, brK_ite]
    rw [if_pos (by omega), strAt_nat, List.getElem?_eq_getElem hi]
    simp only [Option.map_some, bindK_some, allowed_eq]
    rw [wrap_succ (by omega), hd, List.all_cons]
    cases okByte (bts s)[i] with
    | false => rfl
    | true =>
      simp only [Bool.not_true, brK_false, Bool.true_and]
      exact path_Component_loop s hs k (i + 1) fuel (by omega) (by omega)

theorem path_Component_val (s : ByteArray) (hs : s.size ≤ 4611686018427387904) : path_Component s = some (comp (bts s)) := by
  unfold path_Component
  rw [brK_ite]
  split
  · rename_i h; subst h; rfl
  · rename_i h
    cases hb : bts s with
    | nil => exact absurd (bts_inj (by rw [hb])) h
    | cons c l =>
      have h0 : strAt s 0 = some (c.toNat : Int) := by
        have := strAt_nat s 0
        change strAt s 0 = ((bts s)[0]?).map _ at this
        rw [hb] at this
        exact this
      rw [h0, bindK_some, brK_ite]
      by_cases hc : c = 46
      · subst hc; rfl
      · rw [if_neg (by
          intro h
          apply hc
          exact UInt8.toNat_inj.1 (by show c.toNat = 46; omega))]
        have hl := path_Component_loop s hs s.size 0 (s.size + Int.natAbs s.size + Int.natAbs 0 + 1000) (by omega) (by omega)
        unfold path_Component_L4_f
        rw [show ((0 : Nat) : Int) = 0 from rfl] at hl
        rw [hl]
        simp only [List.drop_zero, hb]
        have hne : (some c != some (46 : UInt8)) = true := by simp [hc]
        simp only [comp, List.isEmpty_cons, List.head?_cons, hne, Bool.not_false, Bool.true_and]
        cases (c :: l).all okByte <;> rfl

/-- The alphabet of the reference. -/
def alpha : ByteArray := ByteArray.mk #[65, 66, 67, 68, 69, 70, 71, 72, 73, 74, 75, 76, 77, 78, 79, 80, 81, 82, 83, 84, 85, 86, 87, 88, 89, 90, 97, 98, 99, 100, 101, 102, 103, 104, 105, 106, 107, 108, 109, 110, 111, 112, 113, 114, 115, 116, 117, 118, 119, 120, 121, 122, 48, 49, 50, 51, 52, 53, 54, 55, 56, 57, 95, 46, 43, 45]

theorem alpha_ok (c : UInt8) : c ∉ bts alpha ↔ okByte c = false := by
  have h : ∀ c : Fin 256, (decide (UInt8.ofNat c.val ∉ bts alpha) == !(okByte (UInt8.ofNat c.val))) = true := by decide +kernel
  have h1 := h ⟨c.toNat, c.toNat_lt⟩
  simp only [UInt8.ofNat_toNat, beq_iff_eq] at h1
  constructor
  · intro hm
    rw [decide_eq_true hm] at h1
    simpa using h1.symm
  · intro hok
    rw [hok] at h1
    exact of_decide_eq_true (by simpa using h1)
end Go.Proofs.YtcmfkmhmehhkpaaDoor

set_option linter.unusedSimpArgs false
set_option linter.unusedVariables false
namespace Go.Proofs.YtcmfkmhmehhkpaaDoor
open Go Go.Ai
/-! ### Parts -/
theorem HasPrefix_val (x : ByteArray × ByteArray) : stringslite_HasPrefix x = some (decide (bts x.2 <+: bts x.1)) := by
  unfold stringslite_HasPrefix
  simp only [brK_ite]
  by_cases h : (x.1.size : Int) ≥ x.2.size
  · rw [if_pos h, if_pos ⟨by omega, by omega, by omega⟩]
    congr 1
    have e : (x.1.extract (Int.toNat 0) (Int.toNat (x.2.size : Int)) = x.2) ↔ bts x.2 <+: bts x.1 := by
      rw [bts_eq, bts_extract]
      simp only [Int.toNat_zero, List.drop_zero, Int.toNat_natCast]
      constructor
      · intro h
        rw [← h]
        exact List.take_prefix _ _
      · intro h
        rw [size_bts]
        exact (List.prefix_iff_eq_take.1 h).symm
    exact decide_eq_decide.2 e
  · rw [if_neg h]
    congr 1
    symm
    apply decide_eq_false
    intro hp
    have := hp.length_le
    rw [← size_bts, ← size_bts] at this
    omega

theorem CutPrefix_val (s t : ByteArray) : strings_CutPrefix (s, t) = some (if bts t <+: bts s then (s.extract t.size s.size, true) else (s, false)) := by
  unfold strings_CutPrefix stringslite_CutPrefix
  rw [HasPrefix_val]
  simp only [bindK_some]
  by_cases h : bts t <+: bts s
  · have hl := h.length_le
    rw [← size_bts, ← size_bts] at hl
    rw [decide_eq_true h, if_pos h]
    simp only [Bool.not_true, brK_false, brK_ite]
    rw [if_pos ⟨by omega, by omega, by omega⟩]
    simp
  · rw [decide_eq_false h, if_neg h]
    simp

theorem pattern_formOf_val (s : ByteArray) (hs : s.size ≤ big) : ∃ t, pattern_formOf s = some (form (bts s), t) ∧ (∀ u, star? (bts s) = some u → bts t = u) ∧ (star? (bts s) = none → t = ⟨#[]⟩) := by
  have hbig : big = 1048576 := rfl
  unfold pattern_formOf
  rw [CutPrefix_val]
  by_cases h : bts (ByteArray.mk #[42]) <+: bts s
  · obtain ⟨u, hu⟩ := h
    have hu' : bts s = 42 :: u := by rw [← hu]; rfl
    rw [if_pos ⟨u, hu⟩]
    simp only [bindK_some, brK_true, brK_ite]
    have hx : bts (s.extract (ByteArray.mk #[42]).size s.size) = u := by
      have hl : s.size = (42 :: u).length := by rw [size_bts, hu']
      rw [bts_extract, hu', hl, List.take_length]
      rfl
    have hsz : (s.extract (ByteArray.mk #[42]).size s.size).size ≤ s.size := by
      rw [size_bts, hx, size_bts, hu']; simp
    rw [if_pos (by have : (ByteArray.mk #[97]).size = 1 := rfl; omega)]
    rw [path_Component_val _ (by rw [ByteArray.size_append]; have : (ByteArray.mk #[97]).size = 1 := rfl; omega)]
    have hb : bts ((ByteArray.mk #[97]) ++ s.extract (ByteArray.mk #[42]).size s.size) = 97 :: u := by
      rw [bts_append, hx]; rfl
    rw [hb, comp_a]
    simp only [bindK_some]
    cases hall : u.all okByte with
    | true =>
      have hst : star? (bts s) = some u := by rw [hu']; simp [star?, hall]
      refine ⟨s.extract (ByteArray.mk #[42]).size s.size, by simp [form, hst], fun v hv => ?_, fun hv => ?_⟩
      · rw [hst] at hv; cases hv; exact hx
      · rw [hst] at hv; cases hv
    | false =>
      have hst : star? (bts s) = none := by rw [hu']; simp [star?, hall]
      refine ⟨⟨#[]⟩, by simp only [form, hst]; rw [hu', comp_star]; rfl, fun v hv => ?_, fun _ => rfl⟩
      rw [hst] at hv; cases hv
  · rw [if_neg h]
    have hst : star? (bts s) = none := by
      unfold star?
      split
      · rename_i t ht
        exact absurd ⟨t, by rw [ht]; rfl⟩ h
      · rfl
    simp only [bindK_some, brK_false]
    rw [path_Component_val _ (by omega)]
    simp only [bindK_some]
    refine ⟨⟨#[]⟩, ?_, fun v hv => ?_, fun _ => rfl⟩
    · cases hc : comp (bts s) <;> simp [form, hst, hc]
    · rw [hst] at hv; cases hv
end Go.Proofs.YtcmfkmhmehhkpaaDoor

set_option linter.unusedSimpArgs false
set_option linter.unusedVariables false
namespace Go.Proofs.YtcmfkmhmehhkpaaDoor
open Go Go.Ai
theorem pattern_shape_loop (xs : List ByteArray) (hl : xs.length ≤ big) (hp : ∀ s ∈ xs, ByteArray.size s ≤ big) : ∀ (k i fuel : Nat), i + k = xs.length → k < fuel →
    pattern_shape_L4 fuel (xs, (xs.length : Int), (i : Int)) = some (if (if i = 0 then shapeOK xs else (xs.drop i).all fun s => isPart (bts s)) = true then .inl () else .inr (.inl false))
  | 0, i, fuel + 1, h, _ => by
    have hd : xs.drop i = [] := List.drop_eq_nil_of_le (by omega)
    simp only [pattern_shape_L4, pattern_shape_L4_B, brK_ite]
    rw [if_neg (by omega), hd]
    by_cases h0 : i = 0
    · subst h0
      have : xs = [] := by simpa using hd
      subst this
      rfl
    · simp [h0]
  | k + 1, i, fuel + 1, h, hf => by
    have hbig : big = 1048576 := rfl
    have hi : i < xs.length := by omega
    have hd : xs.drop i = xs[i] :: xs.drop (i + 1) := List.drop_eq_getElem_cons hi
    simp only [pattern_shape_L4, pattern_shape_L4_B, brK_ite]
    rw [if_pos (by omega), listAt_nat, List.getElem?_eq_getElem hi]
    obtain ⟨t, ht, _, _⟩ := pattern_formOf_val xs[i] (hp _ (List.getElem_mem hi))
    simp only [bindK_some, ht]
    rw [wrap_succ (by omega)]
    have ih := pattern_shape_loop xs hl hp k (i + 1) fuel (by omega) (by omega)
    rw [if_neg (by omega : ¬ i + 1 = 0)] at ih
    rw [ih]
    by_cases h0 : i = 0
    · subst h0
      have hx : xs = xs[0] :: xs.drop 1 := by simpa using hd
      simp only [if_true]
      have hsh : shapeOK xs = (comp (bts xs[0]) && (xs.drop (0 + 1)).all fun s => isPart (bts s)) := by
        conv => lhs; rw [hx]
        rfl
      rw [hsh]
      by_cases hz : form (bts xs[0]) = 0
      · rw [if_pos hz]
        have hc : comp (bts xs[0]) = false := by
          have := (form_zero _).1 hz
          unfold isPart at this
          simp only [Bool.or_eq_false_iff] at this
          exact this.2
        rw [hc]; rfl
      · rw [if_neg hz]
        simp only [Int.natCast_zero, if_true]
        cases hc : comp (bts xs[0]) with
        | true =>
          rw [if_neg (fun h => h ((form_one _).2 hc))]
          simp only [Bool.true_and]
        | false =>
          rw [if_pos (fun h => by rw [(form_one _).1 h] at hc; cases hc)]
          rfl
    · rw [if_neg h0, hd, List.all_cons]
      cases hz : isPart (bts xs[i]) with
      | false => rw [if_pos ((form_zero _).2 hz)]; rfl
      | true =>
        rw [if_neg (fun h => by rw [(form_zero _).1 h] at hz; cases hz), if_neg (by omega)]
        simp only [Bool.true_and]

theorem pattern_Check_val (p : Pat) (h : SmallP p) : pattern_Check p = some (patErr p) := by
  have hbig : big = 1048576 := rfl
  have hlen := h.len
  unfold pattern_Check pattern_shape pattern_shape_L4_f
  have hl := pattern_shape_loop p.1 h.len h.part p.1.length 0 (p.1.length + Int.natAbs p.1.length + Int.natAbs 0 + 1000) (by omega) (by omega)
  rw [show ((0 : Nat) : Int) = 0 from rfl] at hl
  simp only [if_true] at hl
  rw [hl]
  simp only [brK_ite, bindK_some]
  unfold patErr
  by_cases h0 : p.1.length = 0
  · simp [h0]
  · rw [if_neg (by omega)]
    by_cases h1 : p.1.length = 1
    · rw [if_pos (by omega)]
      cases hr : p.2 with
      | false => simp [h1]
      | true =>
        cases hs : shapeOK p.1 <;> simp [h0, h1]
    · rw [if_neg (by omega)]
      cases hs : shapeOK p.1 with
      | false => simp
      | true =>
        simp [h0, h1]
        by_cases h12 : 12 < p.1.length
        · rw [if_pos h12, if_pos (by omega)]
        · rw [if_neg h12, if_neg (by omega)]
end Go.Proofs.YtcmfkmhmehhkpaaDoor

set_option linter.unusedSimpArgs false
set_option linter.unusedVariables false
namespace Go.Proofs.YtcmfkmhmehhkpaaDoor
open Go Go.Ai

end Go.Proofs.YtcmfkmhmehhkpaaDoor

set_option linter.unusedSimpArgs false
set_option linter.unusedVariables false
namespace Go.Proofs.YtcmfkmhmehhkpaaDoor
open Go Go.Ai
/-! ### Lines and views -/
end Go.Proofs.YtcmfkmhmehhkpaaDoor

set_option linter.unusedSimpArgs false
set_option linter.unusedVariables false
set_option maxRecDepth 100000
namespace Go.Proofs.YtcmfkmhmehhkpaaDoor
open Go Go.Ai
theorem ref03_Same_loop (p : Pat) (hl : p.1.length ≤ big) : ∀ (k i fuel : Nat), i + k = p.1.length → k < fuel →
    ref03_Same_L4 fuel (p, p.1, (p.1.length : Int), (i : Int)) = some (.inl ())
  | 0, i, fuel + 1, hk, _ => by
    simp only [ref03_Same_L4, ref03_Same_L4_B, brK_ite]
    rw [if_neg (by omega)]
  | k + 1, i, fuel + 1, hk, hf => by
    have hbig : big = 1048576 := rfl
    have hi : i < p.1.length := by omega
    simp only [ref03_Same_L4, ref03_Same_L4_B, brK_ite]
    rw [if_pos (by omega), listAt_nat, List.getElem?_eq_getElem hi]
    simp only [bindK_some, ne_eq, not_true_eq_false, if_false]
    rw [wrap_succ (by omega)]
    exact ref03_Same_loop p hl k (i + 1) fuel (by omega) (by omega)

theorem ref03_Same_self (p : Pat) (h : p.1.length ≤ big) : ref03_Same (p, p) = some true := by
  have hbig : big = 1048576 := rfl
  unfold ref03_Same ref03_Same_L4_f
  have := ref03_Same_loop p h p.1.length 0 (List.length p.1 + List.length p.1 + Int.natAbs p.1.length + Int.natAbs 0 + 1000) (by omega) (by omega)
  rw [show ((0 : Nat) : Int) = 0 from rfl] at this
  rw [this]
  simp [brK_ite]
end Go.Proofs.YtcmfkmhmehhkpaaDoor

set_option linter.unusedSimpArgs false
set_option linter.unusedVariables false
set_option maxRecDepth 100000
namespace Go.Proofs.YtcmfkmhmehhkpaaDoor
open Go Go.Ai
theorem path_directory_val (s : ByteArray) (hs : s.size ≤ huge) : path_directory s = some (match dirWords s with | some ws => (ws, true) | none => ([], false)) := by
  have hh : huge = 1073741824 := rfl
  unfold path_directory
  rw [CutPrefix_val]
  by_cases h : bts root <+: bts s
  · obtain ⟨r, hr⟩ := h
    have hr' : bts s = 47 :: 47 :: r := by rw [← hr]; rfl
    rw [if_pos ⟨r, hr⟩]
    have hx : bts (s.extract root.size s.size) = r := by
      have hl : s.size = (47 :: 47 :: r).length := by rw [size_bts, hr']
      rw [bts_extract, hr', hl, List.take_length]
      rfl
    have hxs : (s.extract root.size s.size).size ≤ s.size := by rw [size_bts, hx, size_bts, hr']; simp; omega
    simp only [bindK_some, Bool.not_true, brK_false]
    unfold strings_Split
    simp only
    rw [splitF_cut _ _ (show (s.extract root.size s.size).size < 4294967281 by omega), hx]
    simp only [bindK_some]
    have hlen : ((cutAt 47 r).map ofB).length ≤ huge + 1 := by
      have := (cutAt_length 47 r).1
      rw [← hx, ← size_bts] at this
      rw [List.length_map]
      rw [hx] at this
      omega
    have hsz : ∀ w ∈ (cutAt 47 r).map ofB, ByteArray.size w ≤ huge := by
      intro w hw
      obtain ⟨l, hl, rfl⟩ := List.mem_map.1 hw
      have h1 := (cutAt_length 47 r).2
      have h2 := sum_mem List.length hl
      rw [size_ofB]
      have h3 : r.length ≤ huge := by rw [← hx, ← size_bts]; omega
      omega
    have hd : dirWords s = if ((cutAt 47 r).map ofB).all compB = true then some ((cutAt 47 r).map ofB) else none := by
      simp only [dirWords, hr']
    rw [hd]
    generalize (cutAt 47 r).map ofB = ws at hlen hsz ⊢
    unfold path_directory_L6_f
    have := all_loop (F := path_directory_L6) (B := path_directory_L6_B) (fun _ _ => rfl) ws (fun i => (ws, ws, (ws.length : Int), (i : Int))) compB (.inr (.inl ([], false))) (.inl ws)
      (fun rec i h => by
        simp only [path_directory_L6_B, brK_ite]
        rw [if_pos (by omega), listAt_nat, List.getElem?_eq_getElem h]
        simp only [bindK_some, path_Component_val _ (show ByteArray.size ws[i] ≤ 4611686018427387904 from by have := hsz _ (List.getElem_mem h); omega)]
        rw [wrap_succ (by omega)]
        show brK (!compB ws[i]) _ _ = _
        cases compB ws[i] <;> rfl)
      (fun rec => by
        simp only [path_directory_L6_B, brK_ite]
        rw [if_neg (by omega)]) ws.length 0 (List.length ws + List.length ws + Int.natAbs (ws.length : Int) + Int.natAbs 0 + 1000) (by omega) (by omega)
    rw [show ((0 : Nat) : Int) = 0 from rfl, List.drop_zero] at this
    rw [this]
    cases ws.all compB <;> rfl
  · rw [if_neg h]
    have hd : dirWords s = none := by
      unfold dirWords
      split
      · rename_i r hr
        exact absurd ⟨r, by rw [hr]; rfl⟩ h
      · rfl
    rw [hd]
    rfl

theorem path_Split_val (s : ByteArray) (hs : s.size ≤ huge) : path_Split s = some (match pathWords s with | some ws => (ws, 0) | none => ([], 20)) := by
  unfold path_Split pathWords
  rw [path_directory_val s hs]
  cases dirWords s with
  | none => rfl
  | some ws =>
    simp only [bindK_some, Bool.not_true, brK_false, brK_ite, Option.bind_some]
    by_cases h : 2 ≤ ws.length
    · rw [if_neg (by omega), if_pos h]
    · rw [if_pos (by omega), if_neg h]

/-! ### References -/
end Go.Proofs.YtcmfkmhmehhkpaaDoor

set_option linter.unusedSimpArgs false
set_option linter.unusedVariables false
set_option maxRecDepth 100000
namespace Go.Proofs.YtcmfkmhmehhkpaaDoor
open Go Go.Ai
/-! ### Match -/
theorem HasSuffix_val (x : ByteArray × ByteArray) (h1 : x.1.size ≤ huge) (h2 : x.2.size ≤ huge) : strings_HasSuffix x = some (decide (bts x.2 <:+ bts x.1)) := by
  have hh : huge = 1073741824 := rfl
  unfold strings_HasSuffix stringslite_HasSuffix
  simp only [brK_ite]
  by_cases h : (x.1.size : Int) ≥ x.2.size
  · rw [if_pos h, wrap_id (by omega) (by omega), if_pos ⟨by omega, by omega, by omega⟩, bindK_some]
    congr 1
    have e : (x.1.extract (Int.toNat ((x.1.size : Int) - x.2.size)) (Int.toNat (x.1.size : Int)) = x.2) ↔ bts x.2 <:+ bts x.1 := by
      rw [bts_eq, bts_extract, Int.toNat_natCast, show Int.toNat ((x.1.size : Int) - x.2.size) = x.1.size - x.2.size by omega]
      rw [size_bts x.1, List.take_length, size_bts x.2]
      constructor
      · intro h
        rw [← h]
        exact List.drop_suffix _ _
      · intro h
        exact (List.suffix_iff_eq_drop.1 h).symm
    exact decide_eq_decide.2 e
  · rw [if_neg h, bindK_some]
    congr 1
    symm
    apply decide_eq_false
    intro hp
    have := hp.length_le
    rw [← size_bts, ← size_bts] at this
    omega

theorem pattern_capture_val (w s : ByteArray) (h1 : w.size ≤ huge) (h2 : s.size ≤ huge) : pattern_capture (w, s) = some (match capt (bts w) (bts s) with | some x => (ofB x, true) | none => (⟨#[]⟩, false)) := by
  have hh : huge = 1073741824 := rfl
  unfold pattern_capture
  simp only [brK_ite]
  have e1 : (w.size : Int) > s.size ↔ (bts s).length < (bts w).length := by rw [← size_bts, ← size_bts]; omega
  unfold capt
  by_cases h : (w.size : Int) > s.size
  · rw [if_pos h, HasSuffix_val _ h1 h2, bindK_some]
    by_cases hs : bts s <:+ bts w
    · rw [decide_eq_true (p := bts s <:+ bts w) hs, if_pos (show bts s <:+ bts w ∧ (bts s).length < (bts w).length from ⟨hs, e1.1 h⟩), brK_true, wrap_id (by omega) (by omega), if_pos ⟨by omega, by omega, by omega⟩]
      congr 2
      apply bts_inj
      rw [bts_ofB, bts_extract, show Int.toNat ((w.size : Int) - s.size) = w.size - s.size by omega, size_bts, size_bts]
      rfl
    · rw [decide_eq_false (p := bts s <:+ bts w) hs, if_neg (show ¬ (bts s <:+ bts w ∧ (bts s).length < (bts w).length) from fun h => hs h.1)]
      rfl
  · rw [if_neg h, if_neg (fun hc => h (e1.2 hc.2))]

theorem pattern_Match_loop (p : Pat) (ps ws : List ByteArray) (n : Int) (hl : ps.length ≤ 12) (hpl : ps.length ≤ ws.length) (hp : ∀ s ∈ ps, ByteArray.size s ≤ big) (hpart : ∀ s ∈ ps, isPart (bts s) = true) (hw : ∀ s ∈ ws, ByteArray.size s ≤ huge) : ∀ (k i fuel : Nat) (out : List ByteArray), i + k = ps.length → out.length ≤ i → k < fuel →
    pattern_Match_L7 fuel (p, ws, n, out, ps, (ps.length : Int), (i : Int)) = some (match mparts (ps.drop i) (ws.drop i) with | some cs => .inl (p, ws, n, out ++ cs) | none => .inr (.inl ([], false)))
  | 0, i, fuel + 1, out, h, ho, _ => by
    have hd : ps.drop i = [] := List.drop_eq_nil_of_le (by omega)
    simp only [pattern_Match_L7, pattern_Match_L7_B, brK_ite]
    rw [if_neg (by omega), hd]
    simp [mparts]
  | k + 1, i, fuel + 1, out, h, ho, hf => by
    have hbig : big = 1048576 := rfl
    have hh : huge = 1073741824 := rfl
    have hi : i < ps.length := by omega
    have hiw : i < ws.length := by omega
    have hd : ps.drop i = ps[i] :: ps.drop (i + 1) := List.drop_eq_getElem_cons hi
    have hdw : ws.drop i = ws[i] :: ws.drop (i + 1) := List.drop_eq_getElem_cons hiw
    have hsp := hp _ (List.getElem_mem hi)
    have hsw := hw _ (List.getElem_mem hiw)
    have hpt := hpart _ (List.getElem_mem hi)
    simp only [pattern_Match_L7, pattern_Match_L7_B, brK_ite]
    rw [if_pos (by omega), listAt_nat, List.getElem?_eq_getElem hi, listAt_nat, List.getElem?_eq_getElem hiw]
    obtain ⟨t, ht, ht1, ht2⟩ := pattern_formOf_val ps[i] hsp
    simp only [bindK_some, ht]
    rw [wrap_succ (by omega), hd, hdw]
    simp only [mparts]
    cases hst : star? (bts ps[i]) with
    | none =>
      have hc : comp (bts ps[i]) = true := by
        unfold isPart at hpt
        rw [hst] at hpt
        simpa using hpt
      rw [if_pos ((form_one _).2 hc)]
      simp only [mpart, hst]
      by_cases he : ws[i] = ps[i]
      · rw [if_neg (fun h => h he), if_pos he]
        simp only [Option.bind_some, List.nil_append]
        rw [pattern_Match_loop p ps ws n hl hpl hp hpart hw k (i + 1) fuel out (by omega) (by omega) (by omega)]
        cases mparts (ps.drop (i + 1)) (ws.drop (i + 1)) <;> simp
      · rw [if_pos he, if_neg he]
        rfl
    | some s =>
      have hnc : ¬ form (bts ps[i]) = 1 := by
        intro h1
        have h2 := star_comp ((form_one _).1 h1)
        rw [hst] at h2
        cases h2
      rw [if_neg hnc]
      have hts : bts t = s := ht1 s hst
      have htsz : t.size ≤ huge := by
        rw [size_bts, hts]
        have := (star_all hst).1
        have h2 := hsp
        rw [size_bts, this] at h2
        simp at h2
        omega
      rw [pattern_capture_val _ _ hsw htsz, hts]
      simp only [bindK_some, mpart, hst]
      cases hcap : capt (bts ws[i]) s with
      | none => rfl
      | some x =>
        simp only [Bool.not_true, brK_false, Option.map_some, Option.bind_some]
        rw [fits_small (by omega) (by simp) (by omega), brK_true]
        rw [pattern_Match_loop p ps ws n hl hpl hp hpart hw k (i + 1) fuel (out ++ [ofB x]) (by omega) (by simp; omega) (by omega)]
        cases mparts (ps.drop (i + 1)) (ws.drop (i + 1)) <;> simp

theorem pathWords_small {s : ByteArray} {ws : List ByteArray} (h : pathWords s = some ws) : ws.length ≤ s.size ∧ (ws.map ByteArray.size).sum ≤ s.size ∧ ∀ w ∈ ws, ByteArray.size w ≤ s.size := by
  obtain ⟨h1, h2, h3⟩ := pathWords_some h
  unfold pathWords dirWords at h
  obtain ⟨us, hu, h⟩ := Option.bind_eq_some_iff.1 h
  split at h
  · cases h
    split at hu
    · rename_i r hr
      split at hu
      · cases hu
        have h4 := cutAt_length 47 r
        have h5 : s.size = r.length + 2 := by rw [size_bts, hr]; rfl
        have h6 : (((cutAt 47 r).map ofB).map ByteArray.size).sum ≤ s.size := by
          rw [List.map_map]
          have : (cutAt 47 r).map (ByteArray.size ∘ ofB) = (cutAt 47 r).map List.length := List.map_congr_left fun x _ => size_ofB x
          rw [this]
          omega
        refine ⟨by rw [List.length_map]; omega, h6, fun w hw => ?_⟩
        have := sum_mem ByteArray.size hw
        omega
      · cases hu
    · cases hu
  · cases h

theorem pattern_Match_val (p : Pat) (s : ByteArray) (hp : SmallP p) (hs : s.size ≤ huge) : pattern_Match (p, s) = some (matchR p s) := by
  have hbig : big = 1048576 := rfl
  have hh : huge = 1073741824 := rfl
  unfold pattern_Match matchR
  simp only
  rw [path_Split_val s hs, pattern_Check_val p hp]
  cases hw : pathWords s with
  | none => rfl
  | some ws =>
    simp only [bindK_some, Option.bind_some, brK_ite]
    rw [if_neg (by decide)]
    unfold mwords
    by_cases h0 : patErr p = 0
    · rw [if_neg (fun h => h h0)]
      obtain ⟨hwl, hws, hww⟩ := pathWords_small hw
      obtain ⟨h1, h2, h3, h4⟩ := patErr_zero.1 h0
      have hlen : lenOK p ws.length = true ↔ (¬ ((ws.length : Int) < p.1.length) ∧ (!(decide ((ws.length : Int) > p.1.length) == p.2)) = false) := by
        unfold lenOK
        cases p.2 with
        | true =>
          simp only [if_true, decide_eq_true_eq, Bool.not_eq_false', beq_iff_eq]
          omega
        | false =>
          simp only [Bool.false_eq_true, if_false, decide_eq_true_eq, Bool.not_eq_false', beq_iff_eq, decide_eq_false_iff_not]
          omega
      by_cases hl : lenOK p ws.length = true
      · obtain ⟨h5, h6⟩ := hlen.1 hl
        rw [if_neg h5, h6, brK_false, if_pos ⟨h0, hl⟩]
        have hpl : p.1.length ≤ ws.length := by omega
        have hloop := pattern_Match_loop p p.1 ws p.1.length h4 hpl hp.part (shapeOK_parts h3) (fun w hw' => by have := hww w hw'; omega) p.1.length 0
          (List.length p.1 + List.length ws + Int.natAbs (p.1.length : Int) + List.length ([] : List ByteArray) + List.length p.1 + Int.natAbs (p.1.length : Int) + Int.natAbs 0 + 1000) [] (by omega) (by simp) (by omega)
        rw [show ((0 : Nat) : Int) = 0 from rfl] at hloop
        unfold pattern_Match_L7_f
        rw [hloop, List.drop_zero, List.drop_zero]
        cases hm : mparts p.1 ws with
        | none => rfl
        | some cs =>
          simp only [bindK_some, sumK_inl, Option.map_some, List.nil_append]
          have hcl := (mparts_length hm).2
          have hst := stars_le p.1
          unfold capList
          cases hr : p.2 with
          | false => simp
          | true =>
            simp only [brK_true, if_true, brK_ite]
            rw [if_pos ⟨by omega, by omega, by omega⟩]
            have e1 : List.take (Int.toNat (ws.length : Int)) ws = ws := by rw [Int.toNat_natCast, List.take_length]
            rw [e1, Int.toNat_natCast]
            unfold strings_Join
            simp only
            have hdsum : ((ws.drop p.1.length).map ByteArray.size).sum ≤ (ws.map ByteArray.size).sum := by
              conv => rhs; rw [← List.take_append_drop p.1.length ws]
              rw [List.map_append, List.sum_append]
              omega
            rw [joinF_val _ _ (by rw [List.length_drop]; omega) (by omega), bindK_some, fits_small (by omega) (by simp) (by omega), brK_true]
      · rw [if_neg (show ¬ (patErr p = 0 ∧ lenOK p ws.length = true) from fun h => hl h.2)]
        by_cases h5 : (ws.length : Int) < p.1.length
        · rw [if_pos h5]
        · rw [if_neg h5]
          have h6 : (!(decide ((ws.length : Int) > p.1.length) == p.2)) = true := by
            cases h7 : (!(decide ((ws.length : Int) > p.1.length) == p.2)) with
            | true => rfl
            | false => exact absurd (hlen.2 ⟨h5, h7⟩) hl
          rw [h6, brK_true]
    · rw [if_pos h0, if_neg (fun h => h0 h.1)]
end Go.Proofs.YtcmfkmhmehhkpaaDoor

set_option linter.unusedSimpArgs false
set_option linter.unusedVariables false
set_option maxRecDepth 100000
namespace Go.Proofs.YtcmfkmhmehhkpaaDoor
open Go Go.Ai
/-! ### The reference's match -/
/-! ### Join and Fill -/
theorem root_join (ws : List ByteArray) : (ByteArray.mk #[47, 47]) ++ ofB (joinAt 47 (ws.map bts)) = pathText ws := by
  apply bts_inj
  unfold pathText
  rw [bts_append, bts_ofB, bts_ofB]
  rfl
theorem size_join_le (ws : List ByteArray) : (ofB (joinAt 47 (ws.map bts))).size ≤ ssz ws + ws.length := by
  rw [size_ofB]
  have := joinAt_length 47 (ws.map bts)
  have e : (ws.map bts).map List.length = ws.map ByteArray.size := by
    rw [List.map_map]; exact List.map_congr_left fun x _ => (size_bts x).symm
  rw [e, List.length_map] at this
  unfold ssz
  omega

theorem path_Join_val (ws : List ByteArray) (h1 : ws.length ≤ 34359738368) (h2 : ssz ws ≤ 34359738368) : path_Join ws = some (if 2 ≤ ws.length ∧ ws.all compB = true then (pathText ws, 0) else (⟨#[]⟩, 21)) := by
  unfold path_Join
  rw [brK_ite]
  by_cases hl : 2 ≤ ws.length
  · rw [if_neg (by omega)]
    unfold path_Join_L4_f
    have := all_loop (F := path_Join_L4) (B := path_Join_L4_B) (fun _ _ => rfl) ws (fun i => (ws, ws, (ws.length : Int), (i : Int))) compB (.inr (.inl (⟨#[]⟩, 21))) (.inl ws)
      (fun rec i h => by
        simp only [path_Join_L4_B, brK_ite]
        rw [if_pos (by omega), listAt_nat, List.getElem?_eq_getElem h]
        simp only [bindK_some, path_Component_val _ (show ByteArray.size ws[i] ≤ 4611686018427387904 from by have := ssz_mem (List.getElem_mem h); omega)]
        rw [wrap_succ (by omega)]
        show brK (!compB ws[i]) _ _ = _
        cases compB ws[i] <;> rfl)
      (fun rec => by
        simp only [path_Join_L4_B, brK_ite]
        rw [if_neg (by omega)]) ws.length 0 (List.length ws + List.length ws + Int.natAbs (ws.length : Int) + Int.natAbs 0 + 1000) (by omega) (by omega)
    rw [show ((0 : Nat) : Int) = 0 from rfl, List.drop_zero] at this
    rw [this]
    cases hc : ws.all compB with
    | false => simp
    | true =>
      simp only [if_true, bindK_some, sumK_inl, and_true]
      unfold strings_Join
      simp only
      have hj := size_join_le ws
      rw [joinF_val _ _ (by omega) (by unfold ssz at h2; omega), bindK_some, brK_ite, if_pos (by
        have : (ByteArray.mk #[47, 47]).size = 2 := rfl
        omega), root_join, if_pos hl]
  · rw [if_pos (by omega), if_neg (fun h => hl h.1)]
end Go.Proofs.YtcmfkmhmehhkpaaDoor

set_option linter.unusedSimpArgs false
set_option linter.unusedVariables false
set_option maxRecDepth 100000
namespace Go.Proofs.YtcmfkmhmehhkpaaDoor
open Go Go.Ai
/-! ### Two patterns -/
theorem narrower_val (a b : ByteArray) (ha : a.size ≤ big) (hb : b.size ≤ big) (pa : isPart (bts a) = true) (pb : isPart (bts b) = true) : ∃ v, pattern_narrower (a, b) = some (v, (narrow a b).isSome) ∧ ∀ c, narrow a b = some c → v = c := by
  have hbig : big = 1048576 := rfl
  have hh : huge = 1073741824 := rfl
  obtain ⟨s, h1, h2, h3⟩ := pattern_formOf_val a ha
  obtain ⟨t, h4, h5, h6⟩ := pattern_formOf_val b hb
  unfold pattern_narrower
  simp only
  rw [h1, h4]
  simp only [bindK_some, brK_ite]
  cases hsa : star? (bts a) with
  | none =>
    have ca := isPart_lit pa hsa
    have fa : form (bts a) = 1 := (form_one _).2 ca
    rw [if_pos fa]
    cases hsb : star? (bts b) with
    | none =>
      have cb := isPart_lit pb hsb
      have fb : form (bts b) = 1 := (form_one _).2 cb
      rw [if_pos fb]
      have i1 : pInside a b = decide (a = b) := by simp [pInside, hsb]
      have i2 : pInside b a = decide (b = a) := by simp [pInside, hsa]
      unfold narrow
      rw [i1, i2]
      by_cases e : a = b
      · subst e; exact ⟨a, by simp⟩
      · have e' : ¬ b = a := fun h => e h.symm
        simp [e, e']
    | some t' =>
      have fb : ¬ form (bts b) = 1 := fun h => by have := star_comp ((form_one _).1 h); rw [hsb] at this; cases this
      have ht := h5 t' hsb
      have htl := star_size hsb
      rw [if_neg fb, if_pos fa, pattern_capture_val _ _ (by omega) (by rw [size_bts, ht]; omega), ht, bindK_some]
      have i1 : pInside a b = (capt (bts a) t').isSome := by simp [pInside, hsb, hsa]
      have i2 : pInside b a = false := by
        simp only [pInside, hsa, decide_eq_false_iff_not]
        intro e; subst e; rw [hsa] at hsb; cases hsb
      unfold narrow
      rw [i1, i2]
      cases capt (bts a) t' <;> simp
  | some s' =>
    have fa : ¬ form (bts a) = 1 := fun h => by have := star_comp ((form_one _).1 h); rw [hsa] at this; cases this
    have hs := h2 s' hsa
    have hsl := star_size hsa
    rw [if_neg fa]
    cases hsb : star? (bts b) with
    | none =>
      have cb := isPart_lit pb hsb
      have fb : form (bts b) = 1 := (form_one _).2 cb
      rw [if_neg fa, if_pos fb, pattern_capture_val _ _ (by omega) (by rw [size_bts, hs]; omega), hs, bindK_some]
      have i1 : pInside a b = false := by
        simp only [pInside, hsb, decide_eq_false_iff_not]
        intro e; subst e; rw [hsa] at hsb; cases hsb
      have i2 : pInside b a = (capt (bts b) s').isSome := by simp [pInside, hsa, hsb]
      unfold narrow
      rw [i1, i2]
      cases capt (bts b) s' <;> simp
    | some t' =>
      have fb : ¬ form (bts b) = 1 := fun h => by have := star_comp ((form_one _).1 h); rw [hsb] at this; cases this
      have ht := h5 t' hsb
      have htl := star_size hsb
      rw [if_neg fa, if_neg fb, HasSuffix_val _ (by show s.size ≤ huge; rw [size_bts, hs]; omega) (by show t.size ≤ huge; rw [size_bts, ht]; omega), HasSuffix_val _ (by show t.size ≤ huge; rw [size_bts, ht]; omega) (by show s.size ≤ huge; rw [size_bts, hs]; omega)]
      simp only [bindK_some, hs, ht]
      have i1 : pInside a b = decide (t' <:+ s') := by simp [pInside, hsa, hsb]
      have i2 : pInside b a = decide (s' <:+ t') := by simp [pInside, hsa, hsb]
      unfold narrow
      rw [i1, i2]
      by_cases e : t' <:+ s'
      · simp [e]
      · by_cases e2 : s' <:+ t' <;> simp [e, e2]

theorem pattern_Meet_loop (q z : Pat) (n : Int) (ps : List ByteArray) (hl : ps.length ≤ 12) (hq : ps.length ≤ q.1.length) (hp : ∀ s ∈ ps, ByteArray.size s ≤ big) (hqs : ∀ s ∈ q.1, ByteArray.size s ≤ big) (pp : ∀ s ∈ ps, isPart (bts s) = true) (pq : ∀ s ∈ q.1, isPart (bts s) = true) :
    ∀ (k i fuel : Nat) (out : List ByteArray), i + k = ps.length → out.length ≤ i → k < fuel →
    pattern_Meet_L12 fuel (q, z, n, out, ps, (ps.length : Int), (i : Int)) = some (match meetL (ps.drop i) (q.1.drop i) with | some r => .inl (q, z, n, out ++ r) | none => .inr (.inl (([], false), false)))
  | 0, i, fuel + 1, out, h, ho, _ => by
    have hd : ps.drop i = [] := List.drop_eq_nil_of_le (by omega)
    simp only [pattern_Meet_L12, pattern_Meet_L12_B, brK_ite]
    rw [if_neg (by omega), hd]
    simp [meetL]
  | k + 1, i, fuel + 1, out, h, ho, hf => by
    have hbig : big = 1048576 := rfl
    have hi : i < ps.length := by omega
    have hiq : i < q.1.length := by omega
    have hd : ps.drop i = ps[i] :: ps.drop (i + 1) := List.drop_eq_getElem_cons hi
    have hdq : q.1.drop i = q.1[i] :: q.1.drop (i + 1) := List.drop_eq_getElem_cons hiq
    obtain ⟨v, hv, hv'⟩ := narrower_val ps[i] q.1[i] (hp _ (List.getElem_mem hi)) (hqs _ (List.getElem_mem hiq)) (pp _ (List.getElem_mem hi)) (pq _ (List.getElem_mem hiq))
    simp only [pattern_Meet_L12, pattern_Meet_L12_B, brK_ite]
    rw [if_pos (by omega), listAt_nat, List.getElem?_eq_getElem hi, listAt_nat, List.getElem?_eq_getElem hiq]
    simp only [bindK_some, hv]
    rw [wrap_succ (by omega), hd, hdq]
    simp only [meetL]
    cases hn : narrow ps[i] q.1[i] with
    | none => rfl
    | some c =>
      rw [hv' c hn]
      simp only [Option.isSome_some, Bool.not_true, brK_false, Option.bind_some]
      rw [fits_ok (by omega) (by simp) (by omega), brK_true, pattern_Meet_loop q z n ps hl hq hp hqs pp pq k (i + 1) fuel _ (by omega) (by simp; omega) (by omega)]
      cases meetL (ps.drop (i + 1)) (q.1.drop (i + 1)) <;> simp

/-- What programs give for a meeting. -/
def meetR (o : Option Pat) : Pat × Bool := match o with | some m => (m, true) | none => (([], false), false)

theorem pattern_Meet_tail (p q : Pat) (hp : SmallP p) (hq : SmallP q) (ep : patErr p = 0) (eq : patErr q = 0) (hle : p.1.length ≤ q.1.length) :
    (bindK (pattern_Meet_L12_f (q, (([] : List ByteArray), false), (p.1.length : Int), (List.replicate (Int.toNat 0) (ByteArray.mk #[])), p.1, (p.1.length : Int), 0)) fun o1003 =>
      sumK o1003 (fun y1004 =>
      brK (decide (0 ≤ (y1004.2.2.1 : Int) ∧ (y1004.2.2.1 : Int) ≤ (y1004.2.2.2.length : Int) ∧ (y1004.2.2.1 : Int) = y1004.2.2.1))
      (brK (decide (0 ≤ (y1004.2.2.1 : Int) ∧ (y1004.2.2.1 : Int) ≤ (y1004.1.1.length : Int) ∧ (y1004.1.1.length : Int) ≤ (y1004.1.1.length : Int)))
      (brK (fits (List.length (List.take (Int.toNat y1004.2.2.1) y1004.2.2.2)) (List.length (List.drop (Int.toNat y1004.2.2.1) (List.take (Int.toNat (y1004.1.1.length : Int)) y1004.1.1))) 16)
      (some ((((List.take (Int.toNat y1004.2.2.1) y1004.2.2.2) ++ (List.drop (Int.toNat y1004.2.2.1) (List.take (Int.toNat (y1004.1.1.length : Int)) y1004.1.1))), y1004.1.2), true))
      (none))
      (none))
      (none))
      (fun z1005 => sumK z1005 (fun y1006 => some y1006) (fun z1007 => emptyK z1007))) = some (meetR ((meetL p.1 q.1).map fun l => (l ++ q.1.drop p.1.length, q.2))) := by
  have hbig : big = 1048576 := rfl
  obtain ⟨_, _, sp, lp⟩ := patErr_zero.1 ep
  obtain ⟨_, _, sq, lq⟩ := patErr_zero.1 eq
  unfold pattern_Meet_L12_f
  have hloop := pattern_Meet_loop q ([], false) p.1.length p.1 lp hle hp.part hq.part (shapeOK_parts sp) (shapeOK_parts sq) p.1.length 0
    (List.length q.1 + List.length ([] : List ByteArray) + Int.natAbs (p.1.length : Int) + List.length (List.replicate (Int.toNat 0) (ByteArray.mk #[])) + List.length p.1 + Int.natAbs (p.1.length : Int) + Int.natAbs 0 + 1000) (List.replicate (Int.toNat 0) (ByteArray.mk #[])) (by omega) (by simp) (by omega)
  rw [show ((0 : Nat) : Int) = 0 from rfl, List.drop_zero, List.drop_zero] at hloop
  rw [hloop]
  cases hm : meetL p.1 q.1 with
  | none => rfl
  | some r =>
    have hr := (meetL_length hm).1
    have e0 : List.replicate (Int.toNat 0) (ByteArray.mk #[]) ++ r = r := by simp
    simp only [bindK_some, sumK_inl, e0, brK_ite, Int.toNat_natCast, List.take_length]
    rw [if_pos ⟨by omega, by omega, trivial⟩, if_pos ⟨by omega, by omega, by omega⟩, fits_ok (by rw [List.length_take]; omega) (by rw [List.length_drop]; omega) (by omega), brK_true, List.take_of_length_le (by omega)]
    rfl

theorem pattern_Meet_val (p q : Pat) (hp : SmallP p) (hq : SmallP q) : pattern_Meet (p, q) = some (meetR (meetP p q)) := by
  have hbig : big = 1048576 := rfl
  have lp := hp.len
  have lq := hq.len
  unfold pattern_Meet
  simp only
  rw [pattern_Check_val p hp, pattern_Check_val q hq]
  simp only [bindK_some]
  unfold meetP
  by_cases ep : patErr p = 0
  case neg => rw [brK_ite, if_pos ep, if_pos (Or.inl ep)]; rfl
  by_cases eq : patErr q = 0
  case neg => rw [brK_ite, if_neg (fun h => h ep), brK_ite, if_pos eq, if_pos (Or.inr eq)]; rfl
  have hz : (0 : Int) ≤ 0 := by omega
  rw [if_neg (by rintro (h | h) <;> contradiction)]
  by_cases hgt : q.1.length < p.1.length
  · have tail := pattern_Meet_tail q p hq hp eq ep (by omega)
    rw [if_pos hgt]
    have c1 : (p.1.length : Int) > q.1.length := by omega
    have c2 : (q.1.length : Int) < p.1.length := by omega
    have c3 : ¬ (q.1.length : Int) = p.1.length := by omega
    have c4 : (0 : Int) ≤ 0 ∧ (0 : Int) ≤ (p.1.length : Int) ∧ ((16 : Nat) : Int) * (p.1.length : Int) ≤ 281474976710656 ∧ ((p.1.length : Int) : Int) ≤ 9223372036854775807 := ⟨by omega, by omega, by omega, by omega⟩
    simp only [brK_ite, ep, eq, ne_eq, not_true_eq_false, if_false, c1, if_true, c2, c3, c4, and_self]
    simp only [brK_ite] at tail
    unfold meetS
    cases hr : q.2 with
    | false => simp only [Bool.not_false, brK_true]; rw [if_pos ⟨hgt, trivial⟩]; rfl
    | true =>
      simp only [Bool.not_true, brK_false]
      rw [if_neg (by simp), if_neg (by intro h; omega)]
      exact tail
  · rw [if_neg hgt]
    have tail := pattern_Meet_tail p q hp hq ep eq (by omega)
    have c1 : ¬ (p.1.length : Int) > q.1.length := by omega
    have c4 : (0 : Int) ≤ 0 ∧ (0 : Int) ≤ (q.1.length : Int) ∧ ((16 : Nat) : Int) * (q.1.length : Int) ≤ 281474976710656 ∧ ((q.1.length : Int) : Int) ≤ 9223372036854775807 := ⟨by omega, by omega, by omega, by omega⟩
    unfold meetS
    by_cases hlt : p.1.length < q.1.length
    · have c2 : (p.1.length : Int) < q.1.length := by omega
      have c3 : ¬ (p.1.length : Int) = q.1.length := by omega
      simp only [brK_ite, ep, eq, ne_eq, not_true_eq_false, if_false, c1, if_true, c2, c3, c4, and_self]
      simp only [brK_ite] at tail
      cases hr : p.2 with
      | false => simp only [Bool.not_false, brK_true]; rw [if_pos ⟨hlt, trivial⟩]; rfl
      | true =>
        simp only [Bool.not_true, brK_false]
        rw [if_neg (by simp), if_neg (by intro h; omega)]
        exact tail
    · have he : p.1.length = q.1.length := by omega
      have c2 : ¬ (p.1.length : Int) < q.1.length := by omega
      have c3 : (p.1.length : Int) = q.1.length := by omega
      simp only [brK_ite, ep, eq, ne_eq, not_true_eq_false, if_false, c1, if_true, c2, c4, and_self]
      rw [if_pos c3]
      simp only [brK_ite] at tail
      rw [if_neg (by rintro ⟨h, _⟩; omega)]
      by_cases hr : p.2 = q.2
      · have hb : (!(p.2 == q.2)) = false := by rw [hr]; simp
        rw [if_neg (by rintro ⟨_, h⟩; exact h hr)]
        first | rw [hb, brK_false] | skip
        exact tail
      · rw [if_pos ⟨he, hr⟩]
        have : (!(p.2 == q.2)) = true := by
          cases h1 : p.2 <;> cases h2 : q.2 <;> simp [h1, h2] at hr ⊢
        rw [this, brK_true]
        rfl

theorem pattern_Within_loop (m : Pat) (ps : List ByteArray) (hl : ps.length ≤ big) (hm : m.1.length = ps.length) : ∀ (k i fuel : Nat), i + k = ps.length → k < fuel →
    pattern_Within_L5 fuel (m, ps, (ps.length : Int), (i : Int)) = some (if m.1.drop i = ps.drop i then .inl () else .inr (.inl false))
  | 0, i, fuel + 1, h, _ => by
    simp only [pattern_Within_L5, pattern_Within_L5_B, brK_ite]
    rw [if_neg (by omega), List.drop_eq_nil_of_le (by omega), List.drop_eq_nil_of_le (by omega), if_pos rfl]
  | k + 1, i, fuel + 1, h, hf => by
    have hbig : big = 1048576 := rfl
    have hi : i < ps.length := by omega
    have him : i < m.1.length := by omega
    simp only [pattern_Within_L5, pattern_Within_L5_B, brK_ite]
    rw [if_pos (by omega), listAt_nat, List.getElem?_eq_getElem hi, listAt_nat, List.getElem?_eq_getElem him]
    simp only [bindK_some]
    rw [wrap_succ (by omega), pattern_Within_loop m ps hl hm k (i + 1) fuel (by omega) (by omega), List.drop_eq_getElem_cons hi, List.drop_eq_getElem_cons him]
    by_cases he : m.1[i] = ps[i]
    · rw [if_neg (fun h => h he), he]
      by_cases h2 : m.1.drop (i + 1) = ps.drop (i + 1)
      · rw [if_pos h2, if_pos (by rw [h2])]
      · rw [if_neg h2, if_neg (fun h => h2 (by injection h))]
    · rw [if_pos he, if_neg (fun h => he (by injection h))]

theorem pattern_Within_val (p q : Pat) (hp : SmallP p) (hq : SmallP q) : pattern_Within (p, q) = some (withinP p q) := by
  have hbig : big = 1048576 := rfl
  have lp := hp.len
  unfold pattern_Within withinP
  rw [pattern_Meet_val p q hp hq]
  cases hm : meetP p q with
  | none => rfl
  | some m =>
    simp only [bindK_some, meetR, Bool.not_true, brK_false, brK_ite, Option.some.injEq]
    by_cases hr : m.2 = p.2
    case neg =>
      have : (!(m.2 == p.2)) = true := by
        cases h1 : m.2 <;> cases h2 : p.2 <;> simp [h1, h2] at hr ⊢
      rw [this, brK_true]
      congr 1
      symm
      apply decide_eq_false
      intro h; exact hr (by rw [h])
    have : (!(m.2 == p.2)) = false := by rw [hr]; simp
    rw [this, brK_false]
    by_cases hl : m.1.length = p.1.length
    case neg =>
      rw [if_pos (by omega)]
      congr 1
      symm
      apply decide_eq_false
      intro h; exact hl (by rw [h])
    rw [if_neg (by omega)]
    unfold pattern_Within_L5_f
    have hloop := pattern_Within_loop m p.1 lp hl p.1.length 0 (List.length m.1 + List.length p.1 + Int.natAbs (p.1.length : Int) + Int.natAbs 0 + 1000) (by omega) (by omega)
    rw [show ((0 : Nat) : Int) = 0 from rfl, List.drop_zero, List.drop_zero] at hloop
    rw [hloop]
    by_cases he : m.1 = p.1
    · rw [if_pos he]
      have : m = p := Prod.ext he hr
      simp [this]
    · rw [if_neg he]
      have : ¬ m = p := fun h => he (by rw [h])
      simp [this]

/-! ### Holes -/
theorem holes_Long_val (p : Pat) (n : Nat) : holes_Long (p, (n : Int)) = some (lenOK p n) := by
  unfold holes_Long lenOK
  simp only [brK_ite]
  cases p.2 with
  | true =>
    by_cases h : (n : Int) = p.1.length
    · rw [if_pos h, if_neg (by omega)]
      simp; omega
    · rw [if_neg h]
      by_cases h2 : (n : Int) > p.1.length
      · rw [if_pos h2]; simp; omega
      · rw [if_neg h2]; simp; omega
  | false =>
    by_cases h : (n : Int) = p.1.length
    · rw [if_pos h]; simp; omega
    · rw [if_neg h]
      by_cases h2 : (n : Int) > p.1.length
      · rw [if_pos h2]; simp; omega
      · rw [if_neg h2]; simp; omega
theorem holes_Part_val (p : Pat) (i : Nat) : holes_Part (p, (i : Int)) = some (ptAt p i) := by
  unfold holes_Part ptAt
  simp only [brK_ite]
  by_cases h : i < p.1.length
  · rw [if_pos (by omega), listAt_nat, List.getElem?_eq_getElem h]
    rfl
  · rw [if_neg (by omega), List.getElem?_eq_none (by omega)]
    rfl
theorem smallP_two {s : ByteArray} (h : s.size ≤ big) : SmallP ([ByteArray.mk #[97], s], false) :=
  ⟨by show 2 ≤ big; decide, fun x hx => by
    rcases List.mem_cons.1 hx with rfl | hx
    · show 1 ≤ big; decide
    · simp at hx; subst hx; exact h⟩
theorem holes_Inside_val (s t : ByteArray) (hs : s.size ≤ big) (ht : t.size ≤ big) (ps : isPart (bts s) = true) (pt : isPart (bts t) = true) : holes_Inside (s, t) = some (pInside s t) := by
  unfold holes_Inside
  simp only
  rw [pattern_Within_val _ _ (smallP_two hs) (smallP_two ht), bindK_some, within_two ps pt]
theorem ptAt_size {p : Pat} (h : SmallP p) (i : Nat) : (ptAt p i).size ≤ big := by
  unfold ptAt
  cases hi : p.1[i]? with
  | none => show 1 ≤ big; decide
  | some x => exact h.part x (List.mem_of_getElem? hi)
theorem holes_Covers_loop (n : Nat) (h base : Pat) (hh : SmallP h) (hb : SmallP base) (eh : patErr h = 0) (eb : patErr base = 0) (hn : n ≤ big) : ∀ (k i fuel : Nat), i + k = n → k < fuel →
    holes_Covers_L4 fuel ((n : Int), h, base, (i : Int)) = some (if covA h base i k = true then .inl () else .inr (.inl false))
  | 0, i, fuel + 1, hk, _ => by
    simp only [holes_Covers_L4, holes_Covers_L4_B, brK_ite]
    rw [if_neg (by omega)]
    rfl
  | k + 1, i, fuel + 1, hk, hf => by
    have hbig : big = 1048576 := rfl
    simp only [holes_Covers_L4, holes_Covers_L4_B, brK_ite]
    rw [if_pos (by omega), holes_Part_val, holes_Part_val]
    simp only [bindK_some]
    rw [holes_Inside_val _ _ (ptAt_size hb i) (ptAt_size hh i) (ptAt_part eb i) (ptAt_part eh i), bindK_some, wrap_succ (by omega), holes_Covers_loop n h base hh hb eh eb hn k (i + 1) fuel (by omega) (by omega), covA]
    cases pInside (ptAt base i) (ptAt h i) <;> simp
theorem holes_Covers_val (h base : Pat) (n i : Nat) (hh : SmallP h) (hb : SmallP base) (eh : patErr h = 0) (eb : patErr base = 0) (hn : n ≤ big) (hi : i ≤ n) : holes_Covers (h, base, (n : Int), (i : Int)) = some (covers h base n i) := by
  have hbig : big = 1048576 := rfl
  unfold holes_Covers covers
  simp only
  rw [holes_Long_val, bindK_some]
  cases lenOK h n with
  | false => rfl
  | true =>
    simp only [Bool.not_true, brK_false, Bool.true_and]
    unfold holes_Covers_L4_f
    rw [holes_Covers_loop n h base hh hb eh eb hn (n - i) i _ (by omega) (by omega)]
    cases covA h base i (n - i) <;> rfl
end Go.Proofs.YtcmfkmhmehhkpaaDoor

set_option linter.unusedSimpArgs false
set_option linter.unusedVariables false
set_option maxRecDepth 100000
namespace Go.Proofs.YtcmfkmhmehhkpaaDoor
open Go Go.Ai
/-! ### Regions -/
structure SmallG (g : Reg) : Prop where
  base : SmallP g.1
  hole : ∀ h ∈ g.2, SmallP h
  len : g.2.length ≤ big
/-- All its patterns are. -/
def okG (g : Reg) : Prop := patErr g.1 = 0 ∧ ∀ h ∈ g.2, patErr h = 0

theorem holes_Length_1_val (g : Reg) (h : Pat) (n : Nat) (sg : SmallG g) (sh : SmallP h) (eg : patErr g.1 = 0) (eh : patErr h = 0) (hn : n ≤ big) : holes_Length_1 (h, (g.1.1, g.1.2, g.2), (n : Int)) = some (covers h g.1 n 0) := by
  unfold holes_Length_1
  simp only
  have := holes_Covers_val h g.1 n 0 sh sg.base eh eg hn (by omega)
  rw [show ((0 : Nat) : Int) = 0 from rfl] at this
  rw [this]
  rfl

theorem ContainsFunc_Length_val (g : Reg) (n : Nat) (sg : SmallG g) (og : okG g) (hn : n ≤ big) : slices_ContainsFunc__holes_Length_1 (g.2, (g.1.1, g.1.2, g.2), (n : Int)) = some (fullB g n) := by
  have hbig : big = 1048576 := rfl
  have hl := sg.len
  unfold slices_ContainsFunc__holes_Length_1 slices_IndexFunc__holes_Length_1 slices_IndexFunc__holes_Length_1_L2_f
  simp only
  have := idx_loop (F := slices_IndexFunc__holes_Length_1_L2) (B := slices_IndexFunc__holes_Length_1_L2_B) (fun _ _ => rfl) g.2 (fun i => (g.2, ((g.1.1, g.1.2, g.2), (n : Int)), (g.2.length : Int), (i : Int))) (fun h => covers h g.1 n 0) (fun i => .inr (.inl (i : Int))) (.inl ())
    (fun rec i h => by
      simp only [slices_IndexFunc__holes_Length_1_L2_B, brK_ite]
      rw [if_pos (by omega), listAt_nat, List.getElem?_eq_getElem h]
      simp only [bindK_some, holes_Length_1_val g _ n sg (sg.hole _ (List.getElem_mem h)) og.1 (og.2 _ (List.getElem_mem h)) hn]
      rw [wrap_succ (by omega)]
      cases covers g.2[i] g.1 n 0 <;> rfl)
    (fun rec => by
      simp only [slices_IndexFunc__holes_Length_1_L2_B, brK_ite]
      rw [if_neg (by omega)]) g.2.length 0 (List.length g.2 + List.length g.1.1 + List.length g.2 + Int.natAbs (n : Int) + Int.natAbs (g.2.length : Int) + Int.natAbs 0 + 1000) (by omega) (by omega)
  rw [show ((0 : Nat) : Int) = 0 from rfl, List.drop_zero] at this
  unfold fullB
  rcases this with ⟨j, h1, h2, _⟩ | ⟨h1, h2⟩
  · rw [h1, h2]
    simp only [bindK_some, sumK_inr, sumK_inl]
    rw [decide_eq_true (by omega)]
  · rw [h1, h2]
    rfl

theorem holes_Length_L3_loop (g : Reg) (hs : List Pat) (hl : hs.length ≤ big) (hp : ∀ h ∈ hs, h.1.length ≤ big) : ∀ (k i fuel m : Nat), i + k = hs.length → k < fuel →
    holes_Length_L3 fuel ((g.1.1, g.1.2, g.2), (m : Int), hs, (hs.length : Int), (i : Int)) = some (.inl ((g.1.1, g.1.2, g.2), (((hs.drop i).foldl (fun m h => max m h.1.length) m : Nat) : Int)))
  | 0, i, fuel + 1, m, h, _ => by
    have hd : hs.drop i = [] := List.drop_eq_nil_of_le (by omega)
    simp only [holes_Length_L3, holes_Length_L3_B, brK_ite]
    rw [if_neg (by omega), hd]
    rfl
  | k + 1, i, fuel + 1, m, h, hf => by
    have hbig : big = 1048576 := rfl
    have hi : i < hs.length := by omega
    simp only [holes_Length_L3, holes_Length_L3_B, brK_ite]
    rw [if_pos (by omega), listAt_nat, List.getElem?_eq_getElem hi]
    simp only [bindK_some]
    rw [wrap_succ (by omega), show max (m : Int) (hs[i].1.length : Int) = ((max m hs[i].1.length : Nat) : Int) by omega, holes_Length_L3_loop g hs hl hp k (i + 1) fuel _ (by omega) (by omega), List.drop_eq_getElem_cons hi]
    rfl

theorem mostOf_le (g : Reg) (sg : SmallG g) : mostOf g ≤ big := by
  have : ∀ (l : List Pat) (m : Nat), m ≤ big → (∀ h ∈ l, h.1.length ≤ big) → l.foldl (fun m h => max m h.1.length) m ≤ big := by
    intro l
    induction l with
    | nil => intro m hm _; exact hm
    | cons h l ih =>
      intro m hm hl
      exact ih _ (Nat.max_le.2 ⟨hm, hl h (by simp)⟩) fun x hx => hl x (by simp [hx])
  exact this g.2 _ sg.base.len fun h hh => (sg.hole h hh).len
theorem mostOf_ok (g : Reg) (og : okG g) : mostOf g ≤ 12 := by
  have : ∀ (l : List Pat) (m : Nat), m ≤ 12 → (∀ h ∈ l, h.1.length ≤ 12) → l.foldl (fun m h => max m h.1.length) m ≤ 12 := by
    intro l
    induction l with
    | nil => intro m hm _; exact hm
    | cons h l ih =>
      intro m hm hl
      exact ih _ (Nat.max_le.2 ⟨hm, hl h (by simp)⟩) fun x hx => hl x (by simp [hx])
  exact this g.2 _ (patErr_zero.1 og.1).2.2.2 fun h hh => (patErr_zero.1 (og.2 h hh)).2.2.2

theorem holes_Length_L8_loop (g : Reg) (sg : SmallG g) (og : okG g) : ∀ (k n fuel : Nat), n + k = mostOf g + 2 → k < fuel →
    holes_Length_L8 fuel ((g.1.1, g.1.2, g.2), (mostOf g : Int), (n : Int)) = some (match lenFrom g k n with | some m => .inr (.inl ((m : Int), true)) | none => .inl ())
  | 0, n, fuel + 1, h, _ => by
    have hm := mostOf_ok g og
    simp only [holes_Length_L8, holes_Length_L8_B, brK_ite]
    rw [wrap_succ (by omega), if_neg (by omega)]
    rfl
  | k + 1, n, fuel + 1, h, hf => by
    have hbig : big = 1048576 := rfl
    have hm := mostOf_ok g og
    simp only [holes_Length_L8, holes_Length_L8_B, brK_ite]
    rw [wrap_succ (by omega), if_pos (by omega), holes_Long_val g.1 n, bindK_some, ContainsFunc_Length_val g n sg og (by omega), bindK_some, wrap_succ (by omega), holes_Length_L8_loop g sg og k (n + 1) fuel (by omega) (by omega)]
    simp only [lenFrom]
    cases lenOK g.1 n <;> cases fullB g n <;> simp

theorem holes_Length_val (g : Reg) (sg : SmallG g) (og : okG g) : holes_Length g = some (match lengthG g with | some n => ((n : Int), true) | none => (0, false)) := by
  have hbig : big = 1048576 := rfl
  have hl := sg.len
  have hm := mostOf_ok g og
  have hb := mostOf_base g
  unfold holes_Length holes_Length_L3_f
  have h3 := holes_Length_L3_loop g g.2 sg.len (fun h hh => (sg.hole h hh).len) g.2.length 0 (List.length g.1.1 + List.length g.2 + Int.natAbs (g.1.1.length : Int) + List.length g.2 + Int.natAbs (g.2.length : Int) + Int.natAbs 0 + 1000) g.1.1.length (by omega) (by omega)
  rw [show ((0 : Nat) : Int) = 0 from rfl, List.drop_zero] at h3
  rw [h3]
  simp only [bindK_some, sumK_inl]
  have e : ((g.2.foldl (fun m h => max m h.1.length) g.1.1.length : Nat) : Int) = (mostOf g : Int) := rfl
  rw [e]
  unfold holes_Length_L8_f
  rw [holes_Length_L8_loop g sg og (mostOf g + 2 - g.1.1.length) g.1.1.length _ (by omega) (by show _ < List.length g.1.1 + List.length g.2 + Int.natAbs (mostOf g : Int) + Int.natAbs (g.1.1.length : Int) + 1000; omega)]
  unfold lengthG
  cases lenFrom g (mostOf g + 2 - g.1.1.length) g.1.1.length <;> rfl

theorem region_Check_val (g : Reg) (sg : SmallG g) : region_Check g = some (regErr g) := by
  have hbig : big = 1048576 := rfl
  have hl := sg.len
  unfold region_Check regErr
  rw [pattern_Check_val _ sg.base]
  simp only [bindK_some, brK_ite]
  by_cases h0 : patErr g.1 = 0
  case neg => rw [if_pos h0, if_pos h0]
  rw [if_neg (fun h => h h0), if_neg (fun h => h h0)]
  unfold region_Check_L4_f
  have := all_loop (F := region_Check_L4) (B := region_Check_L4_B) (fun _ _ => rfl) g.2 (fun i => ((g.1.1, g.1.2, g.2), g.2, (g.2.length : Int), (i : Int))) (fun h => decide (patErr h = 0)) (.inr (.inl 51)) (.inl (g.1.1, g.1.2, g.2))
    (fun rec i h => by
      simp only [region_Check_L4_B, brK_ite]
      rw [if_pos (by omega), listAt_nat, List.getElem?_eq_getElem h]
      simp only [bindK_some, pattern_Check_val _ (sg.hole _ (List.getElem_mem h))]
      rw [wrap_succ (by omega)]
      by_cases e : patErr g.2[i] = 0 <;> simp [e])
    (fun rec => by
      simp only [region_Check_L4_B, brK_ite]
      rw [if_neg (by omega)]) g.2.length 0 (List.length g.1.1 + List.length g.2 + List.length g.2 + Int.natAbs (g.2.length : Int) + Int.natAbs 0 + 1000) (by omega) (by omega)
  rw [show ((0 : Nat) : Int) = 0 from rfl, List.drop_zero] at this
  rw [this]
  by_cases ha : g.2.all (fun h => decide (patErr h = 0)) = true
  · have hn : ¬ (g.2.any fun h => decide (patErr h ≠ 0)) = true := by
      rw [List.any_eq_true]
      rintro ⟨x, hx, hx'⟩
      have := List.all_eq_true.1 ha x hx
      simp at this hx'
      exact hx' this
    rw [if_pos ha, if_neg hn]
    simp only [bindK_some, sumK_inl]
    by_cases h64 : 64 < g.2.length
    · rw [if_pos (by omega), if_pos h64]
    · rw [if_neg (by omega), if_neg h64]
  · have hn : (g.2.any fun h => decide (patErr h ≠ 0)) = true := by
      apply Classical.byContradiction
      intro hc
      apply ha
      rw [List.all_eq_true]
      intro x hx
      apply Classical.byContradiction
      intro hx'
      exact hc (List.any_eq_true.2 ⟨x, hx, by simpa using hx'⟩)
    rw [if_neg ha, if_pos hn]
    rfl

theorem okG_of {g : Reg} (h : regErr g = 0) : okG g := ⟨(regErr_zero.1 h).1, (regErr_zero.1 h).2.1⟩

theorem region_Empty_val (g : Reg) (sg : SmallG g) : region_Empty g = some (if regErr g = 0 then ((lengthG g).isNone, 0) else (false, regErr g)) := by
  unfold region_Empty
  rw [region_Check_val g sg]
  simp only [bindK_some, brK_ite]
  by_cases h0 : regErr g = 0
  · rw [if_neg (fun h => h h0), if_pos h0, holes_Length_val g sg (okG_of h0)]
    cases lengthG g <;> rfl
  · rw [if_pos h0, if_neg h0]

/-! ### The least path -/
/-- The bits that are alive. -/
def AliveB (g : Reg) (n : Nat) (l : List ByteArray) (a : BitVec 64) : Prop := ∀ k, k < 64 → a.getLsbD k = match g.2[k]? with | some h => aliveH h n l | none => false

theorem region_least_1_val (g : Reg) (n : Nat) (l : List ByteArray) (a : BitVec 64) (w : ByteArray) (sg : SmallG g) (eg : regErr g = 0) (ha : AliveB g n l a) (hn : n ≤ big) (hl : l.length < n) (hw : compB w = true) (hws : w.size ≤ big) :
    region_least_1 (w, (g.1.1, g.1.2, g.2), (a.toNat : Int), (n : Int), (l.length : Int)) = some (freeW g n l w) := by
  have hbig : big = 1048576 := rfl
  obtain ⟨e1, e2, e3⟩ := regErr_zero.1 eg
  have hpw : isPart (bts w) = true := by unfold isPart; rw [show comp (bts w) = true from hw]; simp
  unfold region_least_1 region_least_1_L2_f freeW
  simp only
  have := all_loop (F := region_least_1_L2) (B := region_least_1_L2_B) (fun _ _ => rfl) g.2 (fun i => (w, (g.1.1, g.1.2, g.2), (a.toNat : Int), (n : Int), (l.length : Int), g.2, (g.2.length : Int), (i : Int))) (fun h => !(aliveH h n l && covers h g.1 n (l.length + 1) && pInside w (ptAt h l.length))) (.inr (.inl false)) (.inl ())
    (fun rec i h => by
      have hm := sg.hole _ (List.getElem_mem h)
      have em := e2 _ (List.getElem_mem h)
      simp only [region_least_1_L2_B, brK_ite]
      rw [if_pos (by omega), listAt_nat, List.getElem?_eq_getElem h]
      simp only [bindK_some]
      rw [if_neg (by omega), wrap_succ (i := l.length) (by omega), wrap_succ (i := i) (by omega), holes_Covers_val _ g.1 n (l.length + 1) hm sg.base em e1 hn (by omega), holes_Part_val]
      simp only [bindK_some]
      rw [holes_Inside_val w _ hws (ptAt_size hm _) hpw (ptAt_part em _), bindK_some]
      have hb := ha i (by omega)
      rw [List.getElem?_eq_getElem h] at hb
      simp only at hb
      have ht := bit_test a (k := i) (by omega)
      rw [hb] at ht
      cases hal : aliveH g.2[i] n l with
      | false =>
        rw [hal] at ht
        rw [if_neg (fun hh => by have := ht.1 hh; cases this)]
        rfl
      | true =>
        rw [hal] at ht
        rw [if_pos (ht.2 rfl)]
        cases covers g.2[i] g.1 n (l.length + 1) <;> cases pInside w (ptAt g.2[i] l.length) <;> rfl)
    (fun rec => by
      simp only [region_least_1_L2_B, brK_ite]
      rw [if_neg (by omega)]) g.2.length 0 (ByteArray.size w + List.length g.1.1 + List.length g.2 + Int.natAbs (a.toNat : Int) + Int.natAbs (n : Int) + Int.natAbs (l.length : Int) + List.length g.2 + Int.natAbs (g.2.length : Int) + Int.natAbs 0 + 1000) (by omega) (by omega)
  rw [show ((0 : Nat) : Int) = 0 from rfl, List.drop_zero] at this
  rw [this]
  have e : (g.2.all fun h => !(aliveH h n l && covers h g.1 n (l.length + 1) && pInside w (ptAt h l.length))) = !(g.2.any fun h => aliveH h n l && covers h g.1 n (l.length + 1) && pInside w (ptAt h l.length)) := by
    rw [List.not_any_eq_all_not]
  rw [e]
  cases (g.2.any fun h => aliveH h n l && covers h g.1 n (l.length + 1) && pInside w (ptAt h l.length)) <;> rfl

abbrev firstB : ByteArray := ByteArray.mk #[43, 45, 48, 49, 50, 51, 52, 53, 54, 55, 56, 57, 65, 66, 67, 68, 69, 70, 71, 72, 73, 74, 75, 76, 77, 78, 79, 80, 81, 82, 83, 84, 85, 86, 87, 88, 89, 90, 95, 97, 98, 99, 100, 101, 102, 103, 104, 105, 106, 107, 108, 109, 110, 111, 112, 113, 114, 115, 116, 117, 118, 119, 120, 121, 122]
theorem firstB_bts : bts firstB = firsts := rfl

theorem region_least_L7_loop (g : Reg) (n : Nat) (l : List ByteArray) (a : BitVec 64) (s : List UInt8) (t : ByteArray) (ht : bts t = s) (hs : s.all okByte = true) (hss : s.length < big) (sg : SmallG g) (eg : regErr g = 0) (ha : AliveB g n l a) (hn : n ≤ big) (hl : l.length < n) : ∀ (k i fuel : Nat), i + k = 65 → k < fuel →
    region_least_L7 fuel (((g.1.1, g.1.2, g.2), (a.toNat : Int), (n : Int), (l.length : Int)), t, (i : Int)) = some (match ((firsts.drop i).map fun c => ofB (c :: s)).find? (freeW g n l) with | some w => .inr (.inl (w, true)) | none => .inl ())
  | 0, i, fuel + 1, h, _ => by
    have hd : firsts.drop i = [] := List.drop_eq_nil_of_le (by show 65 ≤ i; omega)
    simp only [region_least_L7, region_least_L7_B, brK_ite]
    rw [if_neg (by omega), hd]
    rfl
  | k + 1, i, fuel + 1, h, hf => by
    have hbig : big = 1048576 := rfl
    have hi : i < firsts.length := by show i < 65; omega
    have hsz : firstB.size = 65 := rfl
    have hex : ByteArray.extract firstB i (i + 1) ++ t = ofB (firsts[i] :: s) := by
      apply bts_inj
      rw [bts_append, bts_extract, firstB_bts, bts_ofB, ht, List.drop_take, List.drop_eq_getElem_cons hi, show i + 1 - i = 1 by omega]
      rfl
    have hexs : (ByteArray.extract firstB i (i + 1)).size ≤ 65 := by
      rw [ByteArray.size_extract]; omega
    have hts : t.size = s.length := by rw [size_bts, ht]
    have hc : compB (ofB (firsts[i] :: s)) = true := by
      show comp (bts (ofB _)) = true
      rw [bts_ofB]
      exact comp_first (List.getElem_mem hi) hs
    simp only [region_least_L7, region_least_L7_B, brK_ite]
    rw [if_pos (by omega), wrap_succ (by omega), Int.toNat_natCast, Int.toNat_natCast, if_pos ⟨by omega, by omega, by show ((i + 1 : Nat) : Int) ≤ ((firstB.size : Nat) : Int); omega⟩]
    have hcond : (ByteArray.extract (ByteArray.mk #[43, 45, 48, 49, 50, 51, 52, 53, 54, 55, 56, 57, 65, 66, 67, 68, 69, 70, 71, 72, 73, 74, 75, 76, 77, 78, 79, 80, 81, 82, 83, 84, 85, 86, 87, 88, 89, 90, 95, 97, 98, 99, 100, 101, 102, 103, 104, 105, 106, 107, 108, 109, 110, 111, 112, 113, 114, 115, 116, 117, 118, 119, 120, 121, 122]) i (i + 1)).size + t.size ≤ 140737488355328 := by
      have := hexs
      unfold firstB at this
      omega
    rw [if_pos hcond]
    have hex' := hex
    unfold firstB at hex'
    rw [hex', region_least_1_val g n l a _ sg eg ha hn hl hc (by rw [size_ofB, List.length_cons]; omega)]
    simp only [bindK_some]
    rw [region_least_L7_loop g n l a s t ht hs hss sg eg ha hn hl k (i + 1) fuel (by omega) (by omega), List.drop_eq_getElem_cons hi, List.map_cons, List.find?_cons]
    cases freeW g n l (ofB (firsts[i] :: s)) <;> rfl

theorem region_least_val (g : Reg) (n : Nat) (l : List ByteArray) (a : BitVec 64) (sg : SmallG g) (eg : regErr g = 0) (ha : AliveB g n l a) (hn : n ≤ big) (hl : l.length < n) :
    ∃ v, region_least (g, (n : Int), (l.length : Int), (a.toNat : Int)) = some (v, (leastAt g n l).isSome) ∧ ∀ w, leastAt g n l = some w → v = w := by
  have hbig : big = 1048576 := rfl
  obtain ⟨e1, e2, e3⟩ := regErr_zero.1 eg
  have hpp := ptAt_part e1 l.length
  have hps := ptAt_size sg.base l.length
  unfold region_least leastAt
  simp only
  rw [holes_Part_val, bindK_some, CutPrefix_val, bindK_some]
  cases hst : star? (bts (ptAt g.1 l.length)) with
  | none =>
    have hc := isPart_lit hpp hst
    have hnp : ¬ bts (ByteArray.mk #[42]) <+: bts (ptAt g.1 l.length) := by
      rintro ⟨r, hr⟩
      have : comp (bts (ptAt g.1 l.length)) = true := hc
      rw [← hr] at this
      have h42 : comp (42 :: r) = true := this
      rw [comp_star] at h42
      cases h42
    rw [if_neg hnp]
    simp only [Bool.not_false, brK_true]
    have := region_least_1_val g n l a (ptAt g.1 l.length) sg eg ha hn hl hc hps
    rw [this]
    cases hf : freeW g n l (ptAt g.1 l.length) with
    | true => exact ⟨ptAt g.1 l.length, by simp, fun w h => by simpa using h⟩
    | false => exact ⟨ptAt g.1 l.length, by simp, fun w h => by simp at h⟩
  | some s =>
    obtain ⟨h42, hall⟩ := star_all hst
    have hp : bts (ByteArray.mk #[42]) <+: bts (ptAt g.1 l.length) := ⟨s, by rw [h42]; rfl⟩
    rw [if_pos hp]
    simp only [Bool.not_true, brK_false]
    have ht : bts ((ptAt g.1 l.length).extract (ByteArray.mk #[42]).size (ptAt g.1 l.length).size) = s := by
      rw [bts_extract, size_bts (ptAt g.1 l.length), List.take_length, h42]
      rfl
    have hsl := star_size hst
    unfold region_least_L7_f
    have hloop := region_least_L7_loop g n l a s _ ht hall (by omega) sg eg ha hn hl 65 0 (List.length g.1.1 + List.length g.2 + Int.natAbs (a.toNat : Int) + Int.natAbs (n : Int) + Int.natAbs (l.length : Int) + ByteArray.size ((ptAt g.1 l.length).extract (ByteArray.mk #[42]).size (ptAt g.1 l.length).size) + Int.natAbs 0 + 1000) (by omega) (by omega)
    rw [show ((0 : Nat) : Int) = 0 from rfl, List.drop_zero] at hloop
    rw [hloop]
    cases hf : (firsts.map fun c => ofB (c :: s)).find? (freeW g n l) with
    | none => exact ⟨_, rfl, fun w h => by cases h⟩
    | some w => exact ⟨_, rfl, fun w' h => by cases h; rfl⟩

theorem region_Least_L9_loop (g : Reg) (n : Nat) (sg : SmallG g) (eg : regErr g = 0) (hn : n ≤ big) : ∀ (k i fuel : Nat) (a : BitVec 64), i + k = g.2.length → k < fuel → (∀ j, j < 64 → a.getLsbD j = match g.2[j]? with | some h => decide (j < i) && lenOK h n | none => false) →
    ∃ a' : BitVec 64, region_Least_L9 fuel ((g.1.1, g.1.2, g.2), (n : Int), (a.toNat : Int), g.2, (g.2.length : Int), (i : Int)) = some (.inl ((g.1.1, g.1.2, g.2), (n : Int), (a'.toNat : Int))) ∧ AliveB g n [] a'
  | 0, i, fuel + 1, a, h, _, ha => by
    simp only [region_Least_L9, region_Least_L9_B, brK_ite]
    rw [if_neg (by omega)]
    refine ⟨a, rfl, fun j hj => ?_⟩
    rw [ha j hj]
    cases hx : g.2[j]? with
    | none => rfl
    | some x =>
      have := (List.getElem?_eq_some_iff.1 hx).1
      simp only [aliveH, aliveFrom, Bool.and_true]
      rw [decide_eq_true (by omega), Bool.true_and]
  | k + 1, i, fuel + 1, a, h, hf, ha => by
    obtain ⟨e1, e2, e3⟩ := regErr_zero.1 eg
    have hi : i < g.2.length := by omega
    simp only [region_Least_L9, region_Least_L9_B, brK_ite]
    rw [if_pos (by omega), listAt_nat, List.getElem?_eq_getElem hi]
    simp only [bindK_some, holes_Long_val]
    rw [if_neg (by omega), wrap_succ (by omega), bit_set a (k := i) (by omega)]
    cases hlo : lenOK g.2[i] n with
    | true =>
      rw [brK_true]
      refine region_Least_L9_loop g n sg eg hn k (i + 1) fuel _ (by omega) (by omega) fun j hj => ?_
      rw [get_set a (by omega) hj, ha j hj]
      cases hx : g.2[j]? with
      | none =>
        have : g.2.length ≤ j := List.getElem?_eq_none_iff.1 hx
        simp; omega
      | some x =>
        simp only
        by_cases e : i = j
        · subst e
          rw [List.getElem?_eq_getElem hi] at hx
          cases hx
          simp [hlo]
        · have : decide (j < i) = decide (j < i + 1) := by
            by_cases h2 : j < i
            · rw [decide_eq_true h2, decide_eq_true (by omega)]
            · rw [decide_eq_false h2, decide_eq_false (by omega)]
          rw [this, decide_eq_false e, Bool.or_false]
    | false =>
      rw [brK_false]
      refine region_Least_L9_loop g n sg eg hn k (i + 1) fuel _ (by omega) (by omega) fun j hj => ?_
      rw [ha j hj]
      cases hx : g.2[j]? with
      | none => rfl
      | some x =>
        simp only
        by_cases e : i = j
        · subst e
          rw [List.getElem?_eq_getElem hi] at hx
          cases hx
          simp [hlo]
        · have : decide (j < i) = decide (j < i + 1) := by
            by_cases h2 : j < i
            · rw [decide_eq_true h2, decide_eq_true (by omega)]
            · rw [decide_eq_false h2, decide_eq_false (by omega)]
          rw [this]

theorem region_Least_L23_loop (g : Reg) (n : Nat) (l m : List ByteArray) (w : ByteArray) (x1 x2 : Int) (sg : SmallG g) (eg : regErr g = 0) (hn : n ≤ big) (hw : compB w = true) (hws : w.size ≤ big) : ∀ (k i fuel : Nat) (a : BitVec 64), i + k = g.2.length → k < fuel →
    (∀ j, j < 64 → a.getLsbD j = match g.2[j]? with | some h => aliveH h n l && (decide (i ≤ j) || pInside w (ptAt h l.length)) | none => false) →
    ∃ a' : BitVec 64, region_Least_L23 fuel ((g.1.1, g.1.2, g.2), (n : Int), (a.toNat : Int), m, (l.length : Int), w, x1, x2, g.2, (g.2.length : Int), (i : Int)) = some (.inl ((g.1.1, g.1.2, g.2), (n : Int), (a'.toNat : Int), m, x1, x2)) ∧ AliveB g n (l ++ [w]) a'
  | 0, i, fuel + 1, a, h, _, ha => by
    simp only [region_Least_L23, region_Least_L23_B, brK_ite]
    rw [if_neg (by omega)]
    refine ⟨a, rfl, fun j hj => ?_⟩
    rw [ha j hj]
    cases hx : g.2[j]? with
    | none => rfl
    | some x =>
      have := (List.getElem?_eq_some_iff.1 hx).1
      simp only [aliveH_snoc]
      rw [decide_eq_false (by omega), Bool.false_or]
  | k + 1, i, fuel + 1, a, h, hf, ha => by
    have hbig : big = 1048576 := rfl
    obtain ⟨e1, e2, e3⟩ := regErr_zero.1 eg
    have hi : i < g.2.length := by omega
    have hm := sg.hole _ (List.getElem_mem hi)
    have em := e2 _ (List.getElem_mem hi)
    have hpw : isPart (bts w) = true := by unfold isPart; rw [show comp (bts w) = true from hw]; simp
    simp only [region_Least_L23, region_Least_L23_B, brK_ite]
    rw [if_pos (by omega), listAt_nat, List.getElem?_eq_getElem hi]
    simp only [bindK_some, holes_Part_val]
    rw [holes_Inside_val w _ hws (ptAt_size hm _) hpw (ptAt_part em _), bindK_some, if_neg (by omega), wrap_succ (by omega), bit_clear a (k := i) (by omega)]
    cases hin : pInside w (ptAt g.2[i] l.length) with
    | false =>
      simp only [Bool.not_false, brK_true]
      refine region_Least_L23_loop g n l m w x1 x2 sg eg hn hw hws k (i + 1) fuel _ (by omega) (by omega) fun j hj => ?_
      rw [get_clear a (by omega) hj, ha j hj]
      cases hx : g.2[j]? with
      | none => rfl
      | some x =>
        simp only
        by_cases e : i = j
        · subst e
          rw [List.getElem?_eq_getElem hi] at hx
          cases hx
          rw [hin, decide_eq_true rfl, decide_eq_false (by omega : ¬ i + 1 ≤ i)]
          simp
        · have : decide (i ≤ j) = decide (i + 1 ≤ j) := by
            by_cases h2 : i ≤ j
            · rw [decide_eq_true h2, decide_eq_true (by omega)]
            · rw [decide_eq_false h2, decide_eq_false (by omega)]
          rw [this, decide_eq_false e]
          simp
    | true =>
      simp only [Bool.not_true, brK_false]
      refine region_Least_L23_loop g n l m w x1 x2 sg eg hn hw hws k (i + 1) fuel _ (by omega) (by omega) fun j hj => ?_
      rw [ha j hj]
      cases hx : g.2[j]? with
      | none => rfl
      | some x =>
        simp only
        by_cases e : i = j
        · subst e
          rw [List.getElem?_eq_getElem hi] at hx
          cases hx
          rw [hin]
          simp
        · have : decide (i ≤ j) = decide (i + 1 ≤ j) := by
            by_cases h2 : i ≤ j
            · rw [decide_eq_true h2, decide_eq_true (by omega)]
            · rw [decide_eq_false h2, decide_eq_false (by omega)]
          rw [this]

theorem leastAt_small {g : Reg} {n : Nat} {l : List ByteArray} {w : ByteArray} (sg : SmallG g) (eg : regErr g = 0) (h : leastAt g n l = some w) : compB w = true ∧ w.size ≤ big := by
  obtain ⟨e1, _⟩ := regErr_zero.1 eg
  have hps := ptAt_size sg.base l.length
  unfold leastAt at h
  cases hst : star? (bts (ptAt g.1 l.length)) with
  | none =>
    rw [hst] at h
    simp only at h
    split at h
    · cases h
      exact ⟨isPart_lit (ptAt_part e1 _) hst, hps⟩
    · cases h
  | some s =>
    rw [hst] at h
    simp only at h
    obtain ⟨c, hc, rfl⟩ := List.mem_map.1 (List.mem_of_find?_eq_some h)
    have hsl := star_size hst
    refine ⟨?_, by rw [size_ofB, List.length_cons]; omega⟩
    show comp (bts (ofB _)) = true
    rw [bts_ofB]
    exact comp_first hc (star_all hst).2

theorem region_Least_L16_loop (g : Reg) (n : Nat) (sg : SmallG g) (eg : regErr g = 0) (hn : n ≤ big) : ∀ (k fuel : Nat) (l : List ByteArray) (a : BitVec 64), l.length + k = n → k < fuel → AliveB g n l a →
    region_Least_L16 fuel ((g.1.1, g.1.2, g.2), (n : Int), (a.toNat : Int), l, (n : Int), (l.length : Int)) = some (match leastW g n k l with | some r => .inl r | none => .inr (.inl (⟨#[]⟩, false, 0)))
  | 0, fuel + 1, l, a, h, _, ha => by
    simp only [region_Least_L16, region_Least_L16_B, brK_ite]
    rw [if_neg (by omega)]
    rfl
  | k + 1, fuel + 1, l, a, h, hf, ha => by
    have hbig : big = 1048576 := rfl
    obtain ⟨e1, e2, e3⟩ := regErr_zero.1 eg
    have hl := sg.len
    simp only [region_Least_L16, region_Least_L16_B, brK_ite]
    obtain ⟨v, hv, hv'⟩ := region_least_val g n l a sg eg ha hn (by omega)
    rw [if_pos (by omega), hv]
    simp only [bindK_some]
    simp only [leastW]
    cases hla : leastAt g n l with
    | none => rfl
    | some w =>
      have e := hv' w hla
      subst e
      obtain ⟨hc, hs⟩ := leastAt_small sg eg hla
      simp only [Option.isSome_some, Bool.not_true, brK_false, Option.bind_some]
      rw [fits_ok (by omega) (by simp) (by omega), brK_true]
      unfold region_Least_L23_f
      obtain ⟨a', h1, h2⟩ := region_Least_L23_loop g n l (l ++ [v]) v (n : Int) (l.length : Int) sg eg hn hc hs g.2.length 0 (List.length g.1.1 + List.length g.2 + Int.natAbs (n : Int) + Int.natAbs (a.toNat : Int) + List.length (l ++ [v]) + Int.natAbs (l.length : Int) + ByteArray.size v + Int.natAbs (n : Int) + Int.natAbs (l.length : Int) + List.length g.2 + Int.natAbs (g.2.length : Int) + Int.natAbs 0 + 1000) a (by omega) (by omega) (fun j hj => by
        rw [ha j hj]
        cases g.2[j]? with
        | none => rfl
        | some x => simp)
      rw [show ((0 : Nat) : Int) = 0 from rfl] at h1
      rw [h1]
      simp only [bindK_some, sumK_inl]
      rw [wrap_succ (by omega)]
      have e4 : ((l.length + 1 : Nat) : Int) = ((l ++ [v]).length : Int) := by simp
      rw [e4, region_Least_L16_loop g n sg eg hn k fuel (l ++ [v]) a' (by simp; omega) (by omega) h2]

/-- What the least path's function gives. -/
def leastR (g : Reg) : ByteArray × Bool := match leastG g with | some l => (pathText l, true) | none => (⟨#[]⟩, false)

theorem leastG_sizes {g : Reg} {l : List ByteArray} (sg : SmallG g) (eg : regErr g = 0) (h : leastG g = some l) : l.length ≤ 14 ∧ ssz l ≤ 14 * big := by
  have hbig : big = 1048576 := rfl
  have key : ∀ (n k : Nat) (l r : List ByteArray), leastW g n k l = some r → (∀ w ∈ l, ByteArray.size w ≤ big) → ∀ w ∈ r, ByteArray.size w ≤ big := by
    intro n k
    induction k with
    | zero => intro l r h hl; cases h; exact hl
    | succ k ih =>
      intro l r h hl
      unfold leastW at h
      obtain ⟨w, hw, h⟩ := Option.bind_eq_some_iff.1 h
      refine ih _ _ h fun x hx => ?_
      rcases List.mem_append.1 hx with hx | hx
      · exact hl x hx
      · simp at hx; subst hx; exact (leastAt_small sg eg hw).2
  rcases leastG_spec eg with ⟨_, h2⟩ | ⟨n, r, h1, h2, h3, h4, _⟩
  · rw [h2] at h; cases h
  · rw [h2] at h
    cases h
    have hm := mostOf_ok g (okG_of eg)
    have hn : n < mostOf g + 2 + g.1.1.length := by
      have := (lenFrom_some h1).2.1
      have := mostOf_base g
      omega
    have hn2 : n ≤ 13 := by
      have h5 := (lenFrom_some h1).2.1
      have := mostOf_base g
      omega
    have hs := ssz_le (key n n [] l h3 (fun w h => by cases h))
    have : l.length * big ≤ 14 * big := Nat.mul_le_mul_right _ (by omega)
    exact ⟨by omega, by omega⟩

theorem region_Least_val (g : Reg) (sg : SmallG g) : region_Least g = some (if regErr g = 0 then ((leastR g).1, (leastR g).2, 0) else (⟨#[]⟩, false, regErr g)) := by
  have hbig : big = 1048576 := rfl
  have hl := sg.len
  unfold region_Least
  rw [region_Check_val g sg]
  simp only [bindK_some, brK_ite]
  by_cases h0 : regErr g = 0
  case neg => rw [if_pos h0, if_neg h0]
  rw [if_neg (fun h => h h0), if_pos h0, holes_Length_val g sg (okG_of h0)]
  unfold leastR
  rcases leastG_spec h0 with ⟨h1, h2⟩ | ⟨n, r, h1, h2, h3, h4, h5, h6⟩
  · rw [h1, h2]
    rfl
  · obtain ⟨z1, z2⟩ := leastG_sizes sg h0 h2
    have hlen2 := leastG_length h0 h2
    rw [h1, h2]
    simp only [bindK_some, Bool.not_true, brK_false]
    unfold region_Least_L9_f
    obtain ⟨a, ha1, ha2⟩ := region_Least_L9_loop g n sg h0 (by omega) g.2.length 0 (List.length g.1.1 + List.length g.2 + Int.natAbs (n : Int) + Int.natAbs 0 + List.length g.2 + Int.natAbs (g.2.length : Int) + Int.natAbs 0 + 1000) 0#64 (by omega) (by omega) (fun j hj => by
      cases g.2[j]? with
      | none => simp
      | some x => simp)
    rw [show ((0 : Nat) : Int) = 0 from rfl, show ((0#64).toNat : Int) = 0 from rfl] at ha1
    rw [ha1]
    simp only [bindK_some, sumK_inl]
    unfold region_Least_L16_f
    have h16 := region_Least_L16_loop g n sg h0 (by omega) n (List.length g.1.1 + List.length g.2 + Int.natAbs (n : Int) + Int.natAbs (a.toNat : Int) + List.length ([] : List ByteArray) + Int.natAbs (n : Int) + Int.natAbs 0 + 1000) [] a (by simp) (by omega) ha2
    rw [show (([] : List ByteArray).length : Int) = 0 from rfl] at h16
    rw [h16, h3]
    simp only [bindK_some, sumK_inl]
    rw [path_Join_val r (by omega) (by omega), if_pos ⟨hlen2, h5⟩]
    simp
end Go.Proofs.YtcmfkmhmehhkpaaDoor
