/- A part of the proof of a law of this seat (rD_M1, rD_M2, rD_M3, rD_M4, rD_M5, rD_M6, rD_M8, rD_M9). -/
import Derived.Test.YtcmfkmhmehhkpaaDoorG
import Derived.Test.YtcmfkmhmehhkpaaDoorAc
set_option linter.unusedSimpArgs false
set_option linter.unusedVariables false
namespace Go.Proofs.YtcmfkmhmehhkpaaDoor
open Go Go.Ai
/-! ### Components -/
theorem allowed_eq (c : UInt8) : path_allowed (c.toNat : Int) = some (okByte c) := by
  have h : ∀ c : Fin 256, path_allowed ((UInt8.ofNat c.val).toNat : Int) = some (okByte (UInt8.ofNat c.val)) := by decide +kernel
  have h1 := h ⟨c.toNat, c.toNat_lt⟩
  simpa only [UInt8.ofNat_toNat] using h1

theorem path_Component_loop (s : ByteArray) (hs : s.size ≤ 4611686018427387904) : ∀ (k i fuel : Nat), i + k = s.size → k < fuel →
    path_Component_L4 fuel (s, (s.size : Int), (i : Int)) = some (if ((bts s).drop i).all okByte = true then .inl () else .inr (.inl false))
  | 0, i, fuel + 1, h, _ => by
    have : (bts s).drop i = [] := List.drop_eq_nil_of_le (by rw [← size_bts]; omega)
    simp only [path_Component_L4, path_Component_L4_B, brK_ite]
    rw [if_neg (by omega), this]
    rfl
  | k + 1, i, fuel + 1, h, hf => by
    have hi : i < (bts s).length := by rw [← size_bts]; omega
    have hd : (bts s).drop i = (bts s)[i] :: (bts s).drop (i + 1) := List.drop_eq_getElem_cons hi
    simp only [path_Component_L4, path_Component_L4_B, brK_ite]
    rw [if_pos (by omega), strAt_nat, List.getElem?_eq_getElem hi]
    simp only [Option.map_some, bindK_some, allowed_eq]
    rw [wrap_succ (by omega), hd, List.all_cons]
    cases okByte (bts s)[i] with
    | false => rfl
    | true =>
      simp only [Bool.not_true, brK_false, Bool.true_and]
      exact path_Component_loop s hs k (i + 1) fuel (by omega) (by omega)

theorem path_Component_val (s : ByteArray) (hs : s.size ≤ 4611686018427387904) : path_Component s = some (comp (bts s)) := by
  unfold path_Component
  rw [brK_ite]
  split
  · rename_i h; subst h; rfl
  · rename_i h
    cases hb : bts s with
    | nil => exact absurd (bts_inj (by rw [hb])) h
    | cons c l =>
      have h0 : strAt s 0 = some (c.toNat : Int) := by
        have := strAt_nat s 0
        change strAt s 0 = ((bts s)[0]?).map _ at this
        rw [hb] at this
        exact this
      rw [h0, bindK_some, brK_ite]
      by_cases hc : c = 46
      · subst hc; rfl
      · rw [if_neg (by
          intro h
          apply hc
          exact UInt8.toNat_inj.1 (by show c.toNat = 46; omega))]
        have hl := path_Component_loop s hs s.size 0 (s.size + Int.natAbs s.size + Int.natAbs 0 + 1000) (by omega) (by omega)
        unfold path_Component_L4_f
        rw [show ((0 : Nat) : Int) = 0 from rfl] at hl
        rw [hl]
        simp only [List.drop_zero, hb]
        have hne : (some c != some (46 : UInt8)) = true := by simp [hc]
        simp only [comp, List.isEmpty_cons, List.head?_cons, hne, Bool.not_false, Bool.true_and]
        cases (c :: l).all okByte <;> rfl

/-- The alphabet of the reference. -/
def alpha : ByteArray := ByteArray.mk #[65, 66, 67, 68, 69, 70, 71, 72, 73, 74, 75, 76, 77, 78, 79, 80, 81, 82, 83, 84, 85, 86, 87, 88, 89, 90, 97, 98, 99, 100, 101, 102, 103, 104, 105, 106, 107, 108, 109, 110, 111, 112, 113, 114, 115, 116, 117, 118, 119, 120, 121, 122, 48, 49, 50, 51, 52, 53, 54, 55, 56, 57, 95, 46, 43, 45]

theorem alpha_ok (c : UInt8) : c ∉ bts alpha ↔ okByte c = false := by
  have h : ∀ c : Fin 256, (decide (UInt8.ofNat c.val ∉ bts alpha) == !(okByte (UInt8.ofNat c.val))) = true := by decide +kernel
  have h1 := h ⟨c.toNat, c.toNat_lt⟩
  simp only [UInt8.ofNat_toNat, beq_iff_eq] at h1
  constructor
  · intro hm
    rw [decide_eq_true hm] at h1
    simpa using h1.symm
  · intro hok
    rw [hok] at h1
    exact of_decide_eq_true (by simpa using h1)

theorem strings_IndexByte_val (x : ByteArray × Int) : strings_IndexByte x = indexByteF x.1 x.2 := by
  unfold strings_IndexByte stringslite_IndexByte bytealg_IndexByteString
  unfold indexByteF
  rfl

theorem alpha_index (c : UInt8) : ∃ r : Int, strings_IndexByte (alpha, (c.toNat : Int)) = some r ∧ (r < 0 ↔ okByte c = false) := by
  rw [strings_IndexByte_val]
  obtain ⟨r, h1, h2⟩ := indexByteF_spec alpha c
  exact ⟨r, h1, h2.trans (alpha_ok c)⟩

theorem ref02_Component_loop (s : ByteArray) (hs : s.size ≤ 4611686018427387904) : ∀ (k i fuel : Nat), i + k = s.size → k < fuel →
    ref02_Component_L4 fuel (s, (i : Int)) = some (if ((bts s).drop i).all okByte = true then .inl () else .inr (.inl false))
  | 0, i, fuel + 1, h, _ => by
    have : (bts s).drop i = [] := List.drop_eq_nil_of_le (by rw [← size_bts]; omega)
    simp only [ref02_Component_L4, ref02_Component_L4_B, brK_ite]
    rw [if_neg (by omega), this]
    rfl
  | k + 1, i, fuel + 1, h, hf => by
    have hi : i < (bts s).length := by rw [← size_bts]; omega
    have hd : (bts s).drop i = (bts s)[i] :: (bts s).drop (i + 1) := List.drop_eq_getElem_cons hi
    simp only [ref02_Component_L4, ref02_Component_L4_B, brK_ite]
    rw [if_pos (by omega), strAt_nat, List.getElem?_eq_getElem hi]
    simp only [Option.map_some, bindK_some]
    obtain ⟨r, hr, hr'⟩ := alpha_index (bts s)[i]
    change bindK (strings_IndexByte (alpha, _)) _ = _
    rw [hr, bindK_some, wrap_succ (by omega), hd, List.all_cons]
    cases hok : okByte (bts s)[i] with
    | false => rw [if_pos (hr'.2 hok)]; rfl
    | true =>
      rw [if_neg (fun h => by rw [hr'.1 h] at hok; cases hok)]
      simp only [Bool.true_and]
      exact ref02_Component_loop s hs k (i + 1) fuel (by omega) (by omega)

theorem ref02_Component_val (s : ByteArray) (hs : s.size ≤ 4611686018427387904) : ref02_Component s = some (comp (bts s)) := by
  unfold ref02_Component
  rw [brK_ite]
  split
  · rename_i h; subst h; rfl
  · rename_i h
    cases hb : bts s with
    | nil => exact absurd (bts_inj (by rw [hb])) h
    | cons c l =>
      have h0 : strAt s 0 = some (c.toNat : Int) := by
        have := strAt_nat s 0
        change strAt s 0 = ((bts s)[0]?).map _ at this
        rw [hb] at this
        exact this
      rw [h0, bindK_some, brK_ite]
      by_cases hc : c = 46
      · subst hc; rfl
      · rw [if_neg (by
          intro h
          apply hc
          exact UInt8.toNat_inj.1 (by show c.toNat = 46; omega))]
        have hl := ref02_Component_loop s hs s.size 0 (s.size + Int.natAbs 0 + 1000) (by omega) (by omega)
        unfold ref02_Component_L4_f
        rw [show ((0 : Nat) : Int) = 0 from rfl] at hl
        rw [hl]
        simp only [List.drop_zero, hb]
        have hne : (some c != some (46 : UInt8)) = true := by simp [hc]
        simp only [comp, List.isEmpty_cons, List.head?_cons, hne, Bool.not_false, Bool.true_and]
        cases (c :: l).all okByte <;> rfl
end Go.Proofs.YtcmfkmhmehhkpaaDoor

set_option linter.unusedSimpArgs false
set_option linter.unusedVariables false
namespace Go.Proofs.YtcmfkmhmehhkpaaDoor
open Go Go.Ai
/-! ### Parts -/
theorem HasPrefix_val (x : ByteArray × ByteArray) : stringslite_HasPrefix x = some (decide (bts x.2 <+: bts x.1)) := by
  unfold stringslite_HasPrefix
  simp only [brK_ite]
  by_cases h : (x.1.size : Int) ≥ x.2.size
  · rw [if_pos h, if_pos ⟨by omega, by omega, by omega⟩]
    congr 1
    have e : (x.1.extract (Int.toNat 0) (Int.toNat (x.2.size : Int)) = x.2) ↔ bts x.2 <+: bts x.1 := by
      rw [bts_eq, bts_extract]
      simp only [Int.toNat_zero, List.drop_zero, Int.toNat_natCast]
      constructor
      · intro h
        rw [← h]
        exact List.take_prefix _ _
      · intro h
        rw [size_bts]
        exact (List.prefix_iff_eq_take.1 h).symm
    exact decide_eq_decide.2 e
  · rw [if_neg h]
    congr 1
    symm
    apply decide_eq_false
    intro hp
    have := hp.length_le
    rw [← size_bts, ← size_bts] at this
    omega

theorem CutPrefix_val (s t : ByteArray) : strings_CutPrefix (s, t) = some (if bts t <+: bts s then (s.extract t.size s.size, true) else (s, false)) := by
  unfold strings_CutPrefix stringslite_CutPrefix
  rw [HasPrefix_val]
  simp only [bindK_some]
  by_cases h : bts t <+: bts s
  · have hl := h.length_le
    rw [← size_bts, ← size_bts] at hl
    rw [decide_eq_true h, if_pos h]
    simp only [Bool.not_true, brK_false, brK_ite]
    rw [if_pos ⟨by omega, by omega, by omega⟩]
    simp
  · rw [decide_eq_false h, if_neg h]
    simp

theorem pattern_formOf_val (s : ByteArray) (hs : s.size ≤ big) : ∃ t, pattern_formOf s = some (form (bts s), t) ∧ (∀ u, star? (bts s) = some u → bts t = u) ∧ (star? (bts s) = none → t = ⟨#[]⟩) := by
  have hbig : big = 1048576 := rfl
  unfold pattern_formOf
  rw [CutPrefix_val]
  by_cases h : bts (ByteArray.mk #[42]) <+: bts s
  · obtain ⟨u, hu⟩ := h
    have hu' : bts s = 42 :: u := by rw [← hu]; rfl
    rw [if_pos ⟨u, hu⟩]
    simp only [bindK_some, brK_true, brK_ite]
    have hx : bts (s.extract (ByteArray.mk #[42]).size s.size) = u := by
      have hl : s.size = (42 :: u).length := by rw [size_bts, hu']
      rw [bts_extract, hu', hl, List.take_length]
      rfl
    have hsz : (s.extract (ByteArray.mk #[42]).size s.size).size ≤ s.size := by
      rw [size_bts, hx, size_bts, hu']; simp
    rw [if_pos (by have : (ByteArray.mk #[97]).size = 1 := rfl; omega)]
    rw [path_Component_val _ (by rw [ByteArray.size_append]; have : (ByteArray.mk #[97]).size = 1 := rfl; omega)]
    have hb : bts ((ByteArray.mk #[97]) ++ s.extract (ByteArray.mk #[42]).size s.size) = 97 :: u := by
      rw [bts_append, hx]; rfl
    rw [hb, comp_a]
    simp only [bindK_some]
    cases hall : u.all okByte with
    | true =>
      have hst : star? (bts s) = some u := by rw [hu']; simp [star?, hall]
      refine ⟨s.extract (ByteArray.mk #[42]).size s.size, by simp [form, hst], fun v hv => ?_, fun hv => ?_⟩
      · rw [hst] at hv; cases hv; exact hx
      · rw [hst] at hv; cases hv
    | false =>
      have hst : star? (bts s) = none := by rw [hu']; simp [star?, hall]
      refine ⟨⟨#[]⟩, by simp only [form, hst]; rw [hu', comp_star]; rfl, fun v hv => ?_, fun _ => rfl⟩
      rw [hst] at hv; cases hv
  · rw [if_neg h]
    have hst : star? (bts s) = none := by
      unfold star?
      split
      · rename_i t ht
        exact absurd ⟨t, by rw [ht]; rfl⟩ h
      · rfl
    simp only [bindK_some, brK_false]
    rw [path_Component_val _ (by omega)]
    simp only [bindK_some]
    refine ⟨⟨#[]⟩, ?_, fun v hv => ?_, fun _ => rfl⟩
    · cases hc : comp (bts s) <;> simp [form, hst, hc]
    · rw [hst] at hv; cases hv
end Go.Proofs.YtcmfkmhmehhkpaaDoor

set_option linter.unusedSimpArgs false
set_option linter.unusedVariables false
namespace Go.Proofs.YtcmfkmhmehhkpaaDoor
open Go Go.Ai
theorem ref03_Star_loop (s : ByteArray) (hs : s.size ≤ big) : ∀ (k i fuel : Nat), i + k = s.size → k < fuel →
    ref03_Star_L4 fuel (s, (i : Int)) = some (if ((bts s).drop i).all okByte = true then .inl s else .inr (.inl (⟨#[]⟩, false)))
  | 0, i, fuel + 1, h, _ => by
    have : (bts s).drop i = [] := List.drop_eq_nil_of_le (by rw [← size_bts]; omega)
    simp only [ref03_Star_L4, ref03_Star_L4_B, brK_ite]
    rw [if_neg (by omega), this]
    rfl
  | k + 1, i, fuel + 1, h, hf => by
    have hbig : big = 1048576 := rfl
    have hi : i < (bts s).length := by rw [← size_bts]; omega
    have hd : (bts s).drop i = (bts s)[i] :: (bts s).drop (i + 1) := List.drop_eq_getElem_cons hi
    simp only [ref03_Star_L4, ref03_Star_L4_B, brK_ite]
    rw [if_pos (by omega), strAt_nat, List.getElem?_eq_getElem hi]
    simp only [Option.map_some, bindK_some]
    obtain ⟨r, hr, hr'⟩ := alpha_index (bts s)[i]
    change bindK (strings_IndexByte (alpha, _)) _ = _
    rw [hr, bindK_some, wrap_succ (by omega), hd, List.all_cons]
    cases hok : okByte (bts s)[i] with
    | false => rw [if_pos (hr'.2 hok)]; rfl
    | true =>
      rw [if_neg (fun h => by rw [hr'.1 h] at hok; cases hok)]
      simp only [Bool.true_and]
      exact ref03_Star_loop s hs k (i + 1) fuel (by omega) (by omega)

theorem ref03_Star_val (s : ByteArray) (hs : s.size ≤ big) : ∃ t, ref03_Star s = some (t, (star? (bts s)).isSome) ∧ (∀ u, star? (bts s) = some u → bts t = u) ∧ (star? (bts s) = none → t = ⟨#[]⟩) := by
  have hbig : big = 1048576 := rfl
  unfold ref03_Star
  rw [brK_ite]
  split
  · rename_i h; subst h; exact ⟨⟨#[]⟩, rfl, fun u hu => (by cases hu), fun _ => rfl⟩
  · rename_i h
    cases hb : bts s with
    | nil => exact absurd (bts_inj (by rw [hb])) h
    | cons c l =>
      have h0 : strAt s 0 = some (c.toNat : Int) := by
        have := strAt_nat s 0
        change strAt s 0 = ((bts s)[0]?).map _ at this
        rw [hb] at this
        exact this
      rw [h0, bindK_some, brK_ite]
      by_cases hc : c = 42
      · subst hc
        rw [if_neg (by intro h; exact h rfl)]
        have hl := ref03_Star_loop s hs (s.size - 1) 1 (s.size + Int.natAbs 1 + 1000) (by have := size_bts s; rw [hb] at this; simp at this; omega) (by omega)
        unfold ref03_Star_L4_f
        rw [show ((1 : Nat) : Int) = 1 from rfl] at hl
        rw [hl, hb]
        have hsz : s.size = l.length + 1 := by rw [size_bts, hb]; rfl
        cases hall : l.all okByte with
        | true =>
          have hd : (List.drop 1 (42 :: l)).all okByte = true := hall
          rw [if_pos hd]
          simp only [bindK_some, sumK_inl, brK_ite]
          rw [if_pos ⟨by omega, by omega, by omega⟩]
          refine ⟨s.extract 1 s.size, by simp [star?, hall], fun u hu => ?_, fun hu => ?_⟩
          · simp [star?, hall] at hu
            subst hu
            rw [bts_extract, hb]
            simp [hsz]
          · simp [star?, hall] at hu
        | false =>
          have hd : ¬ (List.drop 1 (42 :: l)).all okByte = true := by
            show ¬ l.all okByte = true
            rw [hall]; simp
          rw [if_neg hd]
          refine ⟨⟨#[]⟩, by simp [star?, hall], fun u hu => ?_, fun _ => rfl⟩
          simp [star?, hall] at hu
      · rw [if_pos (by
          intro h
          apply hc
          exact UInt8.toNat_inj.1 (by show c.toNat = 42; omega))]
        have hst : star? (c :: l) = none := by
          unfold star?
          split
          · rename_i t ht; cases ht; exact absurd rfl hc
          · rfl
        exact ⟨⟨#[]⟩, (by rw [hst]; rfl), fun u hu => (by rw [hst] at hu; cases hu), fun _ => rfl⟩

theorem ref03_Part_val (s : ByteArray) (hs : s.size ≤ big) : ref03_Part s = some (isPart (bts s)) := by
  have hbig : big = 1048576 := rfl
  obtain ⟨t, h, _, _⟩ := ref03_Star_val s hs
  unfold ref03_Part
  rw [h]
  simp only [bindK_some]
  rw [ref02_Component_val s (by omega)]
  cases hst : (star? (bts s)).isSome <;> simp [isPart, hst]

theorem pattern_shape_loop (xs : List ByteArray) (hl : xs.length ≤ big) (hp : ∀ s ∈ xs, ByteArray.size s ≤ big) : ∀ (k i fuel : Nat), i + k = xs.length → k < fuel →
    pattern_shape_L4 fuel (xs, (xs.length : Int), (i : Int)) = some (if (if i = 0 then shapeOK xs else (xs.drop i).all fun s => isPart (bts s)) = true then .inl () else .inr (.inl false))
  | 0, i, fuel + 1, h, _ => by
    have hd : xs.drop i = [] := List.drop_eq_nil_of_le (by omega)
    simp only [pattern_shape_L4, pattern_shape_L4_B, brK_ite]
    rw [if_neg (by omega), hd]
    by_cases h0 : i = 0
    · subst h0
      have : xs = [] := by simpa using hd
      subst this
      rfl
    · simp [h0]
  | k + 1, i, fuel + 1, h, hf => by
    have hbig : big = 1048576 := rfl
    have hi : i < xs.length := by omega
    have hd : xs.drop i = xs[i] :: xs.drop (i + 1) := List.drop_eq_getElem_cons hi
    simp only [pattern_shape_L4, pattern_shape_L4_B, brK_ite]
    rw [if_pos (by omega), listAt_nat, List.getElem?_eq_getElem hi]
    obtain ⟨t, ht, _, _⟩ := pattern_formOf_val xs[i] (hp _ (List.getElem_mem hi))
    simp only [bindK_some, ht]
    rw [wrap_succ (by omega)]
    have ih := pattern_shape_loop xs hl hp k (i + 1) fuel (by omega) (by omega)
    rw [if_neg (by omega : ¬ i + 1 = 0)] at ih
    rw [ih]
    by_cases h0 : i = 0
    · subst h0
      have hx : xs = xs[0] :: xs.drop 1 := by simpa using hd
      simp only [if_true]
      have hsh : shapeOK xs = (comp (bts xs[0]) && (xs.drop (0 + 1)).all fun s => isPart (bts s)) := by
        conv => lhs; rw [hx]
        rfl
      rw [hsh]
      by_cases hz : form (bts xs[0]) = 0
      · rw [if_pos hz]
        have hc : comp (bts xs[0]) = false := by
          have := (form_zero _).1 hz
          unfold isPart at this
          simp only [Bool.or_eq_false_iff] at this
          exact this.2
        rw [hc]; rfl
      · rw [if_neg hz]
        simp only [Int.natCast_zero, if_true]
        cases hc : comp (bts xs[0]) with
        | true =>
          rw [if_neg (fun h => h ((form_one _).2 hc))]
          simp only [Bool.true_and]
        | false =>
          rw [if_pos (fun h => by rw [(form_one _).1 h] at hc; cases hc)]
          rfl
    · rw [if_neg h0, hd, List.all_cons]
      cases hz : isPart (bts xs[i]) with
      | false => rw [if_pos ((form_zero _).2 hz)]; rfl
      | true =>
        rw [if_neg (fun h => by rw [(form_zero _).1 h] at hz; cases hz), if_neg (by omega)]
        simp only [Bool.true_and]

theorem pattern_Check_val (p : Pat) (h : SmallP p) : pattern_Check p = some (patErr p) := by
  have hbig : big = 1048576 := rfl
  have hlen := h.len
  unfold pattern_Check pattern_shape pattern_shape_L4_f
  have hl := pattern_shape_loop p.1 h.len h.part p.1.length 0 (p.1.length + Int.natAbs p.1.length + Int.natAbs 0 + 1000) (by omega) (by omega)
  rw [show ((0 : Nat) : Int) = 0 from rfl] at hl
  simp only [if_true] at hl
  rw [hl]
  simp only [brK_ite, bindK_some]
  unfold patErr
  by_cases h0 : p.1.length = 0
  · simp [h0]
  · rw [if_neg (by omega)]
    by_cases h1 : p.1.length = 1
    · rw [if_pos (by omega)]
      cases hr : p.2 with
      | false => simp [h1]
      | true =>
        cases hs : shapeOK p.1 <;> simp [h0, h1]
    · rw [if_neg (by omega)]
      cases hs : shapeOK p.1 with
      | false => simp
      | true =>
        simp [h0, h1]
        by_cases h12 : 12 < p.1.length
        · rw [if_pos h12, if_pos (by omega)]
        · rw [if_neg h12, if_neg (by omega)]
end Go.Proofs.YtcmfkmhmehhkpaaDoor

set_option linter.unusedSimpArgs false
set_option linter.unusedVariables false
namespace Go.Proofs.YtcmfkmhmehhkpaaDoor
open Go Go.Ai
theorem ref03_Check_loop (p : Pat) (xs : List ByteArray) (hl : xs.length ≤ big) (hp : ∀ s ∈ xs, ByteArray.size s ≤ big) : ∀ (k i fuel : Nat), i + k = xs.length → k < fuel →
    ref03_Check_L4 fuel (p, xs, (xs.length : Int), (i : Int)) = some (if ((xs.drop i).all fun s => isPart (bts s)) = true then .inl p else .inr (.inl 30))
  | 0, i, fuel + 1, h, _ => by
    have hd : xs.drop i = [] := List.drop_eq_nil_of_le (by omega)
    simp only [ref03_Check_L4, ref03_Check_L4_B, brK_ite]
    rw [if_neg (by omega), hd]
    rfl
  | k + 1, i, fuel + 1, h, hf => by
    have hbig : big = 1048576 := rfl
    have hi : i < xs.length := by omega
    have hd : xs.drop i = xs[i] :: xs.drop (i + 1) := List.drop_eq_getElem_cons hi
    simp only [ref03_Check_L4, ref03_Check_L4_B, brK_ite]
    rw [if_pos (by omega), listAt_nat, List.getElem?_eq_getElem hi]
    simp only [bindK_some, ref03_Part_val _ (hp _ (List.getElem_mem hi))]
    rw [wrap_succ (by omega), ref03_Check_loop p xs hl hp k (i + 1) fuel (by omega) (by omega), hd, List.all_cons]
    cases isPart (bts xs[i]) <;> simp

theorem ref03_Check_val (p : Pat) (h : SmallP p) : ref03_Check p = some (patErr p) := by
  have hbig : big = 1048576 := rfl
  have hlen := h.len
  unfold ref03_Check patErr
  simp only [brK_ite]
  cases hx : p.1 with
  | nil => simp
  | cons s r =>
    rw [hx] at hlen
    have hs : ByteArray.size s ≤ big := h.part s (by rw [hx]; simp)
    have hr : ∀ z ∈ r, ByteArray.size z ≤ big := fun z hz => h.part z (by rw [hx]; simp [hz])
    have hrl : r.length ≤ big := by simp at hlen; omega
    have htail : List.drop (Int.toNat 1) (List.take (Int.toNat ((s :: r).length : Int)) (s :: r)) = r := by
      rw [Int.toNat_natCast, List.take_length]; rfl
    have hloop : ref03_Check_L4_f (p, r, (r.length : Int), 0) = some (if (r.all fun s => isPart (bts s)) = true then .inl p else .inr (.inl 30)) := by
      unfold ref03_Check_L4_f
      have := ref03_Check_loop p r hrl hr r.length 0 (List.length p.1 + List.length r + Int.natAbs r.length + Int.natAbs 0 + 1000) (by omega) (by omega)
      rw [show ((0 : Nat) : Int) = 0 from rfl] at this
      simpa using this
    have h0 : listAt (s :: r) 0 = some s := rfl
    have hsz : (1 : Int) ≤ ((s :: r).length : Int) := by simp; omega
    have main : (bindK (listAt (s :: r) 0) fun e1008 => bindK (ref02_Component e1008) fun r1009 => brK (!r1009) (some (30 : Int))
        (if 0 ≤ (1 : Int) ∧ (1 : Int) ≤ ((s :: r).length : Int) ∧ ((s :: r).length : Int) ≤ ((s :: r).length : Int) then
        (bindK (ref03_Check_L4_f (p, (List.drop (Int.toNat 1) (List.take (Int.toNat ((s :: r).length : Int)) (s :: r))), ((List.drop (Int.toNat 1) (List.take (Int.toNat ((s :: r).length : Int)) (s :: r))).length : Int), 0)) fun o1010 =>
        sumK o1010 (fun y1011 => if (y1011.1.length : Int) > 12 then some 31 else some 0) (fun z1012 => sumK z1012 (fun y1013 => some y1013) (fun z1014 => emptyK z1014))) else none)) =
        some (if shapeOK (s :: r) = false then 30 else if 12 < (s :: r).length then 31 else 0) := by
      rw [h0, htail, hloop]
      simp only [bindK_some, ref02_Component_val s (by omega)]
      rw [if_pos ⟨by omega, hsz, by omega⟩]
      have hsh : shapeOK (s :: r) = (comp (bts s) && r.all fun s => isPart (bts s)) := rfl
      by_cases hc : comp (bts s) = true
      · rw [hc]
        by_cases hall : (r.all fun s => isPart (bts s)) = true
        · have hb : shapeOK (s :: r) = true := by rw [hsh, hc, hall]; rfl
          rw [hall, hb]
          simp only [Bool.not_true, brK_false, if_true, sumK_inl, hx, Bool.true_eq_false, if_false]
          by_cases h12 : 12 < (s :: r).length
          · rw [if_pos (by omega), if_pos h12]
          · rw [if_neg (by omega), if_neg h12]
        · have hall' : (r.all fun s => isPart (bts s)) = false := by simpa using hall
          have hb : shapeOK (s :: r) = false := by rw [hsh, hc, hall']; rfl
          rw [hall', hb]
          simp
      · have hc' : comp (bts s) = false := by simpa using hc
        have hb : shapeOK (s :: r) = false := by rw [hsh, hc']; rfl
        rw [hc', hb]
        simp
    have hne : ¬ ((s :: r).length : Int) = 0 := by simp; omega
    rw [if_neg hne]
    by_cases h1 : ((s :: r).length : Int) = 1
    · rw [if_pos h1]
      have h1' : (s :: r).length = 1 := by omega
      cases hr2 : p.2 with
      | false => simp [h1']
      | true =>
        simp only [Bool.not_true, brK_false]
        rw [main]
        congr 1
        have e : ((s :: r).length = 0 ∨ ((s :: r).length = 1 ∧ true = false) ∨ shapeOK (s :: r) = false) ↔ shapeOK (s :: r) = false := by simp
        simp only [e]
    · rw [if_neg h1, main]
      have h1' : ¬ (s :: r).length = 1 := by omega
      congr 1
      have e : ((s :: r).length = 0 ∨ ((s :: r).length = 1 ∧ p.2 = false) ∨ shapeOK (s :: r) = false) ↔ shapeOK (s :: r) = false := by
        constructor
        · rintro (h | ⟨h, _⟩ | h)
          · simp at h
          · exact absurd h h1'
          · exact h
        · exact fun h => .inr (.inr h)
      simp only [e]
end Go.Proofs.YtcmfkmhmehhkpaaDoor

set_option linter.unusedSimpArgs false
set_option linter.unusedVariables false
namespace Go.Proofs.YtcmfkmhmehhkpaaDoor
open Go Go.Ai
/-! ### Lines and views -/
end Go.Proofs.YtcmfkmhmehhkpaaDoor

set_option linter.unusedSimpArgs false
set_option linter.unusedVariables false
set_option maxRecDepth 100000
namespace Go.Proofs.YtcmfkmhmehhkpaaDoor
open Go Go.Ai

end Go.Proofs.YtcmfkmhmehhkpaaDoor

set_option linter.unusedSimpArgs false
set_option linter.unusedVariables false
set_option maxRecDepth 100000
namespace Go.Proofs.YtcmfkmhmehhkpaaDoor
open Go Go.Ai
theorem path_directory_val (s : ByteArray) (hs : s.size ≤ huge) : path_directory s = some (match dirWords s with | some ws => (ws, true) | none => ([], false)) := by
  have hh : huge = 1073741824 := rfl
  unfold path_directory
  rw [CutPrefix_val]
  by_cases h : bts root <+: bts s
  · obtain ⟨r, hr⟩ := h
    have hr' : bts s = 47 :: 47 :: r := by rw [← hr]; rfl
    rw [if_pos ⟨r, hr⟩]
    have hx : bts (s.extract root.size s.size) = r := by
      have hl : s.size = (47 :: 47 :: r).length := by rw [size_bts, hr']
      rw [bts_extract, hr', hl, List.take_length]
      rfl
    have hxs : (s.extract root.size s.size).size ≤ s.size := by rw [size_bts, hx, size_bts, hr']; simp; omega
    simp only [bindK_some, Bool.not_true, brK_false]
    unfold strings_Split
    simp only
    rw [splitF_cut _ _ (show (s.extract root.size s.size).size < 4294967281 by omega), hx]
    simp only [bindK_some]
    have hlen : ((cutAt 47 r).map ofB).length ≤ huge + 1 := by
      have := (cutAt_length 47 r).1
      rw [← hx, ← size_bts] at this
      rw [List.length_map]
      rw [hx] at this
      omega
    have hsz : ∀ w ∈ (cutAt 47 r).map ofB, ByteArray.size w ≤ huge := by
      intro w hw
      obtain ⟨l, hl, rfl⟩ := List.mem_map.1 hw
      have h1 := (cutAt_length 47 r).2
      have h2 := sum_mem List.length hl
      rw [size_ofB]
      have h3 : r.length ≤ huge := by rw [← hx, ← size_bts]; omega
      omega
    have hd : dirWords s = if ((cutAt 47 r).map ofB).all compB = true then some ((cutAt 47 r).map ofB) else none := by
      simp only [dirWords, hr']
    rw [hd]
    generalize (cutAt 47 r).map ofB = ws at hlen hsz ⊢
    unfold path_directory_L6_f
    have := all_loop (F := path_directory_L6) (B := path_directory_L6_B) (fun _ _ => rfl) ws (fun i => (ws, ws, (ws.length : Int), (i : Int))) compB (.inr (.inl ([], false))) (.inl ws)
      (fun rec i h => by
        simp only [path_directory_L6_B, brK_ite]
        rw [if_pos (by omega), listAt_nat, List.getElem?_eq_getElem h]
        simp only [bindK_some, path_Component_val _ (show ByteArray.size ws[i] ≤ 4611686018427387904 from by have := hsz _ (List.getElem_mem h); omega)]
        rw [wrap_succ (by omega)]
        show brK (!compB ws[i]) _ _ = _
        cases compB ws[i] <;> rfl)
      (fun rec => by
        simp only [path_directory_L6_B, brK_ite]
        rw [if_neg (by omega)]) ws.length 0 (List.length ws + List.length ws + Int.natAbs (ws.length : Int) + Int.natAbs 0 + 1000) (by omega) (by omega)
    rw [show ((0 : Nat) : Int) = 0 from rfl, List.drop_zero] at this
    rw [this]
    cases ws.all compB <;> rfl
  · rw [if_neg h]
    have hd : dirWords s = none := by
      unfold dirWords
      split
      · rename_i r hr
        exact absurd ⟨r, by rw [hr]; rfl⟩ h
      · rfl
    rw [hd]
    rfl

theorem path_Split_val (s : ByteArray) (hs : s.size ≤ huge) : path_Split s = some (match pathWords s with | some ws => (ws, 0) | none => ([], 20)) := by
  unfold path_Split pathWords
  rw [path_directory_val s hs]
  cases dirWords s with
  | none => rfl
  | some ws =>
    simp only [bindK_some, Bool.not_true, brK_false, brK_ite, Option.bind_some]
    by_cases h : 2 ≤ ws.length
    · rw [if_neg (by omega), if_pos h]
    · rw [if_pos (by omega), if_neg h]

/-! ### References -/
theorem strings_HasPrefix_val (x : ByteArray × ByteArray) : strings_HasPrefix x = some (decide (bts x.2 <+: bts x.1)) := by
  unfold strings_HasPrefix
  rw [HasPrefix_val]
  rfl
theorem ref02_Parts_val (s : ByteArray) (hs : s.size ≤ huge) : ref02_Parts s = some (match dirWords s with | some ws => (ws, true) | none => ([], false)) := by
  have hh : huge = 1073741824 := rfl
  unfold ref02_Parts
  rw [strings_HasPrefix_val]
  by_cases h : bts root <+: bts s
  · obtain ⟨r, hr⟩ := h
    have hr' : bts s = 47 :: 47 :: r := by rw [← hr]; rfl
    rw [decide_eq_true (p := bts (ByteArray.mk #[47, 47]) <+: bts s) ⟨r, hr⟩]
    have hl : s.size = r.length + 2 := by rw [size_bts, hr']; rfl
    have hx : bts (s.extract 2 s.size) = r := by
      rw [bts_extract, hr', hl]
      simp
    simp only [bindK_some, Bool.not_true, brK_false, brK_ite]
    rw [if_pos ⟨by omega, by omega, by omega⟩]
    have e2 : Int.toNat 2 = 2 := rfl
    rw [Int.toNat_natCast, e2]
    have hxs : (s.extract 2 s.size).size ≤ s.size := by rw [size_bts, hx, size_bts, hr']; simp; omega
    unfold strings_Split
    simp only
    rw [splitF_cut _ _ (by omega), hx]
    simp only [bindK_some]
    have hlen : ((cutAt 47 r).map ofB).length ≤ huge + 1 := by
      have := (cutAt_length 47 r).1
      rw [List.length_map]
      omega
    have hsz : ∀ w ∈ (cutAt 47 r).map ofB, ByteArray.size w ≤ huge := by
      intro w hw
      obtain ⟨l, hl', rfl⟩ := List.mem_map.1 hw
      have h1 := (cutAt_length 47 r).2
      have h2 := sum_mem List.length hl'
      rw [size_ofB]
      omega
    have hd : dirWords s = if ((cutAt 47 r).map ofB).all compB = true then some ((cutAt 47 r).map ofB) else none := by
      simp only [dirWords, hr']
    rw [hd]
    generalize (cutAt 47 r).map ofB = ws at hlen hsz ⊢
    unfold ref02_Parts_L5_f
    have := all_loop (F := ref02_Parts_L5) (B := ref02_Parts_L5_B) (fun _ _ => rfl) ws (fun i => (ws, ws, (ws.length : Int), (i : Int))) compB (.inr (.inl ([], false))) (.inl ws)
      (fun rec i h => by
        simp only [ref02_Parts_L5_B, brK_ite]
        rw [if_pos (by omega), listAt_nat, List.getElem?_eq_getElem h]
        simp only [bindK_some, ref02_Component_val _ (show ByteArray.size ws[i] ≤ 4611686018427387904 from by have := hsz _ (List.getElem_mem h); omega)]
        rw [wrap_succ (by omega)]
        show brK (!compB ws[i]) _ _ = _
        cases compB ws[i] <;> rfl)
      (fun rec => by
        simp only [ref02_Parts_L5_B, brK_ite]
        rw [if_neg (by omega)]) ws.length 0 (List.length ws + List.length ws + Int.natAbs (ws.length : Int) + Int.natAbs 0 + 1000) (by omega) (by omega)
    rw [show ((0 : Nat) : Int) = 0 from rfl, List.drop_zero] at this
    rw [this]
    cases ws.all compB <;> rfl
  · rw [decide_eq_false h]
    have hd : dirWords s = none := by
      unfold dirWords
      split
      · rename_i r hr
        exact absurd ⟨r, by rw [hr]; rfl⟩ h
      · rfl
    rw [hd]
    rfl
theorem ref02_Path_val (s : ByteArray) (hs : s.size ≤ huge) : ref02_Path s = some (match pathWords s with | some ws => (ws, true) | none => ([], false)) := by
  unfold ref02_Path pathWords
  rw [ref02_Parts_val s hs]
  cases dirWords s with
  | none => rfl
  | some ws =>
    simp only [bindK_some, Bool.not_true, brK_false, brK_ite, Option.bind_some]
    by_cases h : 2 ≤ ws.length
    · rw [if_neg (by omega), if_pos h]
    · rw [if_pos (by omega), if_neg h]
end Go.Proofs.YtcmfkmhmehhkpaaDoor

set_option linter.unusedSimpArgs false
set_option linter.unusedVariables false
set_option maxRecDepth 100000
namespace Go.Proofs.YtcmfkmhmehhkpaaDoor
open Go Go.Ai
/-! ### Match -/
theorem HasSuffix_val (x : ByteArray × ByteArray) (h1 : x.1.size ≤ huge) (h2 : x.2.size ≤ huge) : strings_HasSuffix x = some (decide (bts x.2 <:+ bts x.1)) := by
  have hh : huge = 1073741824 := rfl
  unfold strings_HasSuffix stringslite_HasSuffix
  simp only [brK_ite]
  by_cases h : (x.1.size : Int) ≥ x.2.size
  · rw [if_pos h, wrap_id (by omega) (by omega), if_pos ⟨by omega, by omega, by omega⟩, bindK_some]
    congr 1
    have e : (x.1.extract (Int.toNat ((x.1.size : Int) - x.2.size)) (Int.toNat (x.1.size : Int)) = x.2) ↔ bts x.2 <:+ bts x.1 := by
      rw [bts_eq, bts_extract, Int.toNat_natCast, show Int.toNat ((x.1.size : Int) - x.2.size) = x.1.size - x.2.size by omega]
      rw [size_bts x.1, List.take_length, size_bts x.2]
      constructor
      · intro h
        rw [← h]
        exact List.drop_suffix _ _
      · intro h
        exact (List.suffix_iff_eq_drop.1 h).symm
    exact decide_eq_decide.2 e
  · rw [if_neg h, bindK_some]
    congr 1
    symm
    apply decide_eq_false
    intro hp
    have := hp.length_le
    rw [← size_bts, ← size_bts] at this
    omega

theorem pattern_capture_val (w s : ByteArray) (h1 : w.size ≤ huge) (h2 : s.size ≤ huge) : pattern_capture (w, s) = some (match capt (bts w) (bts s) with | some x => (ofB x, true) | none => (⟨#[]⟩, false)) := by
  have hh : huge = 1073741824 := rfl
  unfold pattern_capture
  simp only [brK_ite]
  have e1 : (w.size : Int) > s.size ↔ (bts s).length < (bts w).length := by rw [← size_bts, ← size_bts]; omega
  unfold capt
  by_cases h : (w.size : Int) > s.size
  · rw [if_pos h, HasSuffix_val _ h1 h2, bindK_some]
    by_cases hs : bts s <:+ bts w
    · rw [decide_eq_true (p := bts s <:+ bts w) hs, if_pos (show bts s <:+ bts w ∧ (bts s).length < (bts w).length from ⟨hs, e1.1 h⟩), brK_true, wrap_id (by omega) (by omega), if_pos ⟨by omega, by omega, by omega⟩]
      congr 2
      apply bts_inj
      rw [bts_ofB, bts_extract, show Int.toNat ((w.size : Int) - s.size) = w.size - s.size by omega, size_bts, size_bts]
      rfl
    · rw [decide_eq_false (p := bts s <:+ bts w) hs, if_neg (show ¬ (bts s <:+ bts w ∧ (bts s).length < (bts w).length) from fun h => hs h.1)]
      rfl
  · rw [if_neg h, if_neg (fun hc => h (e1.2 hc.2))]

theorem pattern_Match_loop (p : Pat) (ps ws : List ByteArray) (n : Int) (hl : ps.length ≤ 12) (hpl : ps.length ≤ ws.length) (hp : ∀ s ∈ ps, ByteArray.size s ≤ big) (hpart : ∀ s ∈ ps, isPart (bts s) = true) (hw : ∀ s ∈ ws, ByteArray.size s ≤ huge) : ∀ (k i fuel : Nat) (out : List ByteArray), i + k = ps.length → out.length ≤ i → k < fuel →
    pattern_Match_L7 fuel (p, ws, n, out, ps, (ps.length : Int), (i : Int)) = some (match mparts (ps.drop i) (ws.drop i) with | some cs => .inl (p, ws, n, out ++ cs) | none => .inr (.inl ([], false)))
  | 0, i, fuel + 1, out, h, ho, _ => by
    have hd : ps.drop i = [] := List.drop_eq_nil_of_le (by omega)
    simp only [pattern_Match_L7, pattern_Match_L7_B, brK_ite]
    rw [if_neg (by omega), hd]
    simp [mparts]
  | k + 1, i, fuel + 1, out, h, ho, hf => by
    have hbig : big = 1048576 := rfl
    have hh : huge = 1073741824 := rfl
    have hi : i < ps.length := by omega
    have hiw : i < ws.length := by omega
    have hd : ps.drop i = ps[i] :: ps.drop (i + 1) := List.drop_eq_getElem_cons hi
    have hdw : ws.drop i = ws[i] :: ws.drop (i + 1) := List.drop_eq_getElem_cons hiw
    have hsp := hp _ (List.getElem_mem hi)
    have hsw := hw _ (List.getElem_mem hiw)
    have hpt := hpart _ (List.getElem_mem hi)
    simp only [pattern_Match_L7, pattern_Match_L7_B, brK_ite]
    rw [if_pos (by omega), listAt_nat, List.getElem?_eq_getElem hi, listAt_nat, List.getElem?_eq_getElem hiw]
    obtain ⟨t, ht, ht1, ht2⟩ := pattern_formOf_val ps[i] hsp
    simp only [bindK_some, ht]
    rw [wrap_succ (by omega), hd, hdw]
    simp only [mparts]
    cases hst : star? (bts ps[i]) with
    | none =>
      have hc : comp (bts ps[i]) = true := by
        unfold isPart at hpt
        rw [hst] at hpt
        simpa using hpt
      rw [if_pos ((form_one _).2 hc)]
      simp only [mpart, hst]
      by_cases he : ws[i] = ps[i]
      · rw [if_neg (fun h => h he), if_pos he]
        simp only [Option.bind_some, List.nil_append]
        rw [pattern_Match_loop p ps ws n hl hpl hp hpart hw k (i + 1) fuel out (by omega) (by omega) (by omega)]
        cases mparts (ps.drop (i + 1)) (ws.drop (i + 1)) <;> simp
      · rw [if_pos he, if_neg he]
        rfl
    | some s =>
      have hnc : ¬ form (bts ps[i]) = 1 := by
        intro h1
        have h2 := star_comp ((form_one _).1 h1)
        rw [hst] at h2
        cases h2
      rw [if_neg hnc]
      have hts : bts t = s := ht1 s hst
      have htsz : t.size ≤ huge := by
        rw [size_bts, hts]
        have := (star_all hst).1
        have h2 := hsp
        rw [size_bts, this] at h2
        simp at h2
        omega
      rw [pattern_capture_val _ _ hsw htsz, hts]
      simp only [bindK_some, mpart, hst]
      cases hcap : capt (bts ws[i]) s with
      | none => rfl
      | some x =>
        simp only [Bool.not_true, brK_false, Option.map_some, Option.bind_some]
        rw [fits_small (by omega) (by simp) (by omega), brK_true]
        rw [pattern_Match_loop p ps ws n hl hpl hp hpart hw k (i + 1) fuel (out ++ [ofB x]) (by omega) (by simp; omega) (by omega)]
        cases mparts (ps.drop (i + 1)) (ws.drop (i + 1)) <;> simp

theorem pathWords_small {s : ByteArray} {ws : List ByteArray} (h : pathWords s = some ws) : ws.length ≤ s.size ∧ (ws.map ByteArray.size).sum ≤ s.size ∧ ∀ w ∈ ws, ByteArray.size w ≤ s.size := by
  obtain ⟨h1, h2, h3⟩ := pathWords_some h
  unfold pathWords dirWords at h
  obtain ⟨us, hu, h⟩ := Option.bind_eq_some_iff.1 h
  split at h
  · cases h
    split at hu
    · rename_i r hr
      split at hu
      · cases hu
        have h4 := cutAt_length 47 r
        have h5 : s.size = r.length + 2 := by rw [size_bts, hr]; rfl
        have h6 : (((cutAt 47 r).map ofB).map ByteArray.size).sum ≤ s.size := by
          rw [List.map_map]
          have : (cutAt 47 r).map (ByteArray.size ∘ ofB) = (cutAt 47 r).map List.length := List.map_congr_left fun x _ => size_ofB x
          rw [this]
          omega
        refine ⟨by rw [List.length_map]; omega, h6, fun w hw => ?_⟩
        have := sum_mem ByteArray.size hw
        omega
      · cases hu
    · cases hu
  · cases h

theorem pattern_Match_val (p : Pat) (s : ByteArray) (hp : SmallP p) (hs : s.size ≤ huge) : pattern_Match (p, s) = some (matchR p s) := by
  have hbig : big = 1048576 := rfl
  have hh : huge = 1073741824 := rfl
  unfold pattern_Match matchR
  simp only
  rw [path_Split_val s hs, pattern_Check_val p hp]
  cases hw : pathWords s with
  | none => rfl
  | some ws =>
    simp only [bindK_some, Option.bind_some, brK_ite]
    rw [if_neg (by decide)]
    unfold mwords
    by_cases h0 : patErr p = 0
    · rw [if_neg (fun h => h h0)]
      obtain ⟨hwl, hws, hww⟩ := pathWords_small hw
      obtain ⟨h1, h2, h3, h4⟩ := patErr_zero.1 h0
      have hlen : lenOK p ws.length = true ↔ (¬ ((ws.length : Int) < p.1.length) ∧ (!(decide ((ws.length : Int) > p.1.length) == p.2)) = false) := by
        unfold lenOK
        cases p.2 with
        | true =>
          simp only [if_true, decide_eq_true_eq, Bool.not_eq_false', beq_iff_eq]
          omega
        | false =>
          simp only [Bool.false_eq_true, if_false, decide_eq_true_eq, Bool.not_eq_false', beq_iff_eq, decide_eq_false_iff_not]
          omega
      by_cases hl : lenOK p ws.length = true
      · obtain ⟨h5, h6⟩ := hlen.1 hl
        rw [if_neg h5, h6, brK_false, if_pos ⟨h0, hl⟩]
        have hpl : p.1.length ≤ ws.length := by omega
        have hloop := pattern_Match_loop p p.1 ws p.1.length h4 hpl hp.part (shapeOK_parts h3) (fun w hw' => by have := hww w hw'; omega) p.1.length 0
          (List.length p.1 + List.length ws + Int.natAbs (p.1.length : Int) + List.length ([] : List ByteArray) + List.length p.1 + Int.natAbs (p.1.length : Int) + Int.natAbs 0 + 1000) [] (by omega) (by simp) (by omega)
        rw [show ((0 : Nat) : Int) = 0 from rfl] at hloop
        unfold pattern_Match_L7_f
        rw [hloop, List.drop_zero, List.drop_zero]
        cases hm : mparts p.1 ws with
        | none => rfl
        | some cs =>
          simp only [bindK_some, sumK_inl, Option.map_some, List.nil_append]
          have hcl := (mparts_length hm).2
          have hst := stars_le p.1
          unfold capList
          cases hr : p.2 with
          | false => simp
          | true =>
            simp only [brK_true, if_true, brK_ite]
            rw [if_pos ⟨by omega, by omega, by omega⟩]
            have e1 : List.take (Int.toNat (ws.length : Int)) ws = ws := by rw [Int.toNat_natCast, List.take_length]
            rw [e1, Int.toNat_natCast]
            unfold strings_Join
            simp only
            have hdsum : ((ws.drop p.1.length).map ByteArray.size).sum ≤ (ws.map ByteArray.size).sum := by
              conv => rhs; rw [← List.take_append_drop p.1.length ws]
              rw [List.map_append, List.sum_append]
              omega
            rw [joinF_val _ _ (by rw [List.length_drop]; omega) (by omega), bindK_some, fits_small (by omega) (by simp) (by omega), brK_true]
      · rw [if_neg (show ¬ (patErr p = 0 ∧ lenOK p ws.length = true) from fun h => hl h.2)]
        by_cases h5 : (ws.length : Int) < p.1.length
        · rw [if_pos h5]
        · rw [if_neg h5]
          have h6 : (!(decide ((ws.length : Int) > p.1.length) == p.2)) = true := by
            cases h7 : (!(decide ((ws.length : Int) > p.1.length) == p.2)) with
            | true => rfl
            | false => exact absurd (hlen.2 ⟨h5, h7⟩) hl
          rw [h6, brK_true]
    · rw [if_pos h0, if_neg (fun h => h0 h.1)]
end Go.Proofs.YtcmfkmhmehhkpaaDoor
