/- A part of the proof of a law of this seat (M10, M11, M12, M13, M14). -/
import Derived.Test.YtaibnjoobijplaaDoorMa
import Derived.Test.YtaibnjoobijplaaDoorAc
set_option linter.unusedSimpArgs false
set_option linter.unusedVariables false
set_option maxRecDepth 100000
namespace Go.Proofs.YtaibnjoobijplaaDoor
open Go Go.Ai

/-! ### The reference's match -/
theorem ref03_Capture_val (p w : ByteArray) (h1 : p.size ≤ big) (h2 : w.size ≤ huge) : ref03_Capture (p, w) = some (capR p w) := by
  have hbig : big = 1048576 := rfl
  have hh : huge = 1073741824 := rfl
  obtain ⟨t, ht, ht1, ht2⟩ := ref03_Star_val p h1
  unfold ref03_Capture capR
  simp only
  rw [ht, bindK_some]
  cases hs : star? (bts p) with
  | none => simp
  | some s =>
    have hts : bts t = s := ht1 s hs
    have htsz : t.size = s.length := by rw [size_bts, hts]
    have htp := star_size hs
    simp only [Option.isSome_some, Bool.not_true, brK_false]
    rw [HasSuffix_val _ h2 (by show t.size ≤ huge; omega), bindK_some]
    simp only [hts]
    by_cases h : s <:+ bts w
    · have hl := h.length_le
      rw [← size_bts] at hl
      rw [decide_eq_true h, if_pos h, wrap_id (by omega) (by omega), brK_ite, if_pos ⟨by omega, by omega, by omega⟩]
      simp only [Bool.not_true, brK_false]
      have e : w.extract (Int.toNat 0) (Int.toNat ((w.size : Int) - t.size)) = ofB ((bts w).take ((bts w).length - s.length)) := by
        apply bts_inj
        rw [bts_ofB, bts_extract, show Int.toNat ((w.size : Int) - t.size) = w.size - t.size by omega, htsz, size_bts]
        rfl
      rw [e, ref02_Component_val _ (by rw [size_ofB, List.length_take, ← size_bts]; omega), bts_ofB]
      rfl
    · rw [decide_eq_false h, if_neg h]
      rfl

theorem ref03_Match_loop (p : Pat) (ps ws : List ByteArray) (n : Int) (hl : ps.length ≤ 12) (hpl : ps.length ≤ ws.length) (hp : ∀ s ∈ ps, ByteArray.size s ≤ big) (hw : ∀ s ∈ ws, ByteArray.size s ≤ huge) (hc : ws.all compB = true) : ∀ (k i fuel : Nat) (out : List ByteArray), i + k = ps.length → out.length ≤ i → k < fuel →
    ref03_Match_L7 fuel (p, ws, n, out, ps, (ps.length : Int), (i : Int)) = some (match mparts (ps.drop i) (ws.drop i) with | some cs => .inl (p, ws, n, out ++ cs) | none => .inr (.inl ([], false)))
  | 0, i, fuel + 1, out, h, ho, _ => by
    have hd : ps.drop i = [] := List.drop_eq_nil_of_le (by omega)
    simp only [ref03_Match_L7, ref03_Match_L7_B, brK_ite]
    rw [if_neg (by omega), hd]
    simp [mparts]
  | k + 1, i, fuel + 1, out, h, ho, hf => by
    have hbig : big = 1048576 := rfl
    have hh : huge = 1073741824 := rfl
    have hi : i < ps.length := by omega
    have hiw : i < ws.length := by omega
    have hd : ps.drop i = ps[i] :: ps.drop (i + 1) := List.drop_eq_getElem_cons hi
    have hdw : ws.drop i = ws[i] :: ws.drop (i + 1) := List.drop_eq_getElem_cons hiw
    have hsp := hp _ (List.getElem_mem hi)
    have hsw := hw _ (List.getElem_mem hiw)
    have hcw : compB ws[i] = true := List.all_eq_true.1 hc _ (List.getElem_mem hiw)
    simp only [ref03_Match_L7, ref03_Match_L7_B, brK_ite]
    rw [if_pos (by omega), listAt_nat, List.getElem?_eq_getElem hi, listAt_nat, List.getElem?_eq_getElem hiw]
    obtain ⟨t, ht, ht1, ht2⟩ := ref03_Star_val ps[i] hsp
    simp only [bindK_some, ht, ref03_Capture_val _ _ hsp hsw]
    rw [wrap_succ (by omega), hd, hdw]
    simp only [mparts]
    have hcm := capR_mpart (p := ps[i]) hcw
    cases hm : mpart ps[i] ws[i] with
    | none =>
      rw [hm] at hcm
      simp only at hcm
      rw [hcm]
      rfl
    | some a =>
      rw [hm] at hcm
      simp only at hcm
      rw [hcm.1]
      simp only [Bool.not_true, brK_false, Option.bind_some]
      cases hst : (star? (bts ps[i])).isSome with
      | true =>
        have ha : a = [(capR ps[i] ws[i]).1] := by rw [hcm.2, if_pos hst]
        rw [fits_ok (by omega) (by simp) (by omega), brK_true, brK_true]
        rw [ref03_Match_loop p ps ws n hl hpl hp hw hc k (i + 1) fuel _ (by omega) (by simp; omega) (by omega), ha]
        cases mparts (ps.drop (i + 1)) (ws.drop (i + 1)) <;> simp
      | false =>
        have ha : a = [] := by rw [hcm.2, if_neg (by rw [hst]; simp)]
        rw [brK_false]
        rw [ref03_Match_loop p ps ws n hl hpl hp hw hc k (i + 1) fuel _ (by omega) (by omega) (by omega), ha]
        cases mparts (ps.drop (i + 1)) (ws.drop (i + 1)) <;> simp

theorem ref03_Match_val (p : Pat) (s : ByteArray) (hp : SmallP p) (hs : s.size ≤ huge) : ref03_Match (p, s) = some (matchR p s) := by
  have hbig : big = 1048576 := rfl
  have hh : huge = 1073741824 := rfl
  unfold ref03_Match matchR
  simp only
  rw [ref02_Path_val s hs, ref03_Check_val p hp]
  simp only [bindK_some]
  by_cases h0 : patErr p = 0
  case neg =>
    rw [brK_ite, if_pos h0]
    cases pathWords s with
    | none => rfl
    | some ws =>
      simp only [Option.bind_some, mwords]
      rw [if_neg (show ¬ (patErr p = 0 ∧ lenOK p ws.length = true) from fun h => h0 h.1)]
  rw [brK_ite, if_neg (fun h => h h0)]
  cases hw : pathWords s with
  | none => rfl
  | some ws =>
    simp only [Option.bind_some, brK_ite, Bool.not_true, brK_false]
    unfold mwords
    obtain ⟨hwl, hws, hww⟩ := pathWords_small hw
    obtain ⟨h1, h2, h3, h4⟩ := patErr_zero.1 h0
    have hcw := (pathWords_some hw).2.1
    by_cases h5 : (ws.length : Int) < p.1.length
    · rw [if_pos h5, if_neg (show ¬ (patErr p = 0 ∧ lenOK p ws.length = true) from fun h => by
        have := h.2
        unfold lenOK at this
        split at this <;> simp at this <;> omega)]
    · rw [if_neg h5]
      have hpl : p.1.length ≤ ws.length := by omega
      have hloop := ref03_Match_loop p p.1 ws p.1.length h4 hpl hp.part (fun w hw' => by have := hww w hw'; omega) hcw p.1.length 0
        (List.length p.1 + List.length ws + Int.natAbs (p.1.length : Int) + List.length ([] : List ByteArray) + List.length p.1 + Int.natAbs (p.1.length : Int) + Int.natAbs 0 + 1000) [] (by omega) (by simp) (by omega)
      rw [show ((0 : Nat) : Int) = 0 from rfl] at hloop
      unfold ref03_Match_L7_f
      rw [hloop, List.drop_zero, List.drop_zero]
      cases hr : p.2 with
      | false =>
        simp only [Bool.not_false, brK_true, brK_false]
        have hlen : lenOK p ws.length = true ↔ ¬ ((ws.length : Int) > p.1.length) := by
          unfold lenOK
          rw [hr]
          simp
          omega
        by_cases h6 : (ws.length : Int) > p.1.length
        · rw [if_pos h6, if_neg (show ¬ (patErr p = 0 ∧ lenOK p ws.length = true) from fun h => hlen.1 h.2 h6)]
        · rw [if_neg h6, if_pos (show patErr p = 0 ∧ lenOK p ws.length = true from ⟨h0, hlen.2 h6⟩)]
          cases hm : mparts p.1 ws with
          | none => rfl
          | some cs => simp [capList, hr]
      | true =>
        simp only [Bool.not_true, brK_true, brK_false]
        have hlen : lenOK p ws.length = true ↔ ¬ ((ws.length : Int) = p.1.length) := by
          unfold lenOK
          rw [hr]
          simp
          omega
        by_cases h6 : (ws.length : Int) = p.1.length
        · rw [if_pos h6, if_neg (show ¬ (patErr p = 0 ∧ lenOK p ws.length = true) from fun h => hlen.1 h.2 h6)]
        · rw [if_neg h6, if_pos (show patErr p = 0 ∧ lenOK p ws.length = true from ⟨h0, hlen.2 h6⟩)]
          cases hm : mparts p.1 ws with
          | none => rfl
          | some cs =>
            simp only [bindK_some, sumK_inl, Option.map_some, List.nil_append, hr, brK_true]
            have hcl := (mparts_length hm).2
            have hst := stars_le p.1
            rw [if_pos ⟨by omega, by omega, by omega⟩]
            have e1 : List.take (Int.toNat (ws.length : Int)) ws = ws := by rw [Int.toNat_natCast, List.take_length]
            rw [e1, Int.toNat_natCast]
            unfold strings_Join capList
            simp only
            have hdsum := ssz_drop ws p.1.length
            unfold ssz at hdsum
            rw [joinF_val _ _ (by rw [List.length_drop]; omega) (by omega), bindK_some, fits_small (by omega) (by simp) (by omega), brK_true]
            simp [hr]

/-! ### Join and Fill -/
theorem root_join (ws : List ByteArray) : (ByteArray.mk #[47, 47]) ++ ofB (joinAt 47 (ws.map bts)) = pathText ws := by
  apply bts_inj
  unfold pathText
  rw [bts_append, bts_ofB, bts_ofB]
  rfl
theorem size_join_le (ws : List ByteArray) : (ofB (joinAt 47 (ws.map bts))).size ≤ ssz ws + ws.length := by
  rw [size_ofB]
  have := joinAt_length 47 (ws.map bts)
  have e : (ws.map bts).map List.length = ws.map ByteArray.size := by
    rw [List.map_map]; exact List.map_congr_left fun x _ => (size_bts x).symm
  rw [e, List.length_map] at this
  unfold ssz
  omega

theorem path_Join_val (ws : List ByteArray) (h1 : ws.length ≤ 34359738368) (h2 : ssz ws ≤ 34359738368) : path_Join ws = some (if 2 ≤ ws.length ∧ ws.all compB = true then (pathText ws, 0) else (⟨#[]⟩, 21)) := by
  unfold path_Join
  rw [brK_ite]
  by_cases hl : 2 ≤ ws.length
  · rw [if_neg (by omega)]
    unfold path_Join_L4_f
    have := all_loop (F := path_Join_L4) (B := path_Join_L4_B) (fun _ _ => rfl) ws (fun i => (ws, ws, (ws.length : Int), (i : Int))) compB (.inr (.inl (⟨#[]⟩, 21))) (.inl ws)
      (fun rec i h => by
        simp only [path_Join_L4_B, brK_ite]
        rw [if_pos (by omega), listAt_nat, List.getElem?_eq_getElem h]
        simp only [bindK_some, path_Component_val _ (show ByteArray.size ws[i] ≤ 4611686018427387904 from by have := ssz_mem (List.getElem_mem h); omega)]
        rw [wrap_succ (by omega)]
        show brK (!compB ws[i]) _ _ = _
        cases compB ws[i] <;> rfl)
      (fun rec => by
        simp only [path_Join_L4_B, brK_ite]
        rw [if_neg (by omega)]) ws.length 0 (List.length ws + List.length ws + Int.natAbs (ws.length : Int) + Int.natAbs 0 + 1000) (by omega) (by omega)
    rw [show ((0 : Nat) : Int) = 0 from rfl, List.drop_zero] at this
    rw [this]
    cases hc : ws.all compB with
    | false => simp
    | true =>
      simp only [if_true, bindK_some, sumK_inl, and_true]
      unfold strings_Join
      simp only
      have hj := size_join_le ws
      rw [joinF_val _ _ (by omega) (by unfold ssz at h2; omega), bindK_some, brK_ite, if_pos (by
        have : (ByteArray.mk #[47, 47]).size = 2 := rfl
        omega), root_join, if_pos hl]
  · rw [if_pos (by omega), if_neg (fun h => hl h.1)]

theorem ref02_Join_val (ws : List ByteArray) (h1 : ws.length ≤ 34359738368) (h2 : ssz ws ≤ 34359738368) : ref02_Join ws = some (pathText ws) := by
  unfold ref02_Join strings_Join
  simp only
  have hj := size_join_le ws
  rw [joinF_val _ _ (by omega) (by unfold ssz at h2; omega), bindK_some, brK_ite, if_pos (by
    have : (ByteArray.mk #[47, 47]).size = 2 := rfl
    omega), root_join]

theorem pattern_Fill_loop (r : Bool) (tail ps : List ByteArray) (hl : ps.length ≤ 12) (hp : ∀ s ∈ ps, ByteArray.size s ≤ big) (ht : tail.length ≤ 1) : ∀ (k i fuel : Nat) (cs out : List ByteArray), i + k = ps.length → cs.length = stars (ps.drop i) → cs.all compB = true → (∀ s ∈ cs, ByteArray.size s ≤ huge) → out.length ≤ i → k < fuel →
    pattern_Fill_L11 fuel (cs ++ tail, r, out, ps, (ps.length : Int), (i : Int)) = some (.inl (tail, r, out ++ fillL (ps.drop i) cs))
  | 0, i, fuel + 1, cs, out, h, hcs, _, _, ho, _ => by
    have hd : ps.drop i = [] := List.drop_eq_nil_of_le (by omega)
    rw [hd] at hcs
    have : cs = [] := List.eq_nil_of_length_eq_zero (by simpa [stars] using hcs)
    subst this
    simp only [pattern_Fill_L11, pattern_Fill_L11_B, brK_ite]
    rw [if_neg (by omega), hd]
    simp [fillL]
  | k + 1, i, fuel + 1, cs, out, h, hcs, hcc, hsz, ho, hf => by
    have hbig : big = 1048576 := rfl
    have hh : huge = 1073741824 := rfl
    have hi : i < ps.length := by omega
    have hd : ps.drop i = ps[i] :: ps.drop (i + 1) := List.drop_eq_getElem_cons hi
    have hsp := hp _ (List.getElem_mem hi)
    rw [hd, stars_cons] at hcs
    simp only [pattern_Fill_L11, pattern_Fill_L11_B, brK_ite]
    rw [if_pos (by omega), listAt_nat, List.getElem?_eq_getElem hi]
    obtain ⟨t, ht', ht1, ht2⟩ := pattern_formOf_val ps[i] hsp
    simp only [bindK_some, ht']
    rw [wrap_succ (by omega), hd]
    simp only [fillL]
    cases hst : star? (bts ps[i]) with
    | none =>
      rw [hst] at hcs
      rw [if_neg (fun h => by have := (form_two _).1 h; rw [hst] at this; cases this)]
      rw [fits_ok (by omega) (by simp) (by omega), brK_true]
      rw [pattern_Fill_loop r tail ps hl hp ht k (i + 1) fuel cs (out ++ [ps[i]]) (by omega) (by simpa using hcs) hcc hsz (by simp; omega) (by omega)]
      simp
    | some s =>
      rw [hst] at hcs
      rw [if_pos ((form_two _).2 (by rw [hst]; rfl))]
      cases cs with
      | nil => simp at hcs
      | cons x cs =>
        have hcs' : cs.length = stars (ps.drop (i + 1)) := by simpa using hcs
        rw [List.all_cons, Bool.and_eq_true] at hcc
        have hx := hsz x (by simp)
        have hsl := stars_le (ps.drop (i + 1))
        rw [List.length_drop] at hsl
        have h0 : listAt (x :: cs ++ tail) 0 = some x := rfl
        have hts : bts t = s := ht1 s hst
        have htsz : t.size = s.length := by rw [size_bts, hts]
        have htp := star_size hst
        have hcx : path_Component x = some true := by
          rw [path_Component_val x (by omega)]
          exact congrArg some hcc.1
        rw [h0]
        simp only [bindK_some, hcx, Bool.not_true, brK_false]
        rw [if_pos (by omega), if_pos ⟨by omega, by simp; omega, by omega⟩, fits_ok (by omega) (by simp) (by omega), brK_true]
        have e1 : List.drop (Int.toNat 1) (List.take (Int.toNat ((x :: cs ++ tail).length : Int)) (x :: cs ++ tail)) = cs ++ tail := by
          rw [Int.toNat_natCast, List.take_length]; rfl
        have e2 : x ++ t = ofB (bts x ++ s) := by
          apply bts_inj
          rw [bts_append, bts_ofB, hts]
        rw [e1, e2, pattern_Fill_loop r tail ps hl hp ht k (i + 1) fuel cs (out ++ [ofB (bts x ++ s)]) (by omega) hcs' hcc.2 (fun s hs => hsz s (by simp [hs])) (by simp; omega) (by omega)]
        simp

theorem pattern_Fill_val (p q : Pat) (c : List ByteArray × List ByteArray) (hq : SmallP q) (h0 : patErr q = 0) (hr : p.2 = q.2) (hc : CapOK q c) (h1 : ssz c.1 + ssz c.2 ≤ huge) (h2 : c.2.length ≤ huge) : pattern_Fill (q, capList p c) = some (pathText (fillW q c), 0) := by
  have hbig : big = 1048576 := rfl
  have hh : huge = 1073741824 := rfl
  obtain ⟨g1, g2, g3, g4⟩ := patErr_zero.1 h0
  rw [capList_congr hr]
  have hsl := stars_le q.1
  have hcl := hc.len
  unfold pattern_Fill
  rw [pattern_Kinds_val q hq, if_neg (fun h => h h0)]
  simp only [bindK_some, brK_ite]
  rw [if_neg (by decide)]
  have hfc := fillW_comp h0 hc
  have hfl := fillW_length h0 hc
  have hfs : ssz (fillW q c) ≤ 12 * big + huge := by
    unfold fillW
    have h3 := fillL_ssz q.1 c.1
    have h4 := hq.ssz g4
    rw [ssz_append]
    omega
  have hjoin : path_Join (fillW q c) = some (pathText (fillW q c), 0) := by
    rw [path_Join_val _ (by omega) (by omega), if_pos ⟨hfl.2, hfc⟩]
  have hcsz : ∀ s ∈ c.1, ByteArray.size s ≤ huge := fun s hs => by have := ssz_mem hs; omega
  unfold pattern_Fill_L11_f
  cases hrr : q.2 with
  | false =>
    have hc2 : c.2 = [] := by
      apply Classical.byContradiction
      intro hne
      have := hc.rest.1 hne
      rw [hrr] at this
      cases this
    have hcap : capList q c = c.1 ++ [] := by unfold capList; rw [hrr]; rfl
    rw [hcap]
    simp only [brK_false]
    rw [if_neg (by simp; omega), if_pos ⟨by omega, by omega, by omega, by omega⟩]
    have hloop := pattern_Fill_loop false [] q.1 g4 hq.part (by simp) q.1.length 0
      (List.length (c.1 ++ []) + List.length (List.replicate (Int.toNat 0) (ByteArray.mk #[])) + List.length q.1 + Int.natAbs (q.1.length : Int) + Int.natAbs 0 + 1000) c.1 (List.replicate (Int.toNat 0) (ByteArray.mk #[])) (by omega) hc.len hc.comp1 hcsz (by simp) (by omega)
    rw [show ((0 : Nat) : Int) = 0 from rfl] at hloop
    rw [hloop]
    simp only [bindK_some, sumK_inl, brK_false]
    have e : List.replicate (Int.toNat 0) (ByteArray.mk #[]) ++ fillL (List.drop 0 q.1) c.1 = fillW q c := by
      unfold fillW; rw [hc2]; simp
    rw [e, hjoin]
    rfl
  | true =>
    have hne := hc.rest.2 hrr
    have hcap : capList q c = c.1 ++ [ofB (joinAt 47 (c.2.map bts))] := by unfold capList; rw [hrr]; rfl
    rw [hcap]
    simp only [brK_true]
    rw [if_neg (by rw [wrap_id (by omega) (by omega)]; simp; omega), if_pos ⟨by omega, by omega, by omega, by omega⟩]
    have hloop := pattern_Fill_loop true [ofB (joinAt 47 (c.2.map bts))] q.1 g4 hq.part (by simp) q.1.length 0
      (List.length (c.1 ++ [ofB (joinAt 47 (c.2.map bts))]) + List.length (List.replicate (Int.toNat 0) (ByteArray.mk #[])) + List.length q.1 + Int.natAbs (q.1.length : Int) + Int.natAbs 0 + 1000) c.1 (List.replicate (Int.toNat 0) (ByteArray.mk #[])) (by omega) hc.len hc.comp1 hcsz (by simp) (by omega)
    rw [show ((0 : Nat) : Int) = 0 from rfl] at hloop
    rw [hloop]
    simp only [bindK_some, sumK_inl, brK_true]
    have h00 : listAt [ofB (joinAt 47 (c.2.map bts))] 0 = some (ofB (joinAt 47 (c.2.map bts))) := rfl
    rw [h00, bindK_some]
    unfold strings_Split
    simp only
    have hjs := size_join_le c.2
    have hfree : ∀ w ∈ c.2.map bts, (47 : UInt8) ∉ w := by
      intro w hw
      obtain ⟨x, hx, rfl⟩ := List.mem_map.1 hw
      exact comp_slash (List.all_eq_true.1 hc.comp2 x hx)
    rw [splitF_cut _ _ (by omega), bts_ofB, cutAt_joinAt 47 (by simpa using hne) hfree, map_ofB_bts, bindK_some]
    have e : List.replicate (Int.toNat 0) (ByteArray.mk #[]) ++ fillL (List.drop 0 q.1) c.1 = fillL q.1 c.1 := by simp
    rw [e]
    have hfl1 := (fill_mparts (ps := q.1) c.2 hc.len hc.comp1).2
    rw [fits_ok (by omega) (by omega) (by omega), brK_true]
    have e2 : fillL q.1 c.1 ++ c.2 = fillW q c := rfl
    rw [e2, hjoin]
    rfl
end Go.Proofs.YtaibnjoobijplaaDoor

set_option linter.unusedSimpArgs false
set_option linter.unusedVariables false
set_option maxRecDepth 100000
namespace Go.Proofs.YtaibnjoobijplaaDoor
open Go Go.Ai

theorem ref03_Fill_loop (p : Pat) (cs0 tail ps : List ByteArray) (hl : ps.length ≤ 12) (hp : ∀ s ∈ ps, ByteArray.size s ≤ big) : ∀ (k i fuel : Nat) (done cs out : List ByteArray), cs0 = done ++ cs → done.length ≤ i → i + k = ps.length → cs.length = stars (ps.drop i) → cs.all compB = true → (∀ s ∈ cs, ByteArray.size s ≤ huge) → out.length ≤ i → k < fuel →
    ref03_Fill_L9 fuel (cs0 ++ tail, p, out, (done.length : Int), ps, (ps.length : Int), (i : Int)) = some (.inl (cs0 ++ tail, p, out ++ fillL (ps.drop i) cs, (cs0.length : Int)))
  | 0, i, fuel + 1, done, cs, out, hcs0, hdn, h, hcs, _, _, ho, _ => by
    have hd : ps.drop i = [] := List.drop_eq_nil_of_le (by omega)
    rw [hd] at hcs
    have : cs = [] := List.eq_nil_of_length_eq_zero (by simpa [stars] using hcs)
    subst this
    rw [List.append_nil] at hcs0
    subst hcs0
    simp only [ref03_Fill_L9, ref03_Fill_L9_B, brK_ite]
    rw [if_neg (by omega), hd]
    simp [fillL]
  | k + 1, i, fuel + 1, done, cs, out, hcs0, hdn, h, hcs, hcc, hsz, ho, hf => by
    have hbig : big = 1048576 := rfl
    have hh : huge = 1073741824 := rfl
    have hi : i < ps.length := by omega
    have hd : ps.drop i = ps[i] :: ps.drop (i + 1) := List.drop_eq_getElem_cons hi
    have hsp := hp _ (List.getElem_mem hi)
    rw [hd, stars_cons] at hcs
    simp only [ref03_Fill_L9, ref03_Fill_L9_B, brK_ite]
    rw [if_pos (by omega), listAt_nat, List.getElem?_eq_getElem hi]
    obtain ⟨t, ht', ht1, ht2⟩ := ref03_Star_val ps[i] hsp
    simp only [bindK_some, ht']
    rw [wrap_succ (i := i) (by omega), hd]
    simp only [fillL]
    cases hst : star? (bts ps[i]) with
    | none =>
      rw [hst] at hcs
      simp only [Option.isSome_none, brK_false]
      rw [fits_ok (by omega) (by simp) (by omega), brK_true]
      rw [ref03_Fill_loop p cs0 tail ps hl hp k (i + 1) fuel done cs (out ++ [ps[i]]) hcs0 (by omega) (by omega) (by simpa using hcs) hcc hsz (by simp; omega) (by omega)]
      simp
    | some s =>
      rw [hst] at hcs
      simp only [Option.isSome_some, brK_true]
      cases cs with
      | nil => simp at hcs
      | cons x cs =>
        have hcs' : cs.length = stars (ps.drop (i + 1)) := by simpa using hcs
        rw [List.all_cons, Bool.and_eq_true] at hcc
        have hx := hsz x (by simp)
        have h0 : listAt (cs0 ++ tail) (done.length : Int) = some x := by
          rw [listAt_nat, hcs0]; simp
        have hts : bts t = s := ht1 s hst
        have htsz : t.size = s.length := by rw [size_bts, hts]
        have htp := star_size hst
        have hcx : ref02_Component x = some true := by
          rw [ref02_Component_val x (by omega)]
          exact congrArg some hcc.1
        rw [h0]
        simp only [bindK_some, hcx, Bool.not_true, brK_false]
        rw [if_pos (by omega), fits_ok (by omega) (by simp) (by omega), brK_true]
        have e2 : x ++ t = ofB (bts x ++ s) := by
          apply bts_inj
          rw [bts_append, bts_ofB, hts]
        have e3 : IntKind.wrap .i64 ((done.length : Int) + 1) = ((done ++ [x]).length : Int) := by
          rw [wrap_succ (by omega)]; simp
        rw [e2, e3, ref03_Fill_loop p cs0 tail ps hl hp k (i + 1) fuel (done ++ [x]) cs (out ++ [ofB (bts x ++ s)]) (by rw [hcs0]; simp) (by simp; omega) (by omega) hcs' hcc.2 (fun s hs => hsz s (by simp [hs])) (by simp; omega) (by omega)]
        simp

theorem ref03_Fill_rest (xs : List ByteArray) (hs : ∀ s ∈ xs, ByteArray.size s ≤ huge) (hl : xs.length ≤ huge) (hc : xs.all compB = true) : ∀ (k i fuel : Nat) (out : List ByteArray), i + k = xs.length → out.length ≤ i + 12 → k < fuel →
    ref03_Fill_L20 fuel (out, xs, (xs.length : Int), (i : Int)) = some (.inl (out ++ xs.drop i))
  | 0, i, fuel + 1, out, h, ho, _ => by
    have hd : xs.drop i = [] := List.drop_eq_nil_of_le (by omega)
    simp only [ref03_Fill_L20, ref03_Fill_L20_B, brK_ite]
    rw [if_neg (by omega), hd]
    simp
  | k + 1, i, fuel + 1, out, h, ho, hf => by
    have hh : huge = 1073741824 := rfl
    have hi : i < xs.length := by omega
    have hd : xs.drop i = xs[i] :: xs.drop (i + 1) := List.drop_eq_getElem_cons hi
    have hx := hs _ (List.getElem_mem hi)
    have hcx : ref02_Component xs[i] = some true := by
      rw [ref02_Component_val _ (by omega)]
      exact congrArg some (List.all_eq_true.1 hc _ (List.getElem_mem hi))
    simp only [ref03_Fill_L20, ref03_Fill_L20_B, brK_ite]
    rw [if_pos (by omega), listAt_nat, List.getElem?_eq_getElem hi]
    simp only [bindK_some, hcx, Bool.not_true, brK_false]
    rw [wrap_succ (by omega), fits_ok (by omega) (by simp) (by omega), brK_true, ref03_Fill_rest xs hs hl hc k (i + 1) fuel _ (by omega) (by simp; omega) (by omega), hd]
    simp

theorem ref03_Fill_val (p q : Pat) (c : List ByteArray × List ByteArray) (hq : SmallP q) (h0 : patErr q = 0) (hr : p.2 = q.2) (hc : CapOK q c) (h1 : ssz c.1 + ssz c.2 ≤ huge) (h2 : c.2.length ≤ huge) : ref03_Fill (q, capList p c) = some (pathText (fillW q c), 0) := by
  have hbig : big = 1048576 := rfl
  have hh : huge = 1073741824 := rfl
  obtain ⟨g1, g2, g3, g4⟩ := patErr_zero.1 h0
  rw [capList_congr hr]
  have hsl := stars_le q.1
  have hcl := hc.len
  have hfl := fillW_length h0 hc
  have hfs : ssz (fillW q c) ≤ 12 * big + huge := by
    unfold fillW
    have h3 := fillL_ssz q.1 c.1
    have h4 := hq.ssz g4
    rw [ssz_append]
    omega
  have hjoin : ref02_Join (fillW q c) = some (pathText (fillW q c)) := ref02_Join_val _ (by omega) (by omega)
  have hcsz : ∀ s ∈ c.1, ByteArray.size s ≤ huge := fun s hs => by have := ssz_mem hs; omega
  unfold ref03_Fill ref03_wildcards
  rw [ref03_Check_val q hq, ref03_Kinds_val q hq]
  simp only [bindK_some, brK_ite]
  rw [if_neg (fun h => h h0)]
  unfold ref03_Fill_L9_f
  cases hrr : q.2 with
  | false =>
    have hc2 : c.2 = [] := by
      apply Classical.byContradiction
      intro hne
      have := hc.rest.1 hne
      rw [hrr] at this
      cases this
    have hcap : capList q c = c.1 ++ [] := by unfold capList; rw [hrr]; rfl
    rw [hcap]
    simp only [brK_false, bindK_some]
    rw [if_neg (by simp; omega)]
    have hloop := ref03_Fill_loop q c.1 [] q.1 g4 hq.part q.1.length 0
      (List.length (c.1 ++ []) + List.length q.1 + List.length ([] : List ByteArray) + Int.natAbs 0 + List.length q.1 + Int.natAbs (q.1.length : Int) + Int.natAbs 0 + 1000) [] c.1 [] rfl (by simp) (by omega) hc.len hc.comp1 hcsz (by simp) (by omega)
    rw [show ((0 : Nat) : Int) = 0 from rfl, show (([] : List ByteArray).length : Int) = 0 from rfl] at hloop
    rw [hloop]
    simp only [bindK_some, sumK_inl, hrr, brK_false]
    have e : [] ++ fillL (List.drop 0 q.1) c.1 = fillW q c := by
      unfold fillW; rw [hc2]; simp
    rw [e, hjoin]
    rfl
  | true =>
    have hne := hc.rest.2 hrr
    have hcap : capList q c = c.1 ++ [ofB (joinAt 47 (c.2.map bts))] := by unfold capList; rw [hrr]; rfl
    rw [hcap]
    simp only [brK_true, bindK_some]
    rw [if_neg (by rw [wrap_id (by omega) (by omega)]; simp; omega)]
    have hloop := ref03_Fill_loop q c.1 [ofB (joinAt 47 (c.2.map bts))] q.1 g4 hq.part q.1.length 0
      (List.length (c.1 ++ [ofB (joinAt 47 (c.2.map bts))]) + List.length q.1 + List.length ([] : List ByteArray) + Int.natAbs 0 + List.length q.1 + Int.natAbs (q.1.length : Int) + Int.natAbs 0 + 1000) [] c.1 [] rfl (by simp) (by omega) hc.len hc.comp1 hcsz (by simp) (by omega)
    rw [show ((0 : Nat) : Int) = 0 from rfl, show (([] : List ByteArray).length : Int) = 0 from rfl] at hloop
    rw [hloop]
    simp only [bindK_some, sumK_inl, hrr, brK_true]
    have h00 : listAt (c.1 ++ [ofB (joinAt 47 (c.2.map bts))]) (c.1.length : Int) = some (ofB (joinAt 47 (c.2.map bts))) := by
      rw [listAt_nat]; simp
    rw [h00, bindK_some]
    unfold strings_Split
    simp only
    have hjs := size_join_le c.2
    have hfree : ∀ w ∈ c.2.map bts, (47 : UInt8) ∉ w := by
      intro w hw
      obtain ⟨x, hx, rfl⟩ := List.mem_map.1 hw
      exact comp_slash (List.all_eq_true.1 hc.comp2 x hx)
    rw [splitF_cut _ _ (by omega), bts_ofB, cutAt_joinAt 47 (by simpa using hne) hfree, map_ofB_bts, bindK_some]
    have e : [] ++ fillL (List.drop 0 q.1) c.1 = fillL q.1 c.1 := by simp
    rw [e]
    have hfl1 := (fill_mparts (ps := q.1) c.2 hc.len hc.comp1).2
    unfold ref03_Fill_L20_f
    have hr2 := ref03_Fill_rest c.2 (fun s hs => by have := ssz_mem hs; omega) h2 hc.comp2 c.2.length 0 (List.length (fillL q.1 c.1) + List.length c.2 + Int.natAbs (c.2.length : Int) + Int.natAbs 0 + 1000) (fillL q.1 c.1) (by omega) (by omega) (by omega)
    rw [show ((0 : Nat) : Int) = 0 from rfl, List.drop_zero] at hr2
    rw [hr2]
    simp only [bindK_some, sumK_inl]
    have e2 : fillL q.1 c.1 ++ c.2 = fillW q c := rfl
    rw [e2, hjoin]
    rfl

/-! ### One line -/
theorem rule_Forward_val (r : Rul) (s : ByteArray) (hr : SmallR r) (hs : s.size ≤ huge) : rule_Forward (r, s) = some (fwdR r s) := by
  unfold rule_Forward fwdR rfwd
  simp only
  rw [rule_Check_val r hr, pattern_Match_val _ _ hr.left hs]
  simp only [bindK_some, brK_ite]
  by_cases h0 : rulErr r = 0
  case neg =>
    rw [if_pos h0]
    cases pathWords s with
    | none => rfl
    | some ws => simp [h0]
  rw [if_neg (fun h => h h0)]
  unfold matchR
  simp only [h0, if_true]
  cases hw : pathWords s with
  | none => rfl
  | some ws =>
    simp only [Option.bind_some]
    cases hm : mwords r.2.1 ws with
    | none => rfl
    | some c =>
      simp only [Bool.not_true, brK_false, Option.map_some]
      have h3 := rulErr_zero.1 h0
      obtain ⟨hwl, hws, hww⟩ := pathWords_small hw
      have hcw := (pathWords_some hw).2.1
      have hc := (mwords_capOK hm hcw).carry h3.2.2.1 h3.2.2.2
      obtain ⟨h4, h5⟩ := mwords_small hm
      rw [pattern_Fill_val r.2.1 r.2.2 c hr.right h3.2.1 h3.2.2.2 hc (by unfold ssz at h4 ⊢; omega) (by omega)]
      rfl
theorem ref04_Forward_val (r : Rul) (s : ByteArray) (hr : SmallR r) (hs : s.size ≤ huge) : ref04_Forward (r, s) = some (fwdR r s) := by
  unfold ref04_Forward fwdR rfwd
  simp only
  rw [ref04_Check_val r hr, ref03_Match_val _ _ hr.left hs]
  simp only [bindK_some, brK_ite]
  by_cases h0 : rulErr r = 0
  case neg =>
    rw [if_pos h0]
    cases pathWords s with
    | none => rfl
    | some ws => simp [h0]
  rw [if_neg (fun h => h h0)]
  unfold matchR
  simp only [h0, if_true]
  cases hw : pathWords s with
  | none => rfl
  | some ws =>
    simp only [Option.bind_some]
    cases hm : mwords r.2.1 ws with
    | none => rfl
    | some c =>
      simp only [Bool.not_true, brK_false, Option.map_some]
      have h3 := rulErr_zero.1 h0
      obtain ⟨hwl, hws, hww⟩ := pathWords_small hw
      have hcw := (pathWords_some hw).2.1
      have hc := (mwords_capOK hm hcw).carry h3.2.2.1 h3.2.2.2
      obtain ⟨h4, h5⟩ := mwords_small hm
      rw [ref03_Fill_val r.2.1 r.2.2 c hr.right h3.2.1 h3.2.2.2 hc (by unfold ssz at h4 ⊢; omega) (by omega)]
      rfl
end Go.Proofs.YtaibnjoobijplaaDoor

set_option linter.unusedSimpArgs false
set_option linter.unusedVariables false
set_option maxRecDepth 100000
namespace Go.Proofs.YtaibnjoobijplaaDoor
open Go Go.Ai

/-! ### Views -/
def half : Nat := 536870912

theorem view_last_loop (v : List Rul) (s : ByteArray) (hv : SmallV v) (hs : s.size ≤ huge) : ∀ (k fuel : Nat), k ≤ v.length → k < fuel →
    view_last__view_decider_1_L2 fuel (v, s, (k : Int) - 1) = some (.inl (lastInt (fun r => pmS r.2.1 s) (v.take k)))
  | 0, fuel + 1, h, _ => by
    simp only [view_last__view_decider_1_L2, view_last__view_decider_1_L2_B, brK_ite]
    rw [if_neg (by omega)]
    rfl
  | k + 1, fuel + 1, h, hf => by
    have hbig : big = 1048576 := rfl
    have hl := hv.len
    have hi : k < v.length := by omega
    simp only [view_last__view_decider_1_L2, view_last__view_decider_1_L2_B, brK_ite]
    have e : ((k + 1 : Nat) : Int) - 1 = (k : Int) := by omega
    rw [e, if_pos (by omega), listAt_nat, List.getElem?_eq_getElem hi]
    unfold view_decider_1
    simp only [bindK_some, pattern_Match_val _ _ (hv.line _ (List.getElem_mem hi)).left hs]
    rw [wrap_id (by omega) (by omega), view_last_loop v s hv hs k fuel (by omega) (by omega)]
    rw [List.take_add_one, List.getElem?_eq_getElem hi]
    unfold lastInt
    rw [Option.toList_some, lastIdx_snoc]
    show brK (!pmS v[k].2.1 s) _ _ = _
    cases pmS v[k].2.1 s with
    | false => simp
    | true => simp [List.length_take, Nat.min_eq_left (Nat.le_of_lt hi)]

theorem view_last_val (v : List Rul) (s : ByteArray) (hv : SmallV v) (hs : s.size ≤ huge) : view_last__view_decider_1 (v, s) = some (lastInt (fun r => pmS r.2.1 s) v) := by
  have hbig : big = 1048576 := rfl
  have hl := hv.len
  unfold view_last__view_decider_1 view_last__view_decider_1_L2_f
  simp only
  rw [wrap_id (by omega) (by omega), view_last_loop v s hv hs v.length _ (by omega) (by omega), List.take_length]
  rfl

theorem view_Decides_val (v : List Rul) (s : ByteArray) (hv : SmallV v) (hs : s.size ≤ huge) : view_Decides (v, s) = some (decR v s) := by
  unfold view_Decides decR
  simp only
  rw [view_Check_val v hv]
  simp only [bindK_some, brK_ite]
  by_cases h : viewOK v
  · rw [if_neg (fun hh => hh (viewErr_zero.2 h)), if_pos h]
    unfold view_decider
    rw [bindK_some, view_last_val v s hv hs]
    rfl
  · rw [if_pos (fun hh => h (viewErr_zero.1 hh)), if_neg h]

theorem view_Forward_val (v : List Rul) (s : ByteArray) (hv : SmallV v) (hs : s.size ≤ half) : view_Forward (v, s) = some (vfwdR v s) := by
  have hbig : big = 1048576 := rfl
  have hh : huge = 1073741824 := rfl
  have hhalf : half = 536870912 := rfl
  have hl := hv.len
  unfold view_Forward vfwdR
  rw [view_Decides_val v s hv (by omega)]
  unfold decR
  simp only [bindK_some, brK_ite]
  by_cases hok : viewOK v
  case neg => simp only [hok, if_false]; rfl
  simp only [hok, if_true]
  cases hw : pathWords s with
  | none =>
    have : lastIdx (fun r => pmS r.2.1 s) v = none := lastIdx_none.2 (by
      cases h : v.any (fun r => pmS r.2.1 s) with
      | false => rfl
      | true =>
        obtain ⟨r, _, hr⟩ := List.any_eq_true.1 h
        rw [pmS_none hw] at hr
        cases hr)
    unfold lastInt
    rw [this]
    rfl
  | some ws =>
    have hfun : (fun r : Rul => pmS r.2.1 s) = fun r => pm r.2.1 ws := funext fun r => pmS_some hw
    rw [hfun, Option.bind_some, vfwd_idx]
    unfold lastInt
    cases hi : lastIdx (fun r => pm r.2.1 ws) v with
    | none => rfl
    | some n =>
      obtain ⟨r, h1, h2, h3⟩ := lastIdx_some hi
      have hn : n < v.length := (List.getElem?_eq_some_iff.1 h1).1
      have hrm := hv.line r (List.mem_of_getElem? h1)
      simp only
      rw [if_neg (by omega), listAt_nat, h1]
      simp only [bindK_some, Option.bind_some]
      cases he : r.1 with
      | true => rfl
      | false =>
        simp only [brK_false, Bool.false_eq_true, if_false]
        rw [rule_Forward_val r s hrm (by omega), bindK_some, fwdR_strR, hw, Option.bind_some]
        cases hf : rfwd r ws with
        | none => rfl
        | some vs =>
          obtain ⟨h4, h5⟩ := rfwd_text hrm hw hf
          simp only [strR, Bool.not_true, brK_false, Option.bind_some]
          rw [wrap_succ (by omega), if_pos ⟨by omega, by omega, by omega⟩, Int.toNat_natCast, Int.toNat_natCast, List.take_length, view_Turn_val _ (hv.drop _), bindK_some]
          unfold view_decider
          rw [bindK_some, view_last_val _ _ (hv.drop _).turn (by omega), bindK_some]
          have hfun2 : (fun r : Rul => pmS r.2.1 (pathText vs)) = fun r => pm r.2.1 vs := funext fun r => pmS_some h4
          rw [hfun2]
          have hiff := lastInt_nonneg (p := fun r => pm r.2.1 vs) (l := (v.drop (n + 1)).map turnR)
          rw [any_turn_left] at hiff
          by_cases ht : (v.drop (n + 1)).any (fun q => pm q.2.2 vs) = true
          · rw [if_pos (hiff.2 ht), if_pos ht]
          · rw [if_neg (fun h => ht (hiff.1 h)), if_neg ht]

theorem view_Backward_val (v : List Rul) (s : ByteArray) (hv : SmallV v) (hs : s.size ≤ half) : view_Backward (v, s) = some (vfwdR (v.map turnR) s) := by
  unfold view_Backward
  simp only
  rw [view_Turn_val v hv, bindK_some, view_Forward_val _ _ hv.turn hs]
  rfl
end Go.Proofs.YtaibnjoobijplaaDoor

set_option linter.unusedSimpArgs false
set_option linter.unusedVariables false
set_option maxRecDepth 100000
namespace Go.Proofs.YtaibnjoobijplaaDoor
open Go Go.Ai

/-! ### The reference's views -/
theorem pmS_text {p : Pat} {vs : List ByteArray} (h : 2 ≤ vs.length) (hc : vs.all compB = true) : pmS p (pathText vs) = pm p vs := pmS_some (pathWords_text h hc)

theorem ref06_Related_loop (v : List Rul) (s t : ByteArray) (ws vs : List ByteArray) (hv : SmallV v) (hs : s.size ≤ huge) (ht : t.size ≤ huge) (hw : pathWords s = some ws) (hu : pathWords t = some vs) : ∀ (k fuel : Nat), k ≤ v.length → k < fuel →
    ref06_Related_L2 fuel (v, s, t, (k : Int) - 1) = some (.inl ()) ∧ relRev ws vs (v.take k).reverse = false ∨ ∃ b, ref06_Related_L2 fuel (v, s, t, (k : Int) - 1) = some (.inr (.inl b)) ∧ relRev ws vs (v.take k).reverse = b
  | 0, fuel + 1, h, _ => by
    left
    simp only [ref06_Related_L2, ref06_Related_L2_B, brK_ite]
    rw [if_neg (by omega)]
    exact ⟨rfl, rfl⟩
  | k + 1, fuel + 1, h, hf => by
    have hbig : big = 1048576 := rfl
    have hl := hv.len
    have hi : k < v.length := by omega
    have hm := hv.line _ (List.getElem_mem hi)
    have ih := ref06_Related_loop v s t ws vs hv hs ht hw hu k fuel (by omega) (by omega)
    simp only [ref06_Related_L2, ref06_Related_L2_B, brK_ite]
    have e : ((k + 1 : Nat) : Int) - 1 = (k : Int) := by omega
    rw [e, if_pos (by omega), listAt_nat, List.getElem?_eq_getElem hi]
    simp only [bindK_some, ref04_Forward_val _ _ hm hs, ref03_Match_val _ _ hm.left hs, ref03_Match_val _ _ hm.right ht]
    rw [wrap_id (by omega) (by omega), List.take_add_one, List.getElem?_eq_getElem hi, Option.toList_some, List.reverse_append, List.reverse_singleton, List.singleton_append]
    have e1 : (matchR v[k].2.1 s).2 = pm v[k].2.1 ws := pmS_some hw
    have e2 : (matchR v[k].2.2 t).2 = pm v[k].2.2 vs := pmS_some hu
    rw [e1, e2]
    unfold relRev
    have hts : pathText vs = t := (pathWords_some hu).2.2
    rw [fwdR_strR, hw, Option.bind_some]
    cases hr : rfwd v[k] ws with
    | none =>
      simp only [strR, brK_false, reduceCtorEq, false_and, if_false]
      cases hp : pm v[k].2.1 ws with
      | true => right; exact ⟨false, rfl, by simp⟩
      | false =>
        cases hq : pm v[k].2.2 vs with
        | true => right; exact ⟨false, rfl, by simp⟩
        | false => simpa using ih
    | some us =>
      obtain ⟨g1, _⟩ := rfwd_text hm hw hr
      have hpl : pm v[k].2.1 ws = true := rfwd_left hr
      simp only [strR, brK_true, hpl, Option.some.injEq]
      by_cases he : us = vs
      · subst he
        rw [if_pos hts]
        cases hx : v[k].1 with
        | false => right; exact ⟨true, rfl, by simp⟩
        | true => right; exact ⟨false, rfl, by simp⟩
      · have hne : ¬ pathText us = t := by
          intro h
          rw [h, hu] at g1
          exact he (Option.some.inj g1).symm
        rw [if_neg hne]
        right
        exact ⟨false, rfl, by simp [he]⟩

theorem ref06_Related_val (v : List Rul) (s t : ByteArray) (ws vs : List ByteArray) (hv : SmallV v) (hs : s.size ≤ huge) (ht : t.size ≤ huge) (hw : pathWords s = some ws) (hu : pathWords t = some vs) : ref06_Related (v, s, t) = some (decide (vfwd v ws = some vs)) := by
  have hbig : big = 1048576 := rfl
  have hl := hv.len
  have hrel := relRev_iff ws vs v.reverse
  rw [List.reverse_reverse] at hrel
  unfold ref06_Related ref06_Related_L2_f
  simp only
  rw [wrap_id (by omega) (by omega)]
  have := ref06_Related_loop v s t ws vs hv hs ht hw hu v.length (List.length v + ByteArray.size s + ByteArray.size t + Int.natAbs ((v.length : Int) - 1) + 1000) (by omega) (by omega)
  rw [List.take_length] at this
  rcases this with ⟨h1, h2⟩ | ⟨b, h1, h2⟩
  · rw [h1]
    have : ¬ vfwd v ws = some vs := fun h => by rw [hrel.2 h] at h2; cases h2
    rw [decide_eq_false this]
    rfl
  · rw [h1]
    have : decide (vfwd v ws = some vs) = b := by
      rw [← h2]
      cases hb : relRev ws vs v.reverse with
      | true => exact decide_eq_true (hrel.1 hb)
      | false => exact decide_eq_false fun h => by rw [hrel.2 h] at hb; cases hb
    rw [this]
    rfl

theorem ref06_Forward_loop (v xs : List Rul) (s : ByteArray) (ws : List ByteArray) (hv : SmallV v) (hx : SmallV xs) (hs : s.size ≤ half) (hw : pathWords s = some ws) : ∀ (k i fuel : Nat), i + k = xs.length → k < fuel →
    ref06_Forward_L5 fuel (v, s, xs, (xs.length : Int), (i : Int)) = some (match (xs.drop i).find? (fun r => (rfwd r ws).isSome && decide (vfwd v ws = rfwd r ws)) with | some r => .inr (.inl (strR (rfwd r ws))) | none => .inl ())
  | 0, i, fuel + 1, h, _ => by
    have hd : xs.drop i = [] := List.drop_eq_nil_of_le (by omega)
    simp only [ref06_Forward_L5, ref06_Forward_L5_B, brK_ite]
    rw [if_neg (by omega), hd]
    rfl
  | k + 1, i, fuel + 1, h, hf => by
    have hbig : big = 1048576 := rfl
    have hh : huge = 1073741824 := rfl
    have hhalf : half = 536870912 := rfl
    have hl := hx.len
    have hi : i < xs.length := by omega
    have hd : xs.drop i = xs[i] :: xs.drop (i + 1) := List.drop_eq_getElem_cons hi
    have hm := hx.line _ (List.getElem_mem hi)
    simp only [ref06_Forward_L5, ref06_Forward_L5_B, brK_ite]
    rw [if_pos (by omega), listAt_nat, List.getElem?_eq_getElem hi]
    simp only [bindK_some, ref04_Forward_val _ _ hm (show s.size ≤ huge by omega)]
    rw [wrap_succ (by omega), ref06_Forward_loop v xs s ws hv hx hs hw k (i + 1) fuel (by omega) (by omega), hd, List.find?_cons, fwdR_strR, hw, Option.bind_some]
    cases hr : rfwd xs[i] ws with
    | none => simp [strR]
    | some us =>
      obtain ⟨g1, g2⟩ := rfwd_text hm hw hr
      simp only [strR, brK_true, Option.isSome_some, Bool.true_and]
      rw [ref06_Related_val v s (pathText us) ws us hv (by omega) (by omega) hw g1, bindK_some]
      cases hd2 : decide (vfwd v ws = some us) <;> simp [hr]

theorem ref06_Forward_val (v : List Rul) (s : ByteArray) (hv : SmallV v) (hs : s.size ≤ half) : ref06_Forward (v, s) = some (vfwdR v s) := by
  have hbig : big = 1048576 := rfl
  have hh : huge = 1073741824 := rfl
  have hhalf : half = 536870912 := rfl
  have hl := hv.len
  unfold ref06_Forward vfwdR
  simp only
  rw [ref06_Check_val v hv]
  simp only [bindK_some, brK_ite]
  by_cases hok : viewOK v
  case neg => rw [if_pos (fun hh => hok (viewErr_zero.1 hh)), if_neg hok]
  rw [if_neg (fun hh => hh (viewErr_zero.2 hok)), if_pos hok]
  cases hw : pathWords s with
  | some ws =>
    unfold ref06_Forward_L5_f
    have hloop := ref06_Forward_loop v v s ws hv hv hs hw v.length 0 (List.length v + ByteArray.size s + List.length v + Int.natAbs (v.length : Int) + Int.natAbs 0 + 1000) (by omega) (by omega)
    rw [show ((0 : Nat) : Int) = 0 from rfl, List.drop_zero] at hloop
    rw [hloop, Option.bind_some]
    cases hf : v.find? (fun r => (rfwd r ws).isSome && decide (vfwd v ws = rfwd r ws)) with
    | none =>
      have hn : vfwd v ws = none := by
        cases hvf : vfwd v ws with
        | none => rfl
        | some vs =>
          obtain ⟨n, r, _, h2, _, h4, _⟩ := vfwd_some hvf
          have := List.find?_eq_none.1 hf r (List.mem_of_getElem? h2)
          rw [h4, hvf] at this
          simp at this
      rw [hn]
      rfl
    | some r =>
      have := List.find?_some hf
      rw [Bool.and_eq_true, decide_eq_true_eq] at this
      rw [this.2]
      rfl
  | none =>
    unfold ref06_Forward_L5_f
    have := all_loop (F := ref06_Forward_L5) (B := ref06_Forward_L5_B) (fun _ _ => rfl) v (fun i => (v, s, v, (v.length : Int), (i : Int))) (fun _ => true) (.inl ()) (.inl ())
      (fun rec i h => by
        have hm := hv.line _ (List.getElem_mem h)
        simp only [ref06_Forward_L5_B, brK_ite]
        rw [if_pos (by omega), listAt_nat, List.getElem?_eq_getElem h]
        simp only [bindK_some, ref04_Forward_val _ _ hm (show s.size ≤ huge by omega)]
        rw [wrap_succ (by omega), fwdR_strR, hw]
        rfl)
      (fun rec => by
        simp only [ref06_Forward_L5_B, brK_ite]
        rw [if_neg (by omega)]) v.length 0 (List.length v + ByteArray.size s + List.length v + Int.natAbs (v.length : Int) + Int.natAbs 0 + 1000) (by omega) (by omega)
    rw [show ((0 : Nat) : Int) = 0 from rfl] at this
    rw [this]
    simp [strR]

theorem ref06_Decides_loop (xs : List Rul) (s : ByteArray) (hx : SmallV xs) (hs : s.size ≤ huge) : ∀ (k i fuel : Nat) (a : Int), i + k = xs.length → k < fuel → a = lastInt (fun r => pmS r.2.1 s) (xs.take i) →
    ref06_Decides_L6 fuel (s, a, xs, (xs.length : Int), (i : Int)) = some (.inl (lastInt (fun r => pmS r.2.1 s) xs))
  | 0, i, fuel + 1, a, h, _, ha => by
    simp only [ref06_Decides_L6, ref06_Decides_L6_B, brK_ite]
    rw [if_neg (by omega), ha, List.take_of_length_le (by omega)]
  | k + 1, i, fuel + 1, a, h, hf, ha => by
    have hbig : big = 1048576 := rfl
    have hl := hx.len
    have hi : i < xs.length := by omega
    have hm := hx.line _ (List.getElem_mem hi)
    simp only [ref06_Decides_L6, ref06_Decides_L6_B, brK_ite]
    rw [if_pos (by omega), listAt_nat, List.getElem?_eq_getElem hi]
    simp only [bindK_some, ref03_Match_val _ _ hm.left hs]
    rw [wrap_succ (by omega)]
    have hsnoc : lastIdx (fun r => pmS r.2.1 s) (xs.take (i + 1)) = if pmS xs[i].2.1 s = true then some i else lastIdx (fun r => pmS r.2.1 s) (xs.take i) := by
      rw [List.take_add_one, List.getElem?_eq_getElem hi, Option.toList_some, lastIdx_snoc, List.length_take, Nat.min_eq_left (Nat.le_of_lt hi)]
    show brK (pmS xs[i].2.1 s) _ _ = _
    cases hp : pmS xs[i].2.1 s with
    | true =>
      rw [brK_true]
      refine ref06_Decides_loop xs s hx hs k (i + 1) fuel _ (by omega) (by omega) ?_
      unfold lastInt
      rw [hsnoc, if_pos hp]
    | false =>
      rw [brK_false]
      refine ref06_Decides_loop xs s hx hs k (i + 1) fuel _ (by omega) (by omega) ?_
      unfold lastInt at ha ⊢
      rw [hsnoc, if_neg (by rw [hp]; simp), ha]

theorem ref06_Decides_val (v : List Rul) (s : ByteArray) (hv : SmallV v) (hs : s.size ≤ huge) : ref06_Decides (v, s) = some (decR v s) := by
  unfold ref06_Decides decR
  simp only
  rw [ref06_Check_val v hv]
  simp only [bindK_some, brK_ite]
  by_cases h : viewOK v
  · rw [if_neg (fun hh => hh (viewErr_zero.2 h)), if_pos h]
    unfold ref06_Decides_L6_f
    have := ref06_Decides_loop v s hv hs v.length 0 (ByteArray.size s + Int.natAbs (-1) + List.length v + Int.natAbs (v.length : Int) + Int.natAbs 0 + 1000) (-1) (by omega) (by omega) rfl
    rw [show ((0 : Nat) : Int) = 0 from rfl] at this
    rw [this]
    rfl
  · rw [if_pos (fun hh => h (viewErr_zero.1 hh)), if_neg h]

theorem vfwdR_size (v : List Rul) (s : ByteArray) (hv : SmallV v) (hs : s.size ≤ 1048576) : (vfwdR v s).1.size ≤ half := by
  have hbig : big = 1048576 := rfl
  have hhalf : half = 536870912 := rfl
  have h0 : (ByteArray.mk #[]).size ≤ half := by show 0 ≤ half; omega
  unfold vfwdR
  split
  · cases hw : pathWords s with
    | none => exact h0
    | some ws =>
      rw [Option.bind_some]
      cases hf : vfwd v ws with
      | none => exact h0
      | some vs =>
        have := (vfwd_text hv hw hf).2
        show (pathText vs).size ≤ half
        omega
  · exact h0

/-- A view and its back. -/
theorem vfwdR_back {v : List Rul} {s : ByteArray} (hv : SmallV v) (h : (vfwdR v s).2 = true) : vfwdR (v.map turnR) (vfwdR v s).1 = (s, true) := by
  unfold vfwdR at h ⊢
  by_cases hok : viewOK v
  · rw [if_pos hok] at h ⊢
    rw [if_pos (viewOK_turn.2 hok)]
    cases hw : pathWords s with
    | none => rw [hw] at h; cases h
    | some ws =>
      rw [hw, Option.bind_some] at h
      rw [Option.bind_some]
      cases hf : vfwd v ws with
      | none => rw [hf] at h; cases h
      | some vs =>
        have h1 := (vfwd_text hv hw hf).1
        obtain ⟨g1, g2, g3⟩ := pathWords_some hw
        simp only [strR]
        rw [h1, Option.bind_some, vfwd_back g2 hf]
        show (pathText ws, true) = _
        rw [g3]
  · rw [if_neg hok] at h; cases h

theorem map_turn_turn (v : List Rul) : (v.map turnR).map turnR = v := by
  rw [List.map_map]
  conv => rhs; rw [← List.map_id v]
  exact List.map_congr_left fun _ _ => rfl

theorem ViewOneToOne_val (v : List Rul) (s : ByteArray) (hv : SmallV v) (hs : s.size ≤ 1048576) : law06_ViewOneToOne (v, s) = some true := by
  have hhalf : half = 536870912 := rfl
  obtain ⟨b, hb⟩ := small_val v hv
  unfold law06_ViewOneToOne
  simp only
  rw [hb, awake_val, view_Forward_val v s hv (by omega), view_Backward_val v s hv (by omega)]
  simp only [bindK_some, brK_ite]
  cases b with
  | false => rfl
  | true =>
    simp only [Bool.not_true, brK_false]
    split
    · rfl
    have h1 := vfwdR_size v s hv hs
    have h2 := vfwdR_size (v.map turnR) s hv.turn hs
    rw [view_Backward_val v _ hv h1, view_Forward_val v _ hv h2]
    simp only [bindK_some]
    cases hf : (vfwdR v s).2 with
    | true =>
      rw [vfwdR_back hv hf]
      cases hg : (vfwdR (v.map turnR) s).2 with
      | true =>
        have := vfwdR_back hv.turn hg
        rw [map_turn_turn] at this
        rw [this]
        simp
      | false => simp
    | false =>
      cases hg : (vfwdR (v.map turnR) s).2 with
      | true =>
        have := vfwdR_back hv.turn hg
        rw [map_turn_turn] at this
        rw [this]
        simp
      | false => simp

theorem ViewTurns_val (v : List Rul) (s : ByteArray) (hv : SmallV v) (hs : s.size ≤ 1048576) : law06_ViewTurns (v, s) = some true := by
  have hhalf : half = 536870912 := rfl
  obtain ⟨b, hb⟩ := small_val v hv
  unfold law06_ViewTurns
  simp only
  rw [hb, awake_val, view_Turn_val v hv, view_Check_val v hv, view_Backward_val v s hv (by omega)]
  simp only [bindK_some, brK_ite]
  cases b with
  | false => rfl
  | true =>
    simp only [Bool.not_true, brK_false]
    split
    · rfl
    rw [view_Check_val _ hv.turn, view_Forward_val _ s hv.turn (by omega)]
    simp only [bindK_some]
    split
    · rfl
    · rename_i h
      have hok : viewOK v := viewErr_zero.1 (Classical.not_not.1 h)
      rw [if_neg (fun hh => hh (viewErr_zero.2 (viewOK_turn.2 hok)))]
      simp

theorem ViewMaps_val (v : List Rul) (s : ByteArray) (hv : SmallV v) (hs : s.size ≤ 1048576) : law06_ViewMaps (v, s) = some true := by
  have hhalf : half = 536870912 := rfl
  have hh : huge = 1073741824 := rfl
  obtain ⟨b, hb⟩ := small_val v hv
  unfold law06_ViewMaps
  simp only
  rw [hb, awake_val, view_Forward_val v s hv (by omega), ref06_Forward_val v s hv (by omega), view_Decides_val v s hv (by omega), ref06_Decides_val v s hv (by omega), view_Backward_val v s hv (by omega), ref06_Turn_val v hv, ref06_Check_val v hv]
  simp only [bindK_some, brK_ite]
  rw [ref06_Forward_val _ s hv.turn (by omega)]
  cases b with
  | false => rfl
  | true =>
    simp only [Bool.not_true, brK_false]
    split
    · rfl
    simp only [bindK_some, ne_eq, not_true_eq_false, if_false, BEq.rfl, Bool.not_true, brK_false, if_true, brK_true]
    split
    · rename_i h
      have hn : ¬ viewOK (v.map turnR) := fun hok => h (viewErr_zero.2 (viewOK_turn.1 hok))
      unfold vfwdR
      rw [if_neg hn]
      simp
    · rfl

theorem ViewDecided_val (v : List Rul) (s : ByteArray) (hv : SmallV v) (hs : s.size ≤ 1048576) : law06_ViewDecided (v, s) = some true := by
  have hhalf : half = 536870912 := rfl
  have hh : huge = 1073741824 := rfl
  obtain ⟨b, hb⟩ := small_val v hv
  unfold law06_ViewDecided
  simp only
  rw [hb, awake_val, view_Forward_val v s hv (by omega), view_Decides_val v s hv (by omega)]
  simp only [bindK_some, brK_ite]
  cases b with
  | false => rfl
  | true =>
    simp only [Bool.not_true, brK_false]
    split
    · rfl
    cases hf : (vfwdR v s).2 with
    | false =>
      have h1 : (vfwdR v s).1 = ⟨#[]⟩ := by
        unfold vfwdR at hf ⊢
        split
        · rename_i hok
          rw [if_pos hok, strR_true] at hf
          cases ho : (pathWords s).bind (vfwd v) with
          | none => rfl
          | some _ => rw [ho] at hf; cases hf
        · rfl
      have h2 : decR v s < v.length := by
        unfold decR
        split
        · unfold lastInt
          cases hl : lastIdx (fun r => pmS r.2.1 s) v with
          | none => simp only; omega
          | some n =>
            obtain ⟨r, g1, _⟩ := lastIdx_some hl
            have := (List.getElem?_eq_some_iff.1 g1).1
            simp only; omega
        · omega
      simp [h1, h2]
    | true =>
      have hok : viewOK v := by
        apply Classical.byContradiction
        intro hn
        unfold vfwdR at hf
        rw [if_neg hn] at hf
        cases hf
      unfold vfwdR at hf ⊢
      unfold decR
      rw [if_pos hok] at hf
      simp only [if_pos hok]
      cases hw : pathWords s with
      | none => rw [hw] at hf; cases hf
      | some ws =>
        rw [hw, Option.bind_some] at hf
        rw [Option.bind_some]
        cases hvf : vfwd v ws with
        | none => rw [hvf] at hf; cases hf
        | some vs =>
          obtain ⟨n, r, g1, g2, g3, g4, g5⟩ := vfwd_some hvf
          have hfun : (fun r : Rul => pmS r.2.1 s) = fun r => pm r.2.1 ws := funext fun r => pmS_some hw
          rw [hfun]
          unfold lastInt
          rw [g1]
          have hn : n < v.length := (List.getElem?_eq_some_iff.1 g2).1
          simp only [Bool.not_true, brK_false]
          rw [if_neg (by omega), if_neg (by omega), listAt_nat, g2]
          simp only [bindK_some]
          rw [g3, ref04_Forward_val r s (hv.line r (List.mem_of_getElem? g2)) (by omega), fwdR_strR, hw, Option.bind_some, g4]
          simp [strR]
end Go.Proofs.YtaibnjoobijplaaDoor

set_option linter.unusedSimpArgs false
set_option linter.unusedVariables false
set_option maxRecDepth 100000
namespace Go.Proofs.YtaibnjoobijplaaDoor
open Go Go.Ai

theorem matches_val (p : Pat) (s : ByteArray) (hp : SmallP p) (hs : s.size ≤ huge) : law06_matches (p, s) = some (pmS p s) := by
  unfold law06_matches
  rw [ref03_Match_val p s hp hs]
  rfl

theorem vfwdR_false {v : List Rul} {s : ByteArray} (h : (vfwdR v s).2 = false) : vfwdR v s = (⟨#[]⟩, false) := by
  unfold vfwdR at h ⊢
  split
  · rename_i hok
    rw [if_pos hok, strR_true] at h
    cases ho : (pathWords s).bind (vfwd v) with
    | none => rfl
    | some _ => rw [ho] at h; cases h
  · rfl

theorem ViewLast_val (v : List Rul) (r : Rul) (s : ByteArray) (hv : SmallV (v ++ [r])) (hs : s.size ≤ 1048576) : law06_ViewLast (v, r, s) = some true := by
  have hbig : big = 1048576 := rfl
  have hhalf : half = 536870912 := rfl
  have hh : huge = 1073741824 := rfl
  have hl := hv.len
  have hv1 : SmallV v := ⟨by simp at hl; omega, fun q hq => hv.line q (by simp [hq])⟩
  have hr : SmallR r := hv.line r (by simp)
  have hl1 := hv1.len
  obtain ⟨b, hb⟩ := small_val _ hv
  unfold law06_ViewLast
  simp only
  rw [fits_ok (by omega) (by omega) (by omega), fits_ok (by omega) (by simp) (by omega)]
  rw [hb, awake_val, view_Check_val _ hv, view_Forward_val v s hv1 (by omega), view_Forward_val _ s hv (by omega), matches_val _ _ hr.left (by omega), ref04_Forward_val r s hr (by omega)]
  simp only [bindK_some, brK_true]
  cases b with
  | false => rfl
  | true =>
    simp only [Bool.not_true, brK_false, brK_ite]
    split
    · rfl
    have hsz := vfwdR_size v s hv1 hs
    rw [matches_val _ _ hr.right (by omega)]
    simp only [bindK_some]
    split
    · rfl
    rename_i hck
    have hok : viewOK (v ++ [r]) := viewErr_zero.1 (Classical.not_not.1 hck)
    have hok1 : viewOK v := ⟨fun q hq => hok.1 q (by simp [hq]), by have := hok.2; simp at this; omega⟩
    have h0 : rulErr r = 0 := hok.1 r (by simp)
    unfold vfwdR at hsz ⊢
    rw [fwdR_strR]
    simp only [if_pos hok, if_pos hok1] at hsz ⊢
    cases hw : pathWords s with
    | none =>
      rw [pmS_none hw]
      simp [strR]
    | some ws =>
      rw [pmS_some hw]
      simp only [Option.bind_some, vfwd_snoc]
      by_cases hp : pm r.2.1 ws = true
      · rw [hp]
        simp only [brK_true, if_true]
        have hrf := rfwd_iff h0 ws
        rw [hp] at hrf
        obtain ⟨us, hus⟩ := Option.isSome_iff_exists.1 hrf
        rw [hus]
        cases r.1 <;> simp [strR]
      · have hp' : pm r.2.1 ws = false := by simpa using hp
        rw [hp']
        simp only [brK_false, Bool.false_eq_true, if_false]
        cases hf : vfwd v ws with
        | none => simp [strR]
        | some vs =>
          have g1 := (vfwd_text hv1 hw hf).1
          simp only [strR, brK_true, Option.bind_some]
          rw [pmS_some g1]
          by_cases h2 : pm r.2.2 vs = true
          · simp [h2]
          · have h2' : pm r.2.2 vs = false := by simpa using h2
            simp [h2']

theorem decR_ge (v : List Rul) (s : ByteArray) : -1 ≤ decR v s := by
  unfold decR
  split
  · unfold lastInt
    cases lastIdx (fun r => pmS r.2.1 s) v <;> simp only <;> omega
  · omega

theorem ViewFirst_val (v : List Rul) (r : Rul) (s : ByteArray) (hv : SmallV (r :: v)) (hs : s.size ≤ 1048576) : law06_ViewFirst (v, r, s) = some true := by
  have hbig : big = 1048576 := rfl
  have hhalf : half = 536870912 := rfl
  have hh : huge = 1073741824 := rfl
  have hl := hv.len
  have hv1 : SmallV v := ⟨by simp at hl; omega, fun q hq => hv.line q (by simp [hq])⟩
  have hr : SmallR r := hv.line r (by simp)
  have hl1 := hv1.len
  obtain ⟨b, hb⟩ := small_val _ hv
  unfold law06_ViewFirst
  simp only [List.singleton_append]
  rw [fits_ok (by simp) (by omega) (by omega)]
  rw [hb, awake_val, view_Check_val _ hv, view_Decides_val v s hv1 (by omega), view_Decides_val _ s hv (by omega), view_Forward_val v s hv1 (by omega), view_Forward_val _ s hv (by omega), matches_val _ _ hr.left (by omega)]
  simp only [bindK_some, brK_true]
  cases b with
  | false => rfl
  | true =>
    simp only [Bool.not_true, brK_false, brK_ite]
    split
    · rfl
    split
    · rfl
    rename_i hck
    have hok : viewOK (r :: v) := viewErr_zero.1 (Classical.not_not.1 hck)
    have hok1 : viewOK v := ⟨fun q hq => hok.1 q (by simp [hq]), by have := hok.2; simp at this; omega⟩
    unfold decR
    simp only [if_pos hok, if_pos hok1]
    unfold lastInt
    rw [lastIdx]
    cases hd : lastIdx (fun q => pmS q.2.1 s) v with
    | none =>
      simp only
      rw [if_pos (by omega)]
      cases pmS r.2.1 s <;> simp
    | some n =>
      obtain ⟨q, g1, g2, g3⟩ := lastIdx_some hd
      have hn := (List.getElem?_eq_some_iff.1 g1).1
      simp only
      rw [if_neg (by omega), wrap_succ (by omega), if_pos (by omega)]
      have : vfwdR (r :: v) s = vfwdR v s := by
        unfold vfwdR
        rw [if_pos hok, if_pos hok1]
        cases hw : pathWords s with
        | none => rfl
        | some ws =>
          rw [Option.bind_some, Option.bind_some]
          have : v.any (fun q => pm q.2.1 ws) = true := List.any_eq_true.2 ⟨q, List.mem_of_getElem? g1, by rw [← pmS_some hw]; exact g2⟩
          rw [vfwd, if_pos this]
      rw [this]
      simp

/-! ### Statements -/
theorem viewOneToOne_pure (v : List Rul) (s : ByteArray) (h : Ty.bulk (.list tyRul) v + Ty.bulk .str s ≤ 1048576) : law06_ViewOneToOne (v, s) = some true :=
  ViewOneToOne_val v s (smallV_of (N := 1048576) (by omega) (Nat.le_refl _)) (by have : Ty.bulk .str s = s.size + 1 := rfl; omega)
theorem viewTurns_pure (v : List Rul) (s : ByteArray) (h : Ty.bulk (.list tyRul) v + Ty.bulk .str s ≤ 1048576) : law06_ViewTurns (v, s) = some true :=
  ViewTurns_val v s (smallV_of (N := 1048576) (by omega) (Nat.le_refl _)) (by have : Ty.bulk .str s = s.size + 1 := rfl; omega)
theorem viewMaps_pure (v : List Rul) (s : ByteArray) (h : Ty.bulk (.list tyRul) v + Ty.bulk .str s ≤ 1048576) : law06_ViewMaps (v, s) = some true :=
  ViewMaps_val v s (smallV_of (N := 1048576) (by omega) (Nat.le_refl _)) (by have : Ty.bulk .str s = s.size + 1 := rfl; omega)
theorem viewDecided_pure (v : List Rul) (s : ByteArray) (h : Ty.bulk (.list tyRul) v + Ty.bulk .str s ≤ 1048576) : law06_ViewDecided (v, s) = some true :=
  ViewDecided_val v s (smallV_of (N := 1048576) (by omega) (Nat.le_refl _)) (by have : Ty.bulk .str s = s.size + 1 := rfl; omega)
theorem smallV_with {v : List Rul} {r : Rul} (h : Ty.bulk (.list tyRul) v + Ty.bulk tyRul r ≤ 1048576) : SmallV (v ++ [r]) ∧ SmallV (r :: v) := by
  have hbig : big = 1048576 := rfl
  have h1 : (List.map (Ty.bulk tyRul) v).sum + 1 + Ty.bulk tyRul r ≤ 1048576 := h
  have h2 := sum_length (Ty.bulk tyRul) (bulk_pos tyRul) v
  have h3 := bulk_pos tyRul r
  have hv := smallV_of (N := 1048576) (v := v) (by omega) (Nat.le_refl _)
  have hr := smallR_of (N := 1048576) (r := r) (by omega) (Nat.le_refl _)
  have h4 : v.length + 1 ≤ big := by
    have : v.length ≤ (List.map (Ty.bulk tyRul) v).sum := h2
    omega
  refine ⟨⟨by simpa using h4, fun q hq => ?_⟩, ⟨by simpa using h4, fun q hq => ?_⟩⟩
  · rcases List.mem_append.1 hq with hq | hq
    · exact hv.line q hq
    · simp at hq; subst hq; exact hr
  · rcases List.mem_cons.1 hq with rfl | hq
    · exact hr
    · exact hv.line q hq
theorem viewLast_pure (v : List Rul) (r : Rul) (s : ByteArray) (h : Ty.bulk (.list tyRul) v + Ty.bulk tyRul r + Ty.bulk .str s ≤ 1048576) : law06_ViewLast (v, r, s) = some true :=
  ViewLast_val v r s (smallV_with (by omega)).1 (by have : Ty.bulk .str s = s.size + 1 := rfl; omega)
theorem viewFirst_pure (v : List Rul) (r : Rul) (s : ByteArray) (h : Ty.bulk (.list tyRul) v + Ty.bulk tyRul r + Ty.bulk .str s ≤ 1048576) : law06_ViewFirst (v, r, s) = some true :=
  ViewFirst_val v r s (smallV_with (by omega)).2 (by have : Ty.bulk .str s = s.size + 1 := rfl; omega)
end Go.Proofs.YtaibnjoobijplaaDoor
