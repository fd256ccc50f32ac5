/- A part of the proof of a law of this seat (rD_R3, rD_R4, rD_S1). -/
import Derived.Test.YtcmfkmhmehhkpaaDoorMa
import Derived.Test.YtcmfkmhmehhkpaaDoorAd
import Derived.Test.YtcmfkmhmehhkpaaDoorAe
set_option linter.unusedSimpArgs false
set_option linter.unusedVariables false
set_option maxRecDepth 100000
namespace Go.Proofs.YtcmfkmhmehhkpaaDoor
open Go Go.Ai
/-! ### What the statements look at -/
def cap44 : Nat := 17592186044416
structure WideP (p : Pat) : Prop where
  len : p.1.length ≤ cap44
  part : ∀ s ∈ p.1, ByteArray.size s ≤ 140737488355328
structure WideG (g : Reg) : Prop where
  base : WideP g.1
  hole : ∀ h ∈ g.2, WideP h
  len : g.2.length ≤ cap44
structure TinyG (g : Reg) : Prop where
  base : g.1.1.length ≤ 20
  hole : ∀ h ∈ g.2, h.1.length ≤ 400
  len : g.2.length ≤ 70
  basePart : ∀ s ∈ g.1.1, ByteArray.size s ≤ 60
  holePart : ∀ h ∈ g.2, ∀ s ∈ h.1, ByteArray.size s ≤ 60
  total : g.1.1.length + (g.2.map fun h => h.1.length).sum ≤ 400

theorem TinyG.small {g : Reg} (h : TinyG g) : SmallG g := by
  have hbig : big = 1048576 := rfl
  have h1 := h.base
  have h2 := h.len
  exact ⟨⟨by omega, fun s hs => by have := h.basePart s hs; omega⟩, fun x hx => ⟨by have := h.hole x hx; omega, fun s hs => by have := h.holePart x hx s hs; omega⟩, by omega⟩

theorem wideP_of {p : Pat} (h : Ty.wOK 140737488351232 tyPat p) : WideP p := by
  obtain ⟨⟨h1, h2⟩, _⟩ := h
  refine ⟨?_, fun s hs => ?_⟩
  · have : List.length p.1 * 8 ≤ 140737488351232 := h1
    show List.length p.1 ≤ 17592186044416
    omega
  · have : ByteArray.size s ≤ 140737488351232 := h2 s hs
    omega
abbrev tyReg : Ty := .prod tyPat (.list tyPat)
theorem wideG_of {g : Reg} (h : Ty.wOK 140737488351232 tyReg g) : WideG g := by
  obtain ⟨h1, h2, h3⟩ := h
  refine ⟨wideP_of h1, fun x hx => wideP_of (h3 x hx), ?_⟩
  have : List.length g.2 * 8 ≤ 140737488351232 := h2
  show List.length g.2 ≤ 17592186044416
  omega

def sumL (hs : List Pat) : Nat := (hs.map fun h => h.1.length).sum
theorem fold_wrap : ∀ (hs : List Pat) (n : Nat), n + sumL hs ≤ 4611686018427387904 → hs.foldl (fun (m : Int) h => IntKind.wrap .i64 (m + (h.1.length : Int))) (n : Int) = ((n + sumL hs : Nat) : Int)
  | [], n, _ => by simp [sumL]
  | h :: hs, n, hb => by
    have e : sumL (h :: hs) = h.1.length + sumL hs := by simp [sumL]
    rw [e] at hb
    rw [List.foldl_cons, wrap_id (by omega) (by omega), show ((n : Int) + (h.1.length : Int)) = ((n + h.1.length : Nat) : Int) by omega, fold_wrap hs _ (by omega), e]
    congr 1
    omega

def shortB (p : Pat) : Bool := p.1.all fun s => decide (s.size ≤ 60)
theorem small_L7_val (g : Reg) (m : Int) (hs : List Pat) (x1 x2 : Int) (p : Pat) (hp : WideP p) : law05_small_L7_f ((g.1.1, g.1.2, g.2), m, hs, x1, x2, p.1, (p.1.length : Int), 0) = some (if shortB p = true then .inl ((g.1.1, g.1.2, g.2), m, hs, x1, x2) else .inr (.inl false)) := by
  have hl := hp.len
  have hc : cap44 = 17592186044416 := rfl
  unfold law05_small_L7_f shortB
  have := all_loop (F := law05_small_L7) (B := law05_small_L7_B) (fun _ _ => rfl) p.1 (fun i => ((g.1.1, g.1.2, g.2), m, hs, x1, x2, p.1, (p.1.length : Int), (i : Int))) (fun s => decide (s.size ≤ 60)) (.inr (.inl false)) (.inl ((g.1.1, g.1.2, g.2), m, hs, x1, x2))
    (fun rec i h => by
      simp only [law05_small_L7_B, brK_ite]
      rw [if_pos (by omega), listAt_nat, List.getElem?_eq_getElem h]
      simp only [bindK_some]
      rw [wrap_succ (by omega)]
      by_cases h6 : p.1[i].size ≤ 60
      · rw [if_neg (by omega), decide_eq_true h6, if_pos rfl]
      · rw [if_pos (by omega), decide_eq_false h6, if_neg (by simp)])
    (fun rec => by
      simp only [law05_small_L7_B, brK_ite]
      rw [if_neg (by omega)]) p.1.length 0 (List.length g.1.1 + List.length g.2 + Int.natAbs m + List.length hs + Int.natAbs x1 + Int.natAbs x2 + List.length p.1 + Int.natAbs (p.1.length : Int) + Int.natAbs 0 + 1000) (by omega) (by omega)
  rw [show ((0 : Nat) : Int) = 0 from rfl, List.drop_zero] at this
  exact this

theorem small_L3_loop (g : Reg) (hs : List Pat) (hl : hs.length ≤ cap44) (hw : ∀ h ∈ hs, WideP h) : ∀ (k i fuel : Nat) (m : Int), i + k = hs.length → k < fuel →
    law05_small_L3 fuel ((g.1.1, g.1.2, g.2), m, hs, (hs.length : Int), (i : Int)) = some (if (hs.drop i).all shortB = true then .inl ((g.1.1, g.1.2, g.2), (hs.drop i).foldl (fun (m : Int) h => IntKind.wrap .i64 (m + (h.1.length : Int))) m) else .inr (.inl false))
  | 0, i, fuel + 1, m, h, _ => by
    have hd : hs.drop i = [] := List.drop_eq_nil_of_le (by omega)
    simp only [law05_small_L3, law05_small_L3_B, brK_ite]
    rw [if_neg (by omega), hd]
    rfl
  | k + 1, i, fuel + 1, m, h, hf => by
    have hc : cap44 = 17592186044416 := rfl
    have hi : i < hs.length := by omega
    simp only [law05_small_L3, law05_small_L3_B, brK_ite]
    rw [if_pos (by omega), listAt_nat, List.getElem?_eq_getElem hi]
    simp only [bindK_some]
    rw [small_L7_val g _ hs _ _ hs[i] (hw _ (List.getElem_mem hi)), List.drop_eq_getElem_cons hi, List.all_cons]
    cases shortB hs[i] with
    | false => rfl
    | true =>
      simp only [if_true, bindK_some, sumK_inl, Bool.true_and]
      rw [wrap_succ (by omega), small_L3_loop g hs hl hw k (i + 1) fuel _ (by omega) (by omega)]
      rfl

theorem shortB_parts {p : Pat} (h : shortB p = true) : ∀ s ∈ p.1, ByteArray.size s ≤ 60 := fun s hs => by
  have := List.all_eq_true.1 h s hs
  simpa using this

theorem sumL_mem {hs : List Pat} {h : Pat} (hh : h ∈ hs) : h.1.length ≤ sumL hs := sum_mem (fun h : Pat => h.1.length) hh
theorem sumL_le {hs : List Pat} {b : Nat} (h : ∀ x ∈ hs, x.1.length ≤ b) : sumL hs ≤ hs.length * b := by
  induction hs with
  | nil => simp [sumL]
  | cons x hs ih =>
    have h1 := h x (by simp)
    have h2 := ih fun y hy => h y (by simp [hy])
    have e : sumL (x :: hs) = x.1.length + sumL hs := by simp [sumL]
    rw [e, List.length_cons, Nat.succ_mul]
    omega

theorem small_val (g : Reg) (hg : WideG g) : ∃ b, law05_small g = some b ∧ (b = true → TinyG g) := by
  have hc : cap44 = 17592186044416 := rfl
  have hl := hg.len
  have hb := hg.base.len
  unfold law05_small law05_small_L3_f
  have h3 := small_L3_loop g g.2 hg.len hg.hole g.2.length 0 (List.length g.1.1 + List.length g.2 + Int.natAbs (g.1.1.length : Int) + List.length g.2 + Int.natAbs (g.2.length : Int) + Int.natAbs 0 + 1000) (g.1.1.length : Int) (by omega) (by omega)
  rw [show ((0 : Nat) : Int) = 0 from rfl, List.drop_zero] at h3
  rw [h3]
  by_cases ha : g.2.all shortB = true
  case neg =>
    rw [if_neg ha]
    exact ⟨false, rfl, fun h => by cases h⟩
  rw [if_pos ha]
  simp only [bindK_some, sumK_inl]
  generalize hfo : g.2.foldl (fun (m : Int) h => IntKind.wrap .i64 (m + (h.1.length : Int))) (g.1.1.length : Int) = nf
  have h14 := all_loop (F := law05_small_L14) (B := law05_small_L14_B) (fun _ _ => rfl) g.1.1 (fun i => ((g.1.1, g.1.2, g.2), nf, g.1.1, (g.1.1.length : Int), (i : Int))) (fun s => decide (s.size ≤ 60)) (.inr (.inl false)) (.inl ((g.1.1, g.1.2, g.2), nf))
    (fun rec i h => by
      simp only [law05_small_L14_B, brK_ite]
      rw [if_pos (by omega), listAt_nat, List.getElem?_eq_getElem h]
      simp only [bindK_some]
      rw [wrap_succ (by omega)]
      by_cases h6 : g.1.1[i].size ≤ 60
      · rw [if_neg (by omega), decide_eq_true h6, if_pos rfl]
      · rw [if_pos (by omega), decide_eq_false h6, if_neg (by simp)])
    (fun rec => by
      simp only [law05_small_L14_B, brK_ite]
      rw [if_neg (by omega)]) g.1.1.length 0 (List.length g.1.1 + List.length g.2 + Int.natAbs nf + List.length g.1.1 + Int.natAbs (g.1.1.length : Int) + Int.natAbs 0 + 1000) (by omega) (by omega)
  rw [show ((0 : Nat) : Int) = 0 from rfl, List.drop_zero] at h14
  unfold law05_small_L14_f
  rw [h14]
  by_cases hsb : (g.1.1.all fun s => decide (s.size ≤ 60)) = true
  case neg =>
    rw [if_neg hsb]
    exact ⟨false, rfl, fun h => by cases h⟩
  rw [if_pos hsb]
  simp only [bindK_some, sumK_inl, brK_ite]
  by_cases h400 : nf ≤ 400
  case neg => rw [if_neg h400]; exact ⟨false, rfl, fun h => by cases h⟩
  rw [if_pos h400]
  by_cases h70 : (g.2.length : Int) ≤ 70
  case neg => rw [if_neg h70]; exact ⟨false, rfl, fun h => by cases h⟩
  rw [if_pos h70]
  refine ⟨_, rfl, fun h20 => ?_⟩
  have h20 : (g.1.1.length : Int) ≤ 20 := of_decide_eq_true h20
  have hsum := sumL_le (hs := g.2) (b := cap44) fun x hx => (hg.hole x hx).len
  have hmul : g.2.length * cap44 ≤ 70 * cap44 := Nat.mul_le_mul_right _ (by omega)
  have hfold := fold_wrap g.2 g.1.1.length (by omega)
  rw [hfold] at hfo
  refine ⟨by omega, fun x hx => ?_, by omega, fun s hs => ?_, fun x hx => shortB_parts (List.all_eq_true.1 ha x hx), ?_⟩
  · have := sumL_mem hx
    omega
  · have := List.all_eq_true.1 hsb s hs
    simpa using this
  · show g.1.1.length + sumL g.2 ≤ 400
    omega

theorem awake_val : law05_awake () = some true := by kernel_rfl

/-! ### Paths of regions -/
def hasR (g : Reg) (s : ByteArray) : Bool := pmS g.1 s && !g.2.any fun h => pmS h s
theorem hasR_some {g : Reg} {s : ByteArray} {ws : List ByteArray} (h : pathWords s = some ws) : hasR g s = hasW g ws := by
  unfold hasR hasW
  rw [pmS_some h]
  congr 2
  exact any_same fun x _ => pmS_some h
theorem hasR_none {g : Reg} {s : ByteArray} (h : pathWords s = none) : hasR g s = false := by
  unfold hasR
  rw [pmS_none h]
  rfl

theorem region_Has_val (g : Reg) (s : ByteArray) (sg : SmallG g) (hs : s.size ≤ huge) : region_Has (g, s) = some (decide (regErr g = 0) && hasR g s) := by
  have hbig : big = 1048576 := rfl
  have hl := sg.len
  unfold region_Has
  simp only
  rw [region_Check_val g sg, pattern_Match_val _ _ sg.base hs]
  simp only [bindK_some, brK_ite]
  by_cases h0 : regErr g = 0
  case neg => rw [if_pos h0, decide_eq_false h0]; rfl
  rw [if_neg (fun h => h h0), decide_eq_true h0, Bool.true_and]
  unfold slices_ContainsFunc__region_Has_1 slices_IndexFunc__region_Has_1 slices_IndexFunc__region_Has_1_L2_f
  have := idx_loop (F := slices_IndexFunc__region_Has_1_L2) (B := slices_IndexFunc__region_Has_1_L2_B) (fun _ _ => rfl) g.2 (fun i => (g.2, s, (g.2.length : Int), (i : Int))) (fun h => pmS h s) (fun i => .inr (.inl (i : Int))) (.inl ())
    (fun rec i h => by
      simp only [slices_IndexFunc__region_Has_1_L2_B, brK_ite, region_Has_1]
      rw [if_pos (by omega), listAt_nat, List.getElem?_eq_getElem h]
      simp only [bindK_some, pattern_Match_val _ _ (sg.hole _ (List.getElem_mem h)) hs]
      rw [wrap_succ (by omega)]
      show brK (pmS g.2[i] s) _ _ = _
      cases pmS g.2[i] s <;> rfl)
    (fun rec => by
      simp only [slices_IndexFunc__region_Has_1_L2_B, brK_ite]
      rw [if_neg (by omega)]) g.2.length 0 (List.length g.2 + ByteArray.size s + Int.natAbs (g.2.length : Int) + Int.natAbs 0 + 1000) (by omega) (by omega)
  rw [show ((0 : Nat) : Int) = 0 from rfl, List.drop_zero] at this
  show brK (pmS g.1 s) _ _ = _
  unfold hasR
  cases pmS g.1 s with
  | false => rfl
  | true =>
    rw [brK_true, Bool.true_and]
    rcases this with ⟨j, h1, h2, _⟩ | ⟨h1, h2⟩
    · rw [h1, h2]
      simp only [bindK_some, sumK_inr, sumK_inl]
      rw [decide_eq_true (by omega)]
    · rw [h1, h2]
      rfl

/-! ### Two statements -/
theorem leastG_path {g : Reg} {l : List ByteArray} (eg : regErr g = 0) (h : leastG g = some l) : pathWords (pathText l) = some l ∧ hasW g l = true := by
  have h2 := leastG_length eg h
  rcases leastG_spec eg with ⟨_, h3⟩ | ⟨n, r, h3, h4, _, h5, h6, h7⟩
  · rw [h3] at h; cases h
  · rw [h4] at h
    cases h
    exact ⟨pathWords_text h2 h6, h7⟩

/-! ### A single path -/
theorem words_lit {ws : List ByteArray} (hc : ws.all compB = true) (i : Nat) (hi : i < ws.length) : compB (ptAt (ws, false) i) = true := by
  unfold ptAt
  rw [List.getElem?_eq_getElem hi]
  exact List.all_eq_true.1 hc _ (List.getElem_mem hi)

theorem point_covers {h : Pat} {ws : List ByteArray} (eh : patErr h = 0) (hc : ws.all compB = true) : covers h (ws, false) ws.length 0 = pm h ws := by
  have e := pm_at eh hc
  unfold covers
  cases hl : lenOK h ws.length with
  | false =>
    cases hp : pm h ws with
    | false => rfl
    | true => rw [(e.1 hp).1] at hl; cases hl
  | true =>
    rw [Bool.true_and]
    cases hp : pm h ws with
    | true =>
      refine covA_true.2 fun j _ hj => ?_
      have hj' : j < ws.length := by omega
      rw [pInside_word (words_lit hc j hj')]
      unfold ptAt
      rw [List.getElem?_eq_getElem hj']
      exact (e.1 hp).2 j _ (List.getElem?_eq_getElem hj')
    | false =>
      cases hcov : covA h (ws, false) 0 (ws.length - 0) with
      | false => rfl
      | true =>
        rw [e.2 ⟨hl, fun i w hw => by
          have hi := (List.getElem?_eq_some_iff.1 hw).1
          have := covA_true.1 hcov i (Nat.zero_le _) (by omega)
          rw [pInside_word (words_lit hc i hi)] at this
          unfold ptAt at this
          rw [hw] at this
          exact this⟩] at hp
        cases hp

theorem point_full {ws : List ByteArray} {hs : List Pat} (hc : ws.all compB = true) (eh : ∀ h ∈ hs, patErr h = 0) : fullB ((ws, false), hs) ws.length = hs.any fun h => pm h ws :=
  any_same fun h hh => point_covers (eh h hh) hc

theorem point_least {ws : List ByteArray} {hs : List Pat} (eg : regErr ((ws, false), hs) = 0) (hc : ws.all compB = true) : leastG ((ws, false), hs) = if (hs.any fun h => pm h ws) = true then none else some ws := by
  obtain ⟨e1, e2, e3⟩ := regErr_zero.1 eg
  have hf := point_full hc e2
  rcases leastG_spec eg with ⟨h1, h2⟩ | ⟨n, r, h1, h2, h3, h4, h5, h6⟩
  · rw [h2]
    cases hp : hs.any (fun h => pm h ws) with
    | true => rfl
    | false =>
      obtain ⟨n, hn, _⟩ := lengthG_least (g := ((ws, false), hs)) (N := ws.length) (by simp [lenOK]) (by rw [hf, hp])
      rw [h1] at hn
      cases hn
  · rw [h2]
    have hok := (lengthG_some h1).1
    have hnl : n = ws.length := by
      unfold lenOK at hok
      simpa using hok
    subst hnl
    have hp := (lengthG_some h1).2
    rw [hf] at hp
    rw [hp]
    have hb := h6
    unfold hasW at hb
    rw [Bool.and_eq_true] at hb
    have hm := (pm_at e1 h5).1 hb.1
    have : r = ws := by
      apply List.ext_getElem h4
      intro i hi hi'
      have h7 := hm.2 i r[i] (List.getElem?_eq_getElem hi)
      unfold ptAt at h7
      rw [List.getElem?_eq_getElem hi'] at h7
      have hl : star? (bts ws[i]) = none := star_comp (List.all_eq_true.1 hc _ (List.getElem_mem hi'))
      rw [show ((some ws[i]).getD starB) = ws[i] from rfl, mt_lit hl, decide_eq_true_eq] at h7
      exact h7
    rw [this]
    rfl
end Go.Proofs.YtcmfkmhmehhkpaaDoor

set_option linter.unusedSimpArgs false
set_option linter.unusedVariables false
set_option maxRecDepth 100000
namespace Go.Proofs.YtcmfkmhmehhkpaaDoor
open Go Go.Ai
/-! ### The reference's least path -/
theorem covA_beyond {h base : Pat} (eb : patErr base = 0) : ∀ {k i : Nat}, h.1.length ≤ i → covA h base i k = true
  | 0, _, _ => rfl
  | k + 1, i, hi => by
    have e : ptAt h i = starB := by
      unfold ptAt
      rw [List.getElem?_eq_none hi]
      rfl
    rw [covA, e, pInside_star (ptAt_part eb i), covA_beyond eb (by omega)]
    rfl

theorem lenFrom_fixed {g : Reg} (hr : g.1.2 = false) : ∀ {k n : Nat}, g.1.1.length < n → lenFrom g k n = none
  | 0, _, _ => rfl
  | k + 1, n, h => by
    have hlo : lenOK g.1 n = false := by unfold lenOK; rw [if_neg (by rw [hr]; simp)]; simp; omega
    rw [lenFrom, hlo, if_neg (by simp)]
    exact lenFrom_fixed hr (by omega)

theorem lengthG_pos {g : Reg} {n : Nat} (og : okG g) (h : lengthG g = some n) : 0 < n := by
  have h1 := lenOK_le (lengthG_some h).1
  have := (patErr_zero.1 og.1).1
  omega

/-- The holes that are alive, as the reference keeps them. -/
def AliveL (g : Reg) (n : Nat) (l : List ByteArray) (al : List Pat) : Prop := al.filter (fun h => lenOK h n) = g.2.filter (fun h => aliveH h n l)

theorem aliveH_len {h : Pat} {n : Nat} {l : List ByteArray} (ha : aliveH h n l = true) : lenOK h n = true := by
  unfold aliveH at ha
  rw [Bool.and_eq_true] at ha
  exact ha.1

/-- What is left behind a word. -/
def stepA (base : Pat) (n i : Nat) (x : ByteArray) : List Pat → List Pat → List Pat × Bool
  | acc, [] => (acc, true)
  | acc, h :: hs => if (lenOK h n && pInside x (ptAt h i)) = true then if covers h base n (i + 1) = true then ([], false) else stepA base n i x (acc ++ [h]) hs else stepA base n i x acc hs

theorem stepA_eq (base : Pat) (n i : Nat) (x : ByteArray) : ∀ (hs acc : List Pat), stepA base n i x acc hs = if ((hs.filter fun h => lenOK h n && pInside x (ptAt h i)).any fun h => covers h base n (i + 1)) = true then ([], false) else (acc ++ hs.filter fun h => lenOK h n && pInside x (ptAt h i), true)
  | [], acc => by simp [stepA]
  | h :: hs, acc => by
    rw [stepA, stepA_eq base n i x hs (acc ++ [h]), stepA_eq base n i x hs acc, List.filter_cons]
    cases (lenOK h n && pInside x (ptAt h i)) with
    | false => simp
    | true =>
      simp only [if_true, List.any_cons]
      cases covers h base n (i + 1) with
      | true => simp
      | false =>
        simp only [Bool.false_eq_true, if_false, Bool.false_or]
        split <;> simp

theorem filter_and {p q : Pat → Bool} (l : List Pat) : l.filter (fun h => p h && q h) = (l.filter p).filter q := by
  rw [List.filter_filter]
  congr 1
  funext h
  rw [Bool.and_comm]

theorem stepA_alive {g : Reg} {n : Nat} {l : List ByteArray} {al : List Pat} {x : ByteArray} (ha : AliveL g n l al) : (stepA g.1 n l.length x [] al).2 = freeW g n l x ∧ (freeW g n l x = true → AliveL g n (l ++ [x]) (stepA g.1 n l.length x [] al).1) := by
  have hf : (al.filter fun h => lenOK h n && pInside x (ptAt h l.length)) = g.2.filter fun h => aliveH h n (l ++ [x]) := by
    rw [filter_and, ha, ← filter_and]
    congr 1
    funext h
    rw [aliveH_snoc]
  rw [stepA_eq, hf]
  have hfree : freeW g n l x = !((g.2.filter fun h => aliveH h n (l ++ [x])).any fun h => covers h g.1 n (l.length + 1)) := by
    unfold freeW
    congr 1
    rw [List.any_filter]
    apply any_same
    intro h _
    rw [aliveH_snoc]
    cases aliveH h n l <;> cases covers h g.1 n (l.length + 1) <;> cases pInside x (ptAt h l.length) <;> rfl
  rw [hfree]
  cases hc : (g.2.filter fun h => aliveH h n (l ++ [x])).any (fun h => covers h g.1 n (l.length + 1)) with
  | true => simp
  | false =>
    simp only [Bool.false_eq_true, if_false, Bool.not_false, List.nil_append, true_and]
    intro _
    unfold AliveL
    rw [List.filter_filter]
    congr 1
    funext h
    cases hal : aliveH h n (l ++ [x]) with
    | false => simp
    | true => rw [aliveH_len hal]; rfl
end Go.Proofs.YtcmfkmhmehhkpaaDoor

set_option linter.unusedSimpArgs false
set_option linter.unusedVariables false
set_option maxRecDepth 100000
namespace Go.Proofs.YtcmfkmhmehhkpaaDoor
open Go Go.Ai
/-! ### Texts of patterns -/
theorem textP_eq {p : Pat} (h : patErr p = 0) : textP p = if p.2 = true then ((ByteArray.mk #[47, 47]) ++ ofB (joinAt 47 (p.1.map bts))) ++ (ByteArray.mk #[47, 46, 46, 46]) else (ByteArray.mk #[47, 47]) ++ ofB (joinAt 47 (p.1.map bts)) := by
  have hne : p.1.map bts ≠ [] := by
    intro he
    have := (patErr_zero.1 h).1
    exact this (by simpa using congrArg List.length he)
  unfold textP textL pathText
  split
  · apply bts_inj
    rw [bts_append, bts_append, bts_ofB, bts_ofB, List.map_append, List.map_cons, List.map_nil, joinAt_append 47 hne (by simp), bts_ofB]
    rfl
  · apply bts_inj
    rw [bts_append, bts_ofB, bts_ofB, List.append_nil]
    rfl
theorem joinP_val {p : Pat} (hp : SmallP p) (ep : patErr p = 0) : joinF p.1 (ByteArray.mk #[47]) = some (ofB (joinAt 47 (p.1.map bts))) ∧ (joinAt 47 (p.1.map bts)).length ≤ 13 * big := by
  have hbig : big = 1048576 := rfl
  have h12 := (patErr_zero.1 ep).2.2.2
  have hs := hp.ssz h12
  unfold ssz at hs
  refine ⟨joinF_val _ _ (by omega) (by omega), ?_⟩
  have := joinAt_length 47 (p.1.map bts)
  rw [List.length_map, List.map_map] at this
  have e : (List.length ∘ bts) = ByteArray.size := by funext s; exact (size_bts s).symm
  rw [e] at this
  omega
theorem pattern_Format_val (p : Pat) (hp : SmallP p) : pattern_Format p = some (if patErr p = 0 then (textP p, 0) else (⟨#[]⟩, patErr p)) := by
  have hbig : big = 1048576 := rfl
  unfold pattern_Format strings_Join
  rw [pattern_Check_val p hp, bindK_some, brK_ite]
  by_cases ep : patErr p = 0
  · obtain ⟨h1, h2⟩ := joinP_val hp ep
    rw [if_neg (by rw [ep]; simp), if_pos ep, h1, bindK_some, textP_eq ep, brK_ite, if_pos (by rw [size_ofB]; show 2 + _ ≤ _; omega)]
    cases h : p.2 with
    | true =>
      rw [brK_true, brK_ite, if_pos (by rw [ByteArray.size_append, size_ofB]; show 2 + _ + 4 ≤ _; omega)]
      rfl
    | false => rfl
  · rw [if_pos ep, if_neg ep]

/-! ### The reference's patterns -/
theorem ref03_Same_val (p q : Pat) (hl : p.1.length ≤ big) : ref03_Same (p, q) = some (decide (p = q)) := by
  have hbig : big = 1048576 := rfl
  unfold ref03_Same
  simp only
  by_cases h2 : p.2 = q.2
  case neg =>
    have : (!(p.2 == q.2)) = true := by cases h1 : p.2 <;> cases h3 : q.2 <;> simp [h1, h3] at h2 ⊢
    rw [this, brK_true, decide_eq_false (fun h => h2 (by rw [h]))]
  have : (!(p.2 == q.2)) = false := by rw [h2]; simp
  rw [this, brK_false, brK_ite]
  by_cases hlen : p.1.length = q.1.length
  case neg =>
    rw [if_pos (by omega), decide_eq_false (fun h => hlen (by rw [h]))]
  rw [if_neg (by omega)]
  unfold ref03_Same_L4_f
  have loop := range_ind (F := ref03_Same_L4) (B := ref03_Same_L4_B) (fun _ _ => rfl) (p.1.zip q.1) (fun (_ : Unit) i => (q, p.1, (p.1.length : Int), (i : Int))) (fun _ x => if x.1 = x.2 then .inl () else .inr (.inr (.inl false))) (fun _ => .inl ()) (fun _ _ => True)
    (fun rec a i h _ => by
      have hz : (p.1.zip q.1).length = p.1.length := by simp; omega
      rw [hz] at h
      simp only [ref03_Same_L4_B, brK_ite]
      rw [if_pos (by omega), listAt_nat, List.getElem?_eq_getElem h, bindK_some, listAt_nat, List.getElem?_eq_getElem (by omega), bindK_some, wrap_succ (by omega), List.getElem_zip]
      by_cases e : p.1[i] = q.1[i]
      · rw [if_neg (by simp [e]), if_pos e]
      · rw [if_pos e, if_neg e])
    (fun _ _ _ _ _ _ => trivial)
    (fun rec a _ => by
      have hz : (p.1.zip q.1).length = p.1.length := by simp; omega
      simp only [ref03_Same_L4_B, brK_ite]
      rw [hz, if_neg (by omega)])
    (p.1.zip q.1).length 0 (List.length q.1 + List.length p.1 + Int.natAbs (p.1.length : Int) + Int.natAbs 0 + 1000) () (by omega) (by simp; omega) trivial
  rw [show ((0 : Nat) : Int) = 0 from rfl, List.drop_zero] at loop
  rw [loop]
  have key : ∀ (l m : List ByteArray), l.length = m.length → foldE (fun (_ : Unit) (x : ByteArray × ByteArray) => if x.1 = x.2 then (.inl () : Unit ⊕ (Unit ⊕ (Bool ⊕ Empty))) else .inr (.inr (.inl false))) (fun _ => .inl ()) () (l.zip m) = if l = m then .inl () else .inr (.inl false) := by
    intro l
    induction l with
    | nil => intro m hm; have : m = [] := List.eq_nil_of_length_eq_zero hm.symm; subst this; rfl
    | cons a l ih =>
      intro m hm
      cases m with
      | nil => cases hm
      | cons b m =>
        rw [List.zip_cons_cons, foldE]
        by_cases e : a = b
        · rw [if_pos e]
          simp only
          rw [ih m (by simpa using hm)]
          by_cases e2 : l = m
          · rw [if_pos e2, if_pos (by rw [e, e2])]
          · rw [if_neg e2, if_neg (by simp [e, e2])]
        · rw [if_neg e, if_neg (by simp [e])]
  rw [key p.1 q.1 hlen]
  by_cases e : p.1 = q.1
  · rw [if_pos e, bindK_some, sumK_inl, decide_eq_true (Prod.ext e h2)]
  · rw [if_neg e, bindK_some, sumK_inr, sumK_inl, decide_eq_false (fun h => e (by rw [h]))]

/-- The parts of the longer one, narrowed. -/
def meetF (q : Pat) : Nat → List ByteArray → Option (List ByteArray)
  | _, [] => some []
  | i, x :: l => (narrow x (ptAt q i)).bind fun c => (meetF q (i + 1) l).map fun r => c :: r
theorem meetF_get (q : Pat) : ∀ {l : List ByteArray} {i : Nat} {r : List ByteArray}, meetF q i l = some r → r.length = l.length ∧ ∀ j (h : j < l.length), narrow l[j] (ptAt q (i + j)) = r[j]?
  | [], i, r, h => by cases h; simp
  | x :: l, i, r, h => by
    simp only [meetF, Option.bind_eq_some_iff, Option.map_eq_some_iff] at h
    obtain ⟨c, hc, r', hr, rfl⟩ := h
    obtain ⟨h1, h2⟩ := meetF_get q hr
    refine ⟨by simp [h1], fun j hj => ?_⟩
    cases j with
    | zero => simpa using hc
    | succ j =>
      have := h2 j (by simpa using hj)
      rw [show i + 1 + j = i + (j + 1) by omega] at this
      simpa using this
theorem meetF_none (q : Pat) : ∀ {l : List ByteArray} {i : Nat}, meetF q i l = none → ∃ j, ∃ h : j < l.length, narrow l[j] (ptAt q (i + j)) = none
  | [], i, h => by cases h
  | x :: l, i, h => by
    cases hc : narrow x (ptAt q i) with
    | none => exact ⟨0, by simp, by simpa using hc⟩
    | some c =>
      simp only [meetF, hc, Option.bind_some, Option.map_eq_none_iff] at h
      obtain ⟨j, hj, h2⟩ := meetF_none q h
      refine ⟨j + 1, by simpa using hj, ?_⟩
      rw [show i + 1 + j = i + (j + 1) by omega] at h2
      simpa using h2
theorem meetP_meetF {p q : Pat} (ep : patErr p = 0) (eq : patErr q = 0) (hle : q.1.length ≤ p.1.length) (hf : fitsP p q) : meetP p q = (meetF q 0 p.1).map fun r => (r, p.2) := by
  have hp2 : p.2 = (p.2 && q.2) := by
    rcases Nat.lt_or_eq_of_le hle with h | h
    · rw [hf.2.1 h, Bool.and_true]
    · rw [← hf.2.2 h.symm, Bool.and_self]
  cases hm : meetF q 0 p.1 with
  | some r =>
    obtain ⟨h1, h2⟩ := meetF_get q hm
    rw [Option.map_some, meetP_iff]
    refine ⟨ep, eq, hf, by show r.length = _; omega, hp2, fun i => ?_⟩
    by_cases hi : i < p.1.length
    · have := h2 i hi
      rw [Nat.zero_add] at this
      rw [ptAt_in hi, this]
      unfold ptAt
      rw [List.getElem?_eq_getElem (show i < r.length by omega)]
      rfl
    · rw [ptAt_out (show p.1.length ≤ i by omega), ptAt_out (show q.1.length ≤ i by omega), narrow_self]
      unfold ptAt
      rw [List.getElem?_eq_none (show r.length ≤ i by omega)]
      rfl
  | none =>
    obtain ⟨j, hj, h⟩ := meetF_none q hm
    cases hmm : meetP p q with
    | none => rfl
    | some m =>
      have := (meetP_is hmm).at_ j
      rw [ptAt_in hj] at this
      rw [Nat.zero_add] at h
      rw [h] at this
      cases this

theorem meetP_nofit {p q : Pat} (h : ¬ fitsP p q) : meetP p q = none := by
  cases hm : meetP p q with
  | none => rfl
  | some m => exact absurd (meetP_is hm).fit h

theorem withinP_false {p q : Pat} (h : ¬ WithinIs p q) : withinP p q = false := by
  cases hw : withinP p q with
  | false => rfl
  | true => exact absurd (withinP_iff.1 hw) h
end Go.Proofs.YtcmfkmhmehhkpaaDoor
