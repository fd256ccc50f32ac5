/- A part of the proof of a law of this seat (rP_R3, rP_R4, rP_S1). -/
import Derived.Test.YtcmfkmhmehhkpaaMa
import Derived.Test.YtcmfkmhmehhkpaaAd
import Derived.Test.YtcmfkmhmehhkpaaAe
set_option linter.unusedSimpArgs false
set_option linter.unusedVariables false
set_option maxRecDepth 100000
namespace Go.Proofs.Ytcmfkmhmehhkpaa
open Go Go.Ai
/-! ### What the statements look at -/
def cap44 : Nat := 17592186044416
structure WideP (p : Pat) : Prop where
  len : p.1.length ≤ cap44
  part : ∀ s ∈ p.1, ByteArray.size s ≤ 140737488355328
structure WideG (g : Reg) : Prop where
  base : WideP g.1
  hole : ∀ h ∈ g.2, WideP h
  len : g.2.length ≤ cap44
structure TinyG (g : Reg) : Prop where
  base : g.1.1.length ≤ 20
  hole : ∀ h ∈ g.2, h.1.length ≤ 400
  len : g.2.length ≤ 70
  basePart : ∀ s ∈ g.1.1, ByteArray.size s ≤ 60
  holePart : ∀ h ∈ g.2, ∀ s ∈ h.1, ByteArray.size s ≤ 60
  total : g.1.1.length + (g.2.map fun h => h.1.length).sum ≤ 400

theorem TinyG.small {g : Reg} (h : TinyG g) : SmallG g := by
  have hbig : big = 1048576 := rfl
  have h1 := h.base
  have h2 := h.len
  exact ⟨⟨by omega, fun s hs => by have := h.basePart s hs; omega⟩, fun x hx => ⟨by have := h.hole x hx; omega, fun s hs => by have := h.holePart x hx s hs; omega⟩, by omega⟩

theorem wideP_of {p : Pat} (h : Ty.wOK 140737488351232 tyPat p) : WideP p := by
  obtain ⟨⟨h1, h2⟩, _⟩ := h
  refine ⟨?_, fun s hs => ?_⟩
  · have : List.length p.1 * 8 ≤ 140737488351232 := h1
    show List.length p.1 ≤ 17592186044416
    omega
  · have : ByteArray.size s ≤ 140737488351232 := h2 s hs
    omega
abbrev tyReg : Ty := .prod tyPat (.list tyPat)
theorem wideG_of {g : Reg} (h : Ty.wOK 140737488351232 tyReg g) : WideG g := by
  obtain ⟨h1, h2, h3⟩ := h
  refine ⟨wideP_of h1, fun x hx => wideP_of (h3 x hx), ?_⟩
  have : List.length g.2 * 8 ≤ 140737488351232 := h2
  show List.length g.2 ≤ 17592186044416
  omega

def sumL (hs : List Pat) : Nat := (hs.map fun h => h.1.length).sum
theorem fold_wrap : ∀ (hs : List Pat) (n : Nat), n + sumL hs ≤ 4611686018427387904 → hs.foldl (fun (m : Int) h => IntKind.wrap .i64 (m + (h.1.length : Int))) (n : Int) = ((n + sumL hs : Nat) : Int)
  | [], n, _ => by simp [sumL]
  | h :: hs, n, hb => by
    have e : sumL (h :: hs) = h.1.length + sumL hs := by simp [sumL]
    rw [e] at hb
    rw [List.foldl_cons, wrap_id (by omega) (by omega), show ((n : Int) + (h.1.length : Int)) = ((n + h.1.length : Nat) : Int) by omega, fold_wrap hs _ (by omega), e]
    congr 1
    omega

def shortB (p : Pat) : Bool := p.1.all fun s => decide (s.size ≤ 60)
theorem small_L7_val (g : Reg) (m : Int) (hs : List Pat) (x1 x2 : Int) (p : Pat) (hp : WideP p) : law05_small_L7_f ((g.1.1, g.1.2, g.2), m, hs, x1, x2, p.1, (p.1.length : Int), 0) = some (if shortB p = true then .inl ((g.1.1, g.1.2, g.2), m, hs, x1, x2) else .inr (.inl false)) := by
  have hl := hp.len
  have hc : cap44 = 17592186044416 := rfl
  unfold law05_small_L7_f shortB
  have := all_loop (F := law05_small_L7) (B := law05_small_L7_B) (fun _ _ => rfl) p.1 (fun i => ((g.1.1, g.1.2, g.2), m, hs, x1, x2, p.1, (p.1.length : Int), (i : Int))) (fun s => decide (s.size ≤ 60)) (.inr (.inl false)) (.inl ((g.1.1, g.1.2, g.2), m, hs, x1, x2))
    (fun rec i h => by
      simp only [law05_small_L7_B, brK_ite]
      rw [if_pos (by omega), listAt_nat, List.getElem?_eq_getElem h]
      simp only [bindK_some]
      rw [wrap_succ (by omega)]
      by_cases h6 : p.1[i].size ≤ 60
      · rw [if_neg (by omega), decide_eq_true h6, if_pos rfl]
      · rw [if_pos (by omega), decide_eq_false h6, if_neg (by simp)])
    (fun rec => by
      simp only [law05_small_L7_B, brK_ite]
      rw [if_neg (by omega)]) p.1.length 0 (List.length g.1.1 + List.length g.2 + Int.natAbs m + List.length hs + Int.natAbs x1 + Int.natAbs x2 + List.length p.1 + Int.natAbs (p.1.length : Int) + Int.natAbs 0 + 1000) (by omega) (by omega)
  rw [show ((0 : Nat) : Int) = 0 from rfl, List.drop_zero] at this
  exact this

theorem small_L3_loop (g : Reg) (hs : List Pat) (hl : hs.length ≤ cap44) (hw : ∀ h ∈ hs, WideP h) : ∀ (k i fuel : Nat) (m : Int), i + k = hs.length → k < fuel →
    law05_small_L3 fuel ((g.1.1, g.1.2, g.2), m, hs, (hs.length : Int), (i : Int)) = some (if (hs.drop i).all shortB = true then .inl ((g.1.1, g.1.2, g.2), (hs.drop i).foldl (fun (m : Int) h => IntKind.wrap .i64 (m + (h.1.length : Int))) m) else .inr (.inl false))
  | 0, i, fuel + 1, m, h, _ => by
    have hd : hs.drop i = [] := List.drop_eq_nil_of_le (by omega)
    simp only [law05_small_L3, law05_small_L3_B, brK_ite]
    rw [if_neg (by omega), hd]
    rfl
  | k + 1, i, fuel + 1, m, h, hf => by
    have hc : cap44 = 17592186044416 := rfl
    have hi : i < hs.length := by omega
    simp only [law05_small_L3, law05_small_L3_B, brK_ite]
    rw [if_pos (by omega), listAt_nat, List.getElem?_eq_getElem hi]
    simp only [bindK_some]
    rw [small_L7_val g _ hs _ _ hs[i] (hw _ (List.getElem_mem hi)), List.drop_eq_getElem_cons hi, List.all_cons]
    cases shortB hs[i] with
    | false => rfl
    | true =>
      simp only [if_true, bindK_some, sumK_inl, Bool.true_and]
      rw [wrap_succ (by omega), small_L3_loop g hs hl hw k (i + 1) fuel _ (by omega) (by omega)]
      rfl

theorem shortB_parts {p : Pat} (h : shortB p = true) : ∀ s ∈ p.1, ByteArray.size s ≤ 60 := fun s hs => by
  have := List.all_eq_true.1 h s hs
  simpa using this

theorem sumL_mem {hs : List Pat} {h : Pat} (hh : h ∈ hs) : h.1.length ≤ sumL hs := sum_mem (fun h : Pat => h.1.length) hh
theorem sumL_le {hs : List Pat} {b : Nat} (h : ∀ x ∈ hs, x.1.length ≤ b) : sumL hs ≤ hs.length * b := by
  induction hs with
  | nil => simp [sumL]
  | cons x hs ih =>
    have h1 := h x (by simp)
    have h2 := ih fun y hy => h y (by simp [hy])
    have e : sumL (x :: hs) = x.1.length + sumL hs := by simp [sumL]
    rw [e, List.length_cons, Nat.succ_mul]
    omega

theorem small_val (g : Reg) (hg : WideG g) : ∃ b, law05_small g = some b ∧ (b = true → TinyG g) := by
  have hc : cap44 = 17592186044416 := rfl
  have hl := hg.len
  have hb := hg.base.len
  unfold law05_small law05_small_L3_f
  have h3 := small_L3_loop g g.2 hg.len hg.hole g.2.length 0 (List.length g.1.1 + List.length g.2 + Int.natAbs (g.1.1.length : Int) + List.length g.2 + Int.natAbs (g.2.length : Int) + Int.natAbs 0 + 1000) (g.1.1.length : Int) (by omega) (by omega)
  rw [show ((0 : Nat) : Int) = 0 from rfl, List.drop_zero] at h3
  rw [h3]
  by_cases ha : g.2.all shortB = true
  case neg =>
    rw [if_neg ha]
    exact ⟨false, rfl, fun h => by cases h⟩
  rw [if_pos ha]
  simp only [bindK_some, sumK_inl]
  generalize hfo : g.2.foldl (fun (m : Int) h => IntKind.wrap .i64 (m + (h.1.length : Int))) (g.1.1.length : Int) = nf
  have h14 := all_loop (F := law05_small_L14) (B := law05_small_L14_B) (fun _ _ => rfl) g.1.1 (fun i => ((g.1.1, g.1.2, g.2), nf, g.1.1, (g.1.1.length : Int), (i : Int))) (fun s => decide (s.size ≤ 60)) (.inr (.inl false)) (.inl ((g.1.1, g.1.2, g.2), nf))
    (fun rec i h => by
      simp only [law05_small_L14_B, brK_ite]
      rw [if_pos (by omega), listAt_nat, List.getElem?_eq_getElem h]
      simp only [bindK_some]
      rw [wrap_succ (by omega)]
      by_cases h6 : g.1.1[i].size ≤ 60
      · rw [if_neg (by omega), decide_eq_true h6, if_pos rfl]
      · rw [if_pos (by omega), decide_eq_false h6, if_neg (by simp)])
    (fun rec => by
      simp only [law05_small_L14_B, brK_ite]
      rw [if_neg (by omega)]) g.1.1.length 0 (List.length g.1.1 + List.length g.2 + Int.natAbs nf + List.length g.1.1 + Int.natAbs (g.1.1.length : Int) + Int.natAbs 0 + 1000) (by omega) (by omega)
  rw [show ((0 : Nat) : Int) = 0 from rfl, List.drop_zero] at h14
  unfold law05_small_L14_f
  rw [h14]
  by_cases hsb : (g.1.1.all fun s => decide (s.size ≤ 60)) = true
  case neg =>
    rw [if_neg hsb]
    exact ⟨false, rfl, fun h => by cases h⟩
  rw [if_pos hsb]
  simp only [bindK_some, sumK_inl, brK_ite]
  by_cases h400 : nf ≤ 400
  case neg => rw [if_neg h400]; exact ⟨false, rfl, fun h => by cases h⟩
  rw [if_pos h400]
  by_cases h70 : (g.2.length : Int) ≤ 70
  case neg => rw [if_neg h70]; exact ⟨false, rfl, fun h => by cases h⟩
  rw [if_pos h70]
  refine ⟨_, rfl, fun h20 => ?_⟩
  have h20 : (g.1.1.length : Int) ≤ 20 := of_decide_eq_true h20
  have hsum := sumL_le (hs := g.2) (b := cap44) fun x hx => (hg.hole x hx).len
  have hmul : g.2.length * cap44 ≤ 70 * cap44 := Nat.mul_le_mul_right _ (by omega)
  have hfold := fold_wrap g.2 g.1.1.length (by omega)
  rw [hfold] at hfo
  refine ⟨by omega, fun x hx => ?_, by omega, fun s hs => ?_, fun x hx => shortB_parts (List.all_eq_true.1 ha x hx), ?_⟩
  · have := sumL_mem hx
    omega
  · have := List.all_eq_true.1 hsb s hs
    simpa using this
  · show g.1.1.length + sumL g.2 ≤ 400
    omega

theorem awake_val : law05_awake () = some true := by kernel_rfl

/-! ### Paths of regions -/
def hasR (g : Reg) (s : ByteArray) : Bool := pmS g.1 s && !g.2.any fun h => pmS h s
theorem hasR_some {g : Reg} {s : ByteArray} {ws : List ByteArray} (h : pathWords s = some ws) : hasR g s = hasW g ws := by
  unfold hasR hasW
  rw [pmS_some h]
  congr 2
  exact any_same fun x _ => pmS_some h
theorem hasR_none {g : Reg} {s : ByteArray} (h : pathWords s = none) : hasR g s = false := by
  unfold hasR
  rw [pmS_none h]
  rfl

theorem ref05_Check_val (g : Reg) (sg : SmallG g) : ref05_Check g = some (regErr g) := by
  have hbig : big = 1048576 := rfl
  have hl := sg.len
  unfold ref05_Check regErr
  rw [ref03_Check_val _ sg.base]
  simp only [bindK_some, brK_ite]
  by_cases h0 : patErr g.1 = 0
  case neg => rw [if_pos h0, if_pos h0]
  rw [if_neg (fun h => h h0), if_neg (fun h => h h0)]
  unfold ref05_Check_L4_f
  have := all_loop (F := ref05_Check_L4) (B := ref05_Check_L4_B) (fun _ _ => rfl) g.2 (fun i => ((g.1.1, g.1.2, g.2), g.2, (g.2.length : Int), (i : Int))) (fun h => decide (patErr h = 0)) (.inr (.inl 51)) (.inl (g.1.1, g.1.2, g.2))
    (fun rec i h => by
      simp only [ref05_Check_L4_B, brK_ite]
      rw [if_pos (by omega), listAt_nat, List.getElem?_eq_getElem h]
      simp only [bindK_some, ref03_Check_val _ (sg.hole _ (List.getElem_mem h))]
      rw [wrap_succ (by omega)]
      by_cases e : patErr g.2[i] = 0 <;> simp [e])
    (fun rec => by
      simp only [ref05_Check_L4_B, brK_ite]
      rw [if_neg (by omega)]) g.2.length 0 (List.length g.1.1 + List.length g.2 + List.length g.2 + Int.natAbs (g.2.length : Int) + Int.natAbs 0 + 1000) (by omega) (by omega)
  rw [show ((0 : Nat) : Int) = 0 from rfl, List.drop_zero] at this
  rw [this]
  by_cases ha : g.2.all (fun h => decide (patErr h = 0)) = true
  · have hn : ¬ (g.2.any fun h => decide (patErr h ≠ 0)) = true := by
      rw [List.any_eq_true]
      rintro ⟨x, hx, hx'⟩
      have := List.all_eq_true.1 ha x hx
      simp at this hx'
      exact hx' this
    rw [if_pos ha, if_neg hn]
    simp only [bindK_some, sumK_inl]
    by_cases h64 : 64 < g.2.length
    · rw [if_pos (by omega), if_pos h64]
    · rw [if_neg (by omega), if_neg h64]
  · have hn : (g.2.any fun h => decide (patErr h ≠ 0)) = true := by
      apply Classical.byContradiction
      intro hc
      apply ha
      rw [List.all_eq_true]
      intro x hx
      apply Classical.byContradiction
      intro hx'
      exact hc (List.any_eq_true.2 ⟨x, hx, by simpa using hx'⟩)
    rw [if_neg ha, if_pos hn]
    rfl

/-! ### Two statements -/
theorem leastG_path {g : Reg} {l : List ByteArray} (eg : regErr g = 0) (h : leastG g = some l) : pathWords (pathText l) = some l ∧ hasW g l = true := by
  have h2 := leastG_length eg h
  rcases leastG_spec eg with ⟨_, h3⟩ | ⟨n, r, h3, h4, _, h5, h6, h7⟩
  · rw [h3] at h; cases h
  · rw [h4] at h
    cases h
    exact ⟨pathWords_text h2 h6, h7⟩

/-! ### A single path -/
theorem words_lit {ws : List ByteArray} (hc : ws.all compB = true) (i : Nat) (hi : i < ws.length) : compB (ptAt (ws, false) i) = true := by
  unfold ptAt
  rw [List.getElem?_eq_getElem hi]
  exact List.all_eq_true.1 hc _ (List.getElem_mem hi)

theorem point_covers {h : Pat} {ws : List ByteArray} (eh : patErr h = 0) (hc : ws.all compB = true) : covers h (ws, false) ws.length 0 = pm h ws := by
  have e := pm_at eh hc
  unfold covers
  cases hl : lenOK h ws.length with
  | false =>
    cases hp : pm h ws with
    | false => rfl
    | true => rw [(e.1 hp).1] at hl; cases hl
  | true =>
    rw [Bool.true_and]
    cases hp : pm h ws with
    | true =>
      refine covA_true.2 fun j _ hj => ?_
      have hj' : j < ws.length := by omega
      rw [pInside_word (words_lit hc j hj')]
      unfold ptAt
      rw [List.getElem?_eq_getElem hj']
      exact (e.1 hp).2 j _ (List.getElem?_eq_getElem hj')
    | false =>
      cases hcov : covA h (ws, false) 0 (ws.length - 0) with
      | false => rfl
      | true =>
        rw [e.2 ⟨hl, fun i w hw => by
          have hi := (List.getElem?_eq_some_iff.1 hw).1
          have := covA_true.1 hcov i (Nat.zero_le _) (by omega)
          rw [pInside_word (words_lit hc i hi)] at this
          unfold ptAt at this
          rw [hw] at this
          exact this⟩] at hp
        cases hp

theorem point_full {ws : List ByteArray} {hs : List Pat} (hc : ws.all compB = true) (eh : ∀ h ∈ hs, patErr h = 0) : fullB ((ws, false), hs) ws.length = hs.any fun h => pm h ws :=
  any_same fun h hh => point_covers (eh h hh) hc

theorem point_least {ws : List ByteArray} {hs : List Pat} (eg : regErr ((ws, false), hs) = 0) (hc : ws.all compB = true) : leastG ((ws, false), hs) = if (hs.any fun h => pm h ws) = true then none else some ws := by
  obtain ⟨e1, e2, e3⟩ := regErr_zero.1 eg
  have hf := point_full hc e2
  rcases leastG_spec eg with ⟨h1, h2⟩ | ⟨n, r, h1, h2, h3, h4, h5, h6⟩
  · rw [h2]
    cases hp : hs.any (fun h => pm h ws) with
    | true => rfl
    | false =>
      obtain ⟨n, hn, _⟩ := lengthG_least (g := ((ws, false), hs)) (N := ws.length) (by simp [lenOK]) (by rw [hf, hp])
      rw [h1] at hn
      cases hn
  · rw [h2]
    have hok := (lengthG_some h1).1
    have hnl : n = ws.length := by
      unfold lenOK at hok
      simpa using hok
    subst hnl
    have hp := (lengthG_some h1).2
    rw [hf] at hp
    rw [hp]
    have hb := h6
    unfold hasW at hb
    rw [Bool.and_eq_true] at hb
    have hm := (pm_at e1 h5).1 hb.1
    have : r = ws := by
      apply List.ext_getElem h4
      intro i hi hi'
      have h7 := hm.2 i r[i] (List.getElem?_eq_getElem hi)
      unfold ptAt at h7
      rw [List.getElem?_eq_getElem hi'] at h7
      have hl : star? (bts ws[i]) = none := star_comp (List.all_eq_true.1 hc _ (List.getElem_mem hi'))
      rw [show ((some ws[i]).getD starB) = ws[i] from rfl, mt_lit hl, decide_eq_true_eq] at h7
      exact h7
    rw [this]
    rfl
end Go.Proofs.Ytcmfkmhmehhkpaa

set_option linter.unusedSimpArgs false
set_option linter.unusedVariables false
set_option maxRecDepth 100000
namespace Go.Proofs.Ytcmfkmhmehhkpaa
open Go Go.Ai
/-! ### The reference's least path -/
theorem ref05_part_val (p : Pat) (i : Nat) : ref05_part (p, (i : Int)) = some (ptAt p i) := by
  unfold ref05_part ptAt
  simp only [brK_ite]
  by_cases h : i < p.1.length
  · rw [if_pos (by omega), listAt_nat, List.getElem?_eq_getElem h]
    rfl
  · rw [if_neg (by omega), List.getElem?_eq_none (by omega)]
    rfl
theorem ref05_counts_val (p : Pat) (n : Nat) : ref05_counts (p, (n : Int)) = some (lenOK p n) := by
  unfold ref05_counts lenOK
  simp only
  cases p.2 with
  | true => simp
  | false => simp; omega
theorem ref03_Inside_val (s t : ByteArray) (hs : s.size ≤ big) (ht : t.size ≤ big) (ps : isPart (bts s) = true) (pt : isPart (bts t) = true) : ref03_Inside (s, t) = some (pInside s t) := by
  have hbig : big = 1048576 := rfl
  have hh : huge = 1073741824 := rfl
  obtain ⟨x, h1, h2, h3⟩ := ref03_Star_val s hs
  obtain ⟨y, h4, h5, h6⟩ := ref03_Star_val t ht
  unfold ref03_Inside
  simp only
  rw [h1, h4]
  simp only [bindK_some]
  cases hst : star? (bts t) with
  | none =>
    have : pInside s t = decide (s = t) := by simp [pInside, hst]
    rw [this]
    rfl
  | some t' =>
    have hy := h5 t' hst
    have hyl := star_size hst
    simp only [Option.isSome_some, Bool.not_true, brK_false]
    cases hss : star? (bts s) with
    | some s' =>
      have hx := h2 s' hss
      have hxl := star_size hss
      simp only [Option.isSome_some, brK_true]
      rw [HasSuffix_val _ (by show x.size ≤ huge; rw [size_bts, hx]; omega) (by show y.size ≤ huge; rw [size_bts, hy]; omega), bindK_some]
      simp only [hx, hy]
      have : pInside s t = decide (t' <:+ s') := by simp [pInside, hst, hss]
      rw [this]
    | none =>
      have hc := isPart_lit ps hss
      simp only [Option.isSome_none, brK_false]
      rw [ref03_Capture_val t s ht (by omega), bindK_some]
      have hm := capR_mpart (p := t) hc
      rw [pInside_word hc]
      unfold Go.Ai.mt
      cases hmp : mpart t s with
      | none => rw [hmp] at hm; rw [hm]; rfl
      | some a => rw [hmp] at hm; rw [hm.1]; rfl

theorem covA_beyond {h base : Pat} (eb : patErr base = 0) : ∀ {k i : Nat}, h.1.length ≤ i → covA h base i k = true
  | 0, _, _ => rfl
  | k + 1, i, hi => by
    have e : ptAt h i = starB := by
      unfold ptAt
      rw [List.getElem?_eq_none hi]
      rfl
    rw [covA, e, pInside_star (ptAt_part eb i), covA_beyond eb (by omega)]
    rfl

theorem ref05_covers_loop (n : Nat) (h base : Pat) (hh : SmallP h) (hb : SmallP base) (eh : patErr h = 0) (eb : patErr base = 0) (hn : n ≤ big) : ∀ (k i fuel : Nat), i + k = n → k < fuel →
    ref05_covers_L3 fuel ((i : Int), (n : Int), base, h.1, h.2) = some (if covA h base i k = true then .inl () else .inr (.inl false))
  | 0, i, fuel + 1, hk, _ => by
    simp only [ref05_covers_L3, ref05_covers_L3_B, brK_ite]
    rw [if_neg (by omega)]
    rfl
  | k + 1, i, fuel + 1, hk, hf => by
    have hbig : big = 1048576 := rfl
    simp only [ref05_covers_L3, ref05_covers_L3_B, brK_ite]
    rw [if_pos (by omega)]
    by_cases hi : i < h.1.length
    · have hpt : h.1[i] = ptAt h i := by unfold ptAt; rw [List.getElem?_eq_getElem hi]; rfl
      rw [if_pos (by omega), ref05_part_val, bindK_some, listAt_nat, List.getElem?_eq_getElem hi, bindK_some, hpt, ref03_Inside_val _ _ (ptAt_size hb i) (ptAt_size hh i) (ptAt_part eb i) (ptAt_part eh i), bindK_some, wrap_succ (by omega), ref05_covers_loop n h base hh hb eh eb hn k (i + 1) fuel (by omega) (by omega), covA]
      cases pInside (ptAt base i) (ptAt h i) <;> simp
    · rw [if_neg (by omega), covA_beyond eb (by omega)]
      rfl
theorem ref05_covers_val (h base : Pat) (n i : Nat) (hh : SmallP h) (hb : SmallP base) (eh : patErr h = 0) (eb : patErr base = 0) (hn : n ≤ big) (hi : i ≤ n) : ref05_covers (base, h, (i : Int), (n : Int)) = some (covers h base n i) := by
  have hbig : big = 1048576 := rfl
  unfold ref05_covers covers
  simp only
  rw [ref05_counts_val, bindK_some]
  cases lenOK h n with
  | false => rfl
  | true =>
    simp only [Bool.not_true, brK_false, Bool.true_and]
    unfold ref05_covers_L3_f
    rw [ref05_covers_loop n h base hh hb eh eb hn (n - i) i (Int.natAbs (i : Int) + Int.natAbs (n : Int) + List.length base.1 + List.length h.1 + 1000) (by omega) (by omega)]
    cases covA h base i (n - i) <;> rfl

theorem ref05_full_val (g : Reg) (n : Nat) (sg : SmallG g) (og : okG g) (hn : n ≤ big) : ref05_full (g, (n : Int)) = some (fullB g n) := by
  have hbig : big = 1048576 := rfl
  have hl := sg.len
  unfold ref05_full ref05_full_L2_f
  simp only
  have := all_loop (F := ref05_full_L2) (B := ref05_full_L2_B) (fun _ _ => rfl) g.2 (fun i => ((n : Int), (g.1.1, g.1.2, g.2), g.2, (g.2.length : Int), (i : Int))) (fun h => !covers h g.1 n 0) (.inr (.inl true)) (.inl ())
    (fun rec i h => by
      simp only [ref05_full_L2_B, brK_ite]
      rw [if_pos (by omega), listAt_nat, List.getElem?_eq_getElem h]
      have hcv := ref05_covers_val g.2[i] g.1 n 0 (sg.hole _ (List.getElem_mem h)) sg.base (og.2 _ (List.getElem_mem h)) og.1 hn (by omega)
      rw [show ((0 : Nat) : Int) = 0 from rfl] at hcv
      simp only [bindK_some]
      rw [hcv, bindK_some, wrap_succ (by omega)]
      cases covers g.2[i] g.1 n 0 <;> rfl)
    (fun rec => by
      simp only [ref05_full_L2_B, brK_ite]
      rw [if_neg (by omega)]) g.2.length 0 (Int.natAbs (n : Int) + List.length g.1.1 + List.length g.2 + List.length g.2 + Int.natAbs (g.2.length : Int) + Int.natAbs 0 + 1000) (by omega) (by omega)
  rw [show ((0 : Nat) : Int) = 0 from rfl, List.drop_zero] at this
  rw [this]
  unfold fullB
  have e : (g.2.all fun h => !covers h g.1 n 0) = !(g.2.any fun h => covers h g.1 n 0) := by rw [List.not_any_eq_all_not]
  rw [e]
  cases g.2.any (fun h => covers h g.1 n 0) <;> rfl

theorem ref05_Length_L7_loop (g : Reg) (hs : List Pat) (hl : hs.length ≤ big) (hp : ∀ h ∈ hs, h.1.length ≤ big) : ∀ (k i fuel m : Nat), i + k = hs.length → k < fuel →
    ref05_Length_L7 fuel ((g.1.1, g.1.2, g.2), (m : Int), hs, (hs.length : Int), (i : Int)) = some (.inl ((g.1.1, g.1.2, g.2), (((hs.drop i).foldl (fun m h => max m h.1.length) m : Nat) : Int)))
  | 0, i, fuel + 1, m, h, _ => by
    have hd : hs.drop i = [] := List.drop_eq_nil_of_le (by omega)
    simp only [ref05_Length_L7, ref05_Length_L7_B, brK_ite]
    rw [if_neg (by omega), hd]
    rfl
  | k + 1, i, fuel + 1, m, h, hf => by
    have hbig : big = 1048576 := rfl
    have hi : i < hs.length := by omega
    simp only [ref05_Length_L7, ref05_Length_L7_B, brK_ite]
    rw [if_pos (by omega), listAt_nat, List.getElem?_eq_getElem hi]
    simp only [bindK_some]
    rw [wrap_succ (by omega), show max (m : Int) (hs[i].1.length : Int) = ((max m hs[i].1.length : Nat) : Int) by omega, ref05_Length_L7_loop g hs hl hp k (i + 1) fuel _ (by omega) (by omega), List.drop_eq_getElem_cons hi]
    rfl

theorem ref05_Length_L12_loop (g : Reg) (sg : SmallG g) (og : okG g) (hr : g.1.2 = true) : ∀ (k n fuel : Nat), g.1.1.length < n → n + k = mostOf g + 2 → k < fuel →
    ref05_Length_L12 fuel ((g.1.1, g.1.2, g.2), (mostOf g : Int), (n : Int)) = some (match lenFrom g k n with | some m => .inr (.inl (m : Int)) | none => .inl ())
  | 0, n, fuel + 1, hlt, h, _ => by
    have hm := mostOf_ok g og
    simp only [ref05_Length_L12, ref05_Length_L12_B, brK_ite]
    rw [wrap_succ (by omega), if_neg (by omega)]
    rfl
  | k + 1, n, fuel + 1, hlt, h, hf => by
    have hbig : big = 1048576 := rfl
    have hm := mostOf_ok g og
    have hlo : lenOK g.1 n = true := by unfold lenOK; rw [if_pos hr]; simpa using hlt
    simp only [ref05_Length_L12, ref05_Length_L12_B, brK_ite]
    rw [wrap_succ (by omega), if_pos (by omega)]
    have hfv := ref05_full_val g n sg og (by omega)
    rw [hfv, bindK_some, wrap_succ (by omega), ref05_Length_L12_loop g sg og hr k (n + 1) fuel (by omega) (by omega) (by omega)]
    simp only [lenFrom, hlo]
    cases fullB g n <;> simp

theorem lenFrom_fixed {g : Reg} (hr : g.1.2 = false) : ∀ {k n : Nat}, g.1.1.length < n → lenFrom g k n = none
  | 0, _, _ => rfl
  | k + 1, n, h => by
    have hlo : lenOK g.1 n = false := by unfold lenOK; rw [if_neg (by rw [hr]; simp)]; simp; omega
    rw [lenFrom, hlo, if_neg (by simp)]
    exact lenFrom_fixed hr (by omega)

theorem lengthG_pos {g : Reg} {n : Nat} (og : okG g) (h : lengthG g = some n) : 0 < n := by
  have h1 := lenOK_le (lengthG_some h).1
  have := (patErr_zero.1 og.1).1
  omega

theorem ref05_Length_val (g : Reg) (sg : SmallG g) (og : okG g) : ref05_Length g = some (match lengthG g with | some n => (n : Int) | none => 0) := by
  have hbig : big = 1048576 := rfl
  have hl := sg.len
  have hm := mostOf_ok g og
  have hb := mostOf_base g
  have hbl := sg.base.len
  unfold ref05_Length
  cases hr : g.1.2 with
  | false =>
    simp only [Bool.not_false, brK_true]
    rw [ref05_full_val g g.1.1.length sg og hbl, bindK_some]
    obtain ⟨d, hd⟩ : ∃ d, mostOf g + 2 - g.1.1.length = d + 1 := ⟨mostOf g + 1 - g.1.1.length, by omega⟩
    have hlo : lenOK g.1 g.1.1.length = true := by unfold lenOK; rw [if_neg (by rw [hr]; simp)]; simp
    unfold lengthG
    rw [hd, lenFrom, hlo, lenFrom_fixed hr (by omega)]
    cases fullB g g.1.1.length <;> simp
  | true =>
    simp only [Bool.not_true, brK_false]
    unfold ref05_Length_L7_f
    have h3 := ref05_Length_L7_loop g g.2 sg.len (fun h hh => (sg.hole h hh).len) g.2.length 0 (List.length g.1.1 + List.length g.2 + Int.natAbs (g.1.1.length : Int) + List.length g.2 + Int.natAbs (g.2.length : Int) + Int.natAbs 0 + 1000) g.1.1.length (by omega) (by omega)
    rw [show ((0 : Nat) : Int) = 0 from rfl, List.drop_zero, hr] at h3
    rw [h3]
    simp only [bindK_some, sumK_inl]
    have e : ((g.2.foldl (fun m h => max m h.1.length) g.1.1.length : Nat) : Int) = (mostOf g : Int) := rfl
    rw [e, wrap_succ (by omega)]
    unfold ref05_Length_L12_f
    have h12 := ref05_Length_L12_loop g sg og hr (mostOf g + 1 - g.1.1.length) (g.1.1.length + 1) (List.length g.1.1 + List.length g.2 + Int.natAbs (mostOf g : Int) + Int.natAbs ((g.1.1.length + 1 : Nat) : Int) + 1000) (by omega) (by omega) (by omega)
    rw [hr] at h12
    rw [h12]
    obtain ⟨d, hd⟩ : ∃ d, mostOf g + 2 - g.1.1.length = d + 1 := ⟨mostOf g + 1 - g.1.1.length, by omega⟩
    have hlo : lenOK g.1 g.1.1.length = false := by unfold lenOK; rw [if_pos hr]; simp
    unfold lengthG
    rw [hd, lenFrom, hlo, if_neg (by simp), show mostOf g + 1 - g.1.1.length = d by omega]
    cases lenFrom g d (g.1.1.length + 1) <;> rfl

theorem ref05_firsts_val : ref05_firsts () = some (firsts.map fun c => ofB [c]) := by kernel_rfl

/-- The holes that are alive, as the reference keeps them. -/
def AliveL (g : Reg) (n : Nat) (l : List ByteArray) (al : List Pat) : Prop := al.filter (fun h => lenOK h n) = g.2.filter (fun h => aliveH h n l)

theorem aliveH_len {h : Pat} {n : Nat} {l : List ByteArray} (ha : aliveH h n l = true) : lenOK h n = true := by
  unfold aliveH at ha
  rw [Bool.and_eq_true] at ha
  exact ha.1

/-- What is left behind a word. -/
def stepA (base : Pat) (n i : Nat) (x : ByteArray) : List Pat → List Pat → List Pat × Bool
  | acc, [] => (acc, true)
  | acc, h :: hs => if (lenOK h n && pInside x (ptAt h i)) = true then if covers h base n (i + 1) = true then ([], false) else stepA base n i x (acc ++ [h]) hs else stepA base n i x acc hs

theorem ref05_after_loop (base : Pat) (n i : Nat) (x : ByteArray) (al : List Pat) (hx : compB x = true) (hxs : x.size ≤ big) (sb : SmallP base) (eb : patErr base = 0) (sal : ∀ h ∈ al, SmallP h) (eal : ∀ h ∈ al, patErr h = 0) (hl : al.length ≤ big) (hn : n ≤ big) (hi : i < n) : ∀ (k j fuel : Nat) (acc : List Pat), j + k = al.length → acc.length ≤ j → k < fuel →
    ref05_after_L3 fuel (x, (i : Int), (n : Int), base, acc, al, (al.length : Int), (j : Int)) = some (if (stepA base n i x acc (al.drop j)).2 = true then .inl (stepA base n i x acc (al.drop j)).1 else .inr (.inl ([], false)))
  | 0, j, fuel + 1, acc, h, ho, _ => by
    have hd : al.drop j = [] := List.drop_eq_nil_of_le (by omega)
    simp only [ref05_after_L3, ref05_after_L3_B, brK_ite]
    rw [if_neg (by omega), hd]
    rfl
  | k + 1, j, fuel + 1, acc, h, ho, hf => by
    have hbig : big = 1048576 := rfl
    have hh : huge = 1073741824 := rfl
    have hj : j < al.length := by omega
    have sh := sal _ (List.getElem_mem hj)
    have eh := eal _ (List.getElem_mem hj)
    simp only [ref05_after_L3, ref05_after_L3_B, brK_ite]
    rw [if_pos (by omega), listAt_nat, List.getElem?_eq_getElem hj]
    simp only [bindK_some]
    rw [ref05_counts_val, bindK_some, wrap_succ (i := j) (by omega), wrap_succ (i := i) (by omega), List.drop_eq_getElem_cons hj]
    have ih := fun acc' (ha : acc'.length ≤ j + 1) => ref05_after_loop base n i x al hx hxs sb eb sal eal hl hn hi k (j + 1) fuel acc' (by omega) ha (by omega)
    rw [ih acc (by omega), ih (acc ++ [al[j]]) (by simp; omega), ref05_covers_val al[j] base n (i + 1) sh sb eh eb hn (by omega)]
    simp only [bindK_some]
    rw [fits_ok (by omega) (by simp) (by omega), brK_true]
    have e0 : ∀ b, (lenOK al[j] n && pInside x (ptAt al[j] i)) = b → stepA base n i x acc (al[j] :: al.drop (j + 1)) = if b = true then if covers al[j] base n (i + 1) = true then ([], false) else stepA base n i x (acc ++ [al[j]]) (al.drop (j + 1)) else stepA base n i x acc (al.drop (j + 1)) := fun b h => by rw [stepA, h]
    by_cases hlo : lenOK al[j] n = true
    case neg =>
      have hlo' : lenOK al[j] n = false := by simpa using hlo
      rw [e0 false (by rw [hlo']; rfl), hlo']
      simp
    case pos =>
      rw [hlo, Bool.true_and] at e0
      rw [hlo]
      simp only [Bool.not_true, brK_false]
      have fin : ∀ (o : Option (List Pat ⊕ List Pat × Bool ⊕ Empty)), (brK (covers al[j] base n (i + 1)) (some (Sum.inr (Sum.inl ([], false)))) (some (if (stepA base n i x (acc ++ [al[j]]) (List.drop (j + 1) al)).snd = true then Sum.inl (stepA base n i x (acc ++ [al[j]]) (List.drop (j + 1) al)).fst else Sum.inr (Sum.inl ([], false)))) : Option (List Pat ⊕ List Pat × Bool ⊕ Empty)) = o → pInside x (ptAt al[j] i) = true → o = some (if (stepA base n i x acc (al[j] :: al.drop (j + 1))).2 = true then .inl (stepA base n i x acc (al[j] :: al.drop (j + 1))).1 else .inr (.inl ([], false))) := by
        intro o ho hp
        rw [e0 true hp, ← ho]
        by_cases hc : covers al[j] base n (i + 1) = true
        · rw [hc]; simp
        · have hc' : covers al[j] base n (i + 1) = false := by simpa using hc
          rw [hc']; simp
      by_cases hi2 : i < al[j].1.length
      · have hpt : al[j].1[i] = ptAt al[j] i := by unfold ptAt; rw [List.getElem?_eq_getElem hi2]; rfl
        rw [if_pos (by omega), listAt_nat, List.getElem?_eq_getElem hi2, bindK_some, hpt, ref03_Capture_val _ _ (ptAt_size sh i) (by omega), bindK_some]
        have hw : pInside x (ptAt al[j] i) = Go.Ai.mt (ptAt al[j] i) x := pInside_word hx
        unfold Go.Ai.mt at hw
        have hm := capR_mpart (p := ptAt al[j] i) hx
        cases hmp : mpart (ptAt al[j] i) x with
        | none =>
          rw [hmp] at hm hw
          rw [hm, e0 false hw]
          simp
        | some a =>
          rw [hmp] at hm hw
          rw [hm.1]
          simp only [Bool.not_true, brK_false]
          exact fin _ rfl hw
      · rw [if_neg (by omega)]
        have e : ptAt al[j] i = starB := by unfold ptAt; rw [List.getElem?_eq_none (by omega)]; rfl
        have hin : pInside x (ptAt al[j] i) = true := by rw [e, pInside_word hx]; exact mt_starB hx
        exact fin _ rfl hin

theorem stepA_eq (base : Pat) (n i : Nat) (x : ByteArray) : ∀ (hs acc : List Pat), stepA base n i x acc hs = if ((hs.filter fun h => lenOK h n && pInside x (ptAt h i)).any fun h => covers h base n (i + 1)) = true then ([], false) else (acc ++ hs.filter fun h => lenOK h n && pInside x (ptAt h i), true)
  | [], acc => by simp [stepA]
  | h :: hs, acc => by
    rw [stepA, stepA_eq base n i x hs (acc ++ [h]), stepA_eq base n i x hs acc, List.filter_cons]
    cases (lenOK h n && pInside x (ptAt h i)) with
    | false => simp
    | true =>
      simp only [if_true, List.any_cons]
      cases covers h base n (i + 1) with
      | true => simp
      | false =>
        simp only [Bool.false_eq_true, if_false, Bool.false_or]
        split <;> simp

theorem filter_and {p q : Pat → Bool} (l : List Pat) : l.filter (fun h => p h && q h) = (l.filter p).filter q := by
  rw [List.filter_filter]
  congr 1
  funext h
  rw [Bool.and_comm]

theorem stepA_alive {g : Reg} {n : Nat} {l : List ByteArray} {al : List Pat} {x : ByteArray} (ha : AliveL g n l al) : (stepA g.1 n l.length x [] al).2 = freeW g n l x ∧ (freeW g n l x = true → AliveL g n (l ++ [x]) (stepA g.1 n l.length x [] al).1) := by
  have hf : (al.filter fun h => lenOK h n && pInside x (ptAt h l.length)) = g.2.filter fun h => aliveH h n (l ++ [x]) := by
    rw [filter_and, ha, ← filter_and]
    congr 1
    funext h
    rw [aliveH_snoc]
  rw [stepA_eq, hf]
  have hfree : freeW g n l x = !((g.2.filter fun h => aliveH h n (l ++ [x])).any fun h => covers h g.1 n (l.length + 1)) := by
    unfold freeW
    congr 1
    rw [List.any_filter]
    apply any_same
    intro h _
    rw [aliveH_snoc]
    cases aliveH h n l <;> cases covers h g.1 n (l.length + 1) <;> cases pInside x (ptAt h l.length) <;> rfl
  rw [hfree]
  cases hc : (g.2.filter fun h => aliveH h n (l ++ [x])).any (fun h => covers h g.1 n (l.length + 1)) with
  | true => simp
  | false =>
    simp only [Bool.false_eq_true, if_false, Bool.not_false, List.nil_append, true_and]
    intro _
    unfold AliveL
    rw [List.filter_filter]
    congr 1
    funext h
    cases hal : aliveH h n (l ++ [x]) with
    | false => simp
    | true => rw [aliveH_len hal]; rfl

theorem ref05_after_val (g : Reg) (n : Nat) (l : List ByteArray) (al : List Pat) (x : ByteArray) (ha : AliveL g n l al) (sg : SmallG g) (eg : regErr g = 0) (hal : ∀ h ∈ al, h ∈ g.2) (hl : al.length ≤ big) (hx : compB x = true) (hxs : x.size ≤ big) (hn : n ≤ big) (hi : l.length < n) :
    ∃ al', ref05_after (g.1, al, x, (l.length : Int), (n : Int)) = some (al', freeW g n l x) ∧ (freeW g n l x = true → AliveL g n (l ++ [x]) al' ∧ (∀ h ∈ al', h ∈ g.2) ∧ al'.length ≤ al.length) := by
  have hbig : big = 1048576 := rfl
  obtain ⟨e1, e2, e3⟩ := regErr_zero.1 eg
  obtain ⟨h1, h2⟩ := stepA_alive (x := x) ha
  unfold ref05_after ref05_after_L3_f
  simp only
  have hloop := ref05_after_loop g.1 n l.length x al hx hxs sg.base e1 (fun h hh => sg.hole h (hal h hh)) (fun h hh => e2 h (hal h hh)) hl hn hi al.length 0 (ByteArray.size x + Int.natAbs (l.length : Int) + Int.natAbs (n : Int) + List.length g.1.1 + List.length ([] : List Pat) + List.length al + Int.natAbs (al.length : Int) + Int.natAbs 0 + 1000) [] (by omega) (by simp) (by omega)
  rw [show ((0 : Nat) : Int) = 0 from rfl, List.drop_zero, h1] at hloop
  rw [hloop]
  cases hf : freeW g n l x with
  | false => exact ⟨[], rfl, fun h => by cases h⟩
  | true =>
    have hsub : ∀ h ∈ (stepA g.1 n l.length x [] al).1, h ∈ al := by
      rw [stepA_eq]
      intro h hh
      split at hh
      · cases hh
      · rw [List.nil_append] at hh
        exact (List.mem_filter.1 hh).1
    have hlen : (stepA g.1 n l.length x [] al).1.length ≤ al.length := by
      rw [stepA_eq]
      split
      · simp
      · rw [List.nil_append]
        exact List.length_filter_le _ _
    exact ⟨_, rfl, fun _ => ⟨h2 hf, fun h hh => hal h (hsub h hh), hlen⟩⟩

theorem ref05_Least_L14_loop (g : Reg) (n : Nat) (l : List ByteArray) (al : List Pat) (s : List UInt8) (t : ByteArray) (ht : bts t = s) (hs : s.all okByte = true) (hss : s.length < big) (ha : AliveL g n l al) (sg : SmallG g) (eg : regErr g = 0) (hal : ∀ h ∈ al, h ∈ g.2) (hl : al.length ≤ big) (hn : n ≤ big) (hi : l.length < n) (fs : List UInt8) (hfs : ∀ c ∈ fs, c ∈ firsts) (hfl : fs.length ≤ 65) : ∀ (k i fuel : Nat), i + k = fs.length → k < fuel →
    ∃ o, ref05_Least_L14 fuel ((g.1.1, g.1.2, g.2), (n : Int), al, l, (l.length : Int), t, fs.map (fun c => ofB [c]), (fs.length : Int), (i : Int)) = some o ∧
      match ((fs.drop i).map fun c => ofB (c :: s)).find? (freeW g n l) with
      | some w => ∃ al', o = .inl ((g.1.1, g.1.2, g.2), (n : Int), al', l ++ [w], (l.length : Int)) ∧ AliveL g n (l ++ [w]) al' ∧ (∀ h ∈ al', h ∈ g.2) ∧ al'.length ≤ al.length
      | none => o = .inl ((g.1.1, g.1.2, g.2), (n : Int), al, l, (l.length : Int))
  | 0, i, fuel + 1, h, _ => by
    have hd : fs.drop i = [] := List.drop_eq_nil_of_le (by omega)
    rw [hd]
    refine ⟨.inl ((g.1.1, g.1.2, g.2), (n : Int), al, l, (l.length : Int)), ?_, rfl⟩
    simp only [ref05_Least_L14, ref05_Least_L14_B, brK_ite]
    rw [if_neg (by omega)]
  | k + 1, i, fuel + 1, h, hf => by
    have hbig : big = 1048576 := rfl
    have hi2 : i < fs.length := by omega
    have hts : t.size = s.length := by rw [size_bts, ht]
    have hex : ofB [fs[i]] ++ t = ofB (fs[i] :: s) := by
      apply bts_inj
      rw [bts_append, bts_ofB, bts_ofB, ht]
      rfl
    have hc : compB (ofB (fs[i] :: s)) = true := by
      show comp (bts (ofB _)) = true
      rw [bts_ofB]
      exact comp_first (hfs _ (List.getElem_mem hi2)) hs
    obtain ⟨al', h1, h2⟩ := ref05_after_val g n l al _ ha sg eg hal hl hc (by rw [size_ofB, List.length_cons]; omega) hn hi
    rw [List.drop_eq_getElem_cons hi2, List.map_cons, List.find?_cons]
    have hget : (fs.map (fun c => ofB [c]))[i]? = some (ofB [fs[i]]) := by simp [hi2]
    have hcond : (ofB [fs[i]]).size + t.size ≤ 140737488355328 := by rw [size_ofB, List.length_singleton]; omega
    simp only [ref05_Least_L14, ref05_Least_L14_B, brK_ite]
    rw [if_pos (by omega), listAt_nat, hget]
    simp only [bindK_some]
    rw [if_pos hcond, hex, h1]
    simp only [bindK_some]
    cases hfr : freeW g n l (ofB (fs[i] :: s)) with
    | true =>
      obtain ⟨g1, g2, g3⟩ := h2 hfr
      simp only [brK_true]
      rw [if_pos hcond, fits_ok (by omega) (by simp) (by omega), brK_true]
      exact ⟨_, rfl, al', rfl, g1, g2, g3⟩
    | false =>
      simp only [brK_false]
      rw [wrap_succ (by omega)]
      exact ref05_Least_L14_loop g n l al s t ht hs hss ha sg eg hal hl hn hi fs hfs hfl k (i + 1) fuel (by omega) (by omega)

theorem ref05_Least_L7_loop (g : Reg) (n : Nat) (sg : SmallG g) (eg : regErr g = 0) (hn : n ≤ big) : ∀ (k fuel : Nat) (l : List ByteArray) (al : List Pat), l.length + k = n → k < fuel → AliveL g n l al → (∀ h ∈ al, h ∈ g.2) → al.length ≤ big → invL g n l →
    ref05_Least_L7 fuel ((g.1.1, g.1.2, g.2), (n : Int), al, l, (l.length : Int)) = some (match leastW g n k l with | some r => .inl r | none => .inr (.inl (⟨#[]⟩, false)))
  | 0, fuel + 1, l, al, h, _, _, _, _, _ => by
    simp only [ref05_Least_L7, ref05_Least_L7_B, brK_ite]
    rw [if_neg (by omega)]
    rfl
  | k + 1, fuel + 1, l, al, h, hf, ha, hal, hl, hinv => by
    have hbig : big = 1048576 := rfl
    obtain ⟨e1, e2, e3⟩ := regErr_zero.1 eg
    obtain ⟨w, hw, hfree, hcw, hmt⟩ := leastAt_exists eg (by omega) hinv
    have hws := (leastAt_small sg eg hw).2
    have hps := ptAt_size sg.base l.length
    obtain ⟨t, ht, ht1, ht2⟩ := ref03_Star_val (ptAt g.1 l.length) hps
    simp only [ref05_Least_L7, ref05_Least_L7_B, brK_ite]
    rw [if_pos (by omega), ref05_part_val g.1, bindK_some, ht, bindK_some]
    simp only [leastW, hw, Option.bind_some]
    have hnext := freeW_inv hfree
    unfold leastAt at hw
    cases hst : star? (bts (ptAt g.1 l.length)) with
    | none =>
      rw [hst] at hw
      simp only at hw
      split at hw
      case isFalse => cases hw
      cases hw
      simp only [Option.isSome_none, Bool.not_false, brK_true]
      rw [bindK_some, fits_ok (by omega) (by simp) (by omega), brK_true, listAt_nat]
      have hget : (l ++ [ptAt g.1 l.length])[l.length]? = some (ptAt g.1 l.length) := by simp
      rw [hget]
      simp only [bindK_some]
      obtain ⟨al', h1, h2⟩ := ref05_after_val g n l al (ptAt g.1 l.length) ha sg eg hal hl hcw hws hn (by omega)
      obtain ⟨g1, g2, g3⟩ := h2 hfree
      have h1' : ref05_after ((g.1.1, g.1.2), al, ptAt g.1 l.length, (l.length : Int), (n : Int)) = some (al', freeW g n l (ptAt g.1 l.length)) := h1
      rw [h1', bindK_some, wrap_succ (by omega)]
      have e4 : ((l.length + 1 : Nat) : Int) = ((l ++ [ptAt g.1 l.length]).length : Int) := by simp
      rw [e4]
      exact ref05_Least_L7_loop g n sg eg hn k fuel _ al' (by simp; omega) (by omega) g1 g2 (by omega) hnext
    | some s =>
      rw [hst] at hw
      simp only at hw
      have hsl := star_size hst
      simp only [Option.isSome_some, Bool.not_true, brK_false]
      rw [ref05_firsts_val, bindK_some]
      unfold ref05_Least_L14_f
      obtain ⟨o, h1, h2⟩ := ref05_Least_L14_loop g n l al s t (ht1 s hst) (star_all hst).2 (by omega) ha sg eg hal hl hn (by omega) firsts (fun c hc => hc) (Nat.le_refl _) firsts.length 0 (List.length g.1.1 + List.length g.2 + Int.natAbs (n : Int) + List.length al + List.length l + Int.natAbs (l.length : Int) + ByteArray.size t + List.length (firsts.map fun c => ofB [c]) + Int.natAbs ((firsts.map fun c => ofB [c]).length : Int) + Int.natAbs 0 + 1000) (by omega) (by rw [List.length_map]; omega)
      rw [show ((0 : Nat) : Int) = 0 from rfl] at h1
      rw [List.length_map] at h1 ⊢
      rw [h1, bindK_some]
      rw [List.drop_zero, hw] at h2
      obtain ⟨al', rfl, g1, g2, g3⟩ := h2
      simp only [sumK_inl]
      rw [wrap_succ (by omega), if_neg (by simp)]
      have e4 : ((l.length + 1 : Nat) : Int) = ((l ++ [w]).length : Int) := by simp
      rw [e4]
      exact ref05_Least_L7_loop g n sg eg hn k fuel _ al' (by simp; omega) (by omega) g1 g2 (by omega) hnext

theorem ref05_Least_val (g : Reg) (sg : SmallG g) (eg : regErr g = 0) : ref05_Least g = some (leastR g) := by
  have hbig : big = 1048576 := rfl
  have hl := sg.len
  unfold ref05_Least leastR
  rw [ref05_Length_val g sg (okG_of eg), bindK_some, brK_ite]
  rcases leastG_spec eg with ⟨h1, h2⟩ | ⟨n, r, h1, h2, h3, h4, h5, h6⟩
  · rw [h1, h2]
    rfl
  · obtain ⟨z1, z2⟩ := leastG_sizes sg eg h2
    have hn0 := lengthG_pos (okG_of eg) h1
    rw [h1, h2]
    simp only
    rw [if_neg (by omega)]
    unfold ref05_Least_L7_f
    have hinv := invL_nil (lengthG_some h1).2
    have hal : AliveL g n [] g.2 := by
      unfold AliveL
      congr 1
      funext h
      simp [aliveH, aliveFrom]
    have h7 := ref05_Least_L7_loop g n sg eg (by omega) n (List.length g.1.1 + List.length g.2 + Int.natAbs (n : Int) + List.length g.2 + List.length ([] : List ByteArray) + Int.natAbs 0 + 1000) [] g.2 (by simp) (by omega) hal (fun h hh => hh) hl hinv
    rw [show (([] : List ByteArray).length : Int) = 0 from rfl, h3] at h7
    rw [h7]
    simp only [bindK_some, sumK_inl]
    rw [ref02_Join_val r (by omega) (by omega)]
    rfl

theorem RegionLeasts_val (g : Reg) (hg : WideG g) : law05_RegionLeasts g = some true := by
  obtain ⟨b, hb, ht⟩ := small_val g hg
  unfold law05_RegionLeasts
  rw [hb, awake_val]
  simp only [bindK_some]
  cases b with
  | false => rfl
  | true =>
    have sg := (ht rfl).small
    simp only [Bool.not_true, brK_false]
    rw [region_Empty_val g sg, region_Least_val g sg, ref05_Check_val g sg]
    simp only [bindK_some, brK_ite]
    by_cases h0 : regErr g = 0
    case neg =>
      rw [if_pos h0, if_neg h0, if_neg h0]
      simp
    rw [if_neg (fun h => h h0), if_pos h0, if_pos h0, ref05_Least_val g sg h0, bindK_some]
    have : (lengthG g).isNone = !(leastR g).2 := by
      unfold leastR
      rcases leastG_spec h0 with ⟨h1, h2⟩ | ⟨n, r, h1, h2, _⟩
      · rw [h1, h2]; rfl
      · rw [h1, h2]; rfl
    rw [this]
    simp
end Go.Proofs.Ytcmfkmhmehhkpaa

set_option linter.unusedSimpArgs false
set_option linter.unusedVariables false
set_option maxRecDepth 100000
namespace Go.Proofs.Ytcmfkmhmehhkpaa
open Go Go.Ai
/-! ### Texts of patterns -/
theorem textP_eq {p : Pat} (h : patErr p = 0) : textP p = if p.2 = true then ((ByteArray.mk #[47, 47]) ++ ofB (joinAt 47 (p.1.map bts))) ++ (ByteArray.mk #[47, 46, 46, 46]) else (ByteArray.mk #[47, 47]) ++ ofB (joinAt 47 (p.1.map bts)) := by
  have hne : p.1.map bts ≠ [] := by
    intro he
    have := (patErr_zero.1 h).1
    exact this (by simpa using congrArg List.length he)
  unfold textP textL pathText
  split
  · apply bts_inj
    rw [bts_append, bts_append, bts_ofB, bts_ofB, List.map_append, List.map_cons, List.map_nil, joinAt_append 47 hne (by simp), bts_ofB]
    rfl
  · apply bts_inj
    rw [bts_append, bts_ofB, bts_ofB, List.append_nil]
    rfl
theorem joinP_val {p : Pat} (hp : SmallP p) (ep : patErr p = 0) : joinF p.1 (ByteArray.mk #[47]) = some (ofB (joinAt 47 (p.1.map bts))) ∧ (joinAt 47 (p.1.map bts)).length ≤ 13 * big := by
  have hbig : big = 1048576 := rfl
  have h12 := (patErr_zero.1 ep).2.2.2
  have hs := hp.ssz h12
  unfold ssz at hs
  refine ⟨joinF_val _ _ (by omega) (by omega), ?_⟩
  have := joinAt_length 47 (p.1.map bts)
  rw [List.length_map, List.map_map] at this
  have e : (List.length ∘ bts) = ByteArray.size := by funext s; exact (size_bts s).symm
  rw [e] at this
  omega
theorem ref03_Text_val (p : Pat) (hp : SmallP p) (ep : patErr p = 0) : ref03_Text p = some (textP p) := by
  have hbig : big = 1048576 := rfl
  obtain ⟨h1, h2⟩ := joinP_val hp ep
  unfold ref03_Text strings_Join
  rw [h1, bindK_some, textP_eq ep, brK_ite, if_pos (by rw [size_ofB]; show 2 + _ ≤ _; omega)]
  cases h : p.2 with
  | true =>
    rw [brK_true, brK_ite, if_pos (by rw [ByteArray.size_append, size_ofB]; show 2 + _ + 4 ≤ _; omega)]
    rfl
  | false => rfl
theorem pattern_Format_val (p : Pat) (hp : SmallP p) : pattern_Format p = some (if patErr p = 0 then (textP p, 0) else (⟨#[]⟩, patErr p)) := by
  have hbig : big = 1048576 := rfl
  unfold pattern_Format strings_Join
  rw [pattern_Check_val p hp, bindK_some, brK_ite]
  by_cases ep : patErr p = 0
  · obtain ⟨h1, h2⟩ := joinP_val hp ep
    rw [if_neg (by rw [ep]; simp), if_pos ep, h1, bindK_some, textP_eq ep, brK_ite, if_pos (by rw [size_ofB]; show 2 + _ ≤ _; omega)]
    cases h : p.2 with
    | true =>
      rw [brK_true, brK_ite, if_pos (by rw [ByteArray.size_append, size_ofB]; show 2 + _ + 4 ≤ _; omega)]
      rfl
    | false => rfl
  · rw [if_pos ep, if_neg ep]

/-! ### The reference's patterns -/
theorem ref03_Same_val (p q : Pat) (hl : p.1.length ≤ big) : ref03_Same (p, q) = some (decide (p = q)) := by
  have hbig : big = 1048576 := rfl
  unfold ref03_Same
  simp only
  by_cases h2 : p.2 = q.2
  case neg =>
    have : (!(p.2 == q.2)) = true := by cases h1 : p.2 <;> cases h3 : q.2 <;> simp [h1, h3] at h2 ⊢
    rw [this, brK_true, decide_eq_false (fun h => h2 (by rw [h]))]
  have : (!(p.2 == q.2)) = false := by rw [h2]; simp
  rw [this, brK_false, brK_ite]
  by_cases hlen : p.1.length = q.1.length
  case neg =>
    rw [if_pos (by omega), decide_eq_false (fun h => hlen (by rw [h]))]
  rw [if_neg (by omega)]
  unfold ref03_Same_L4_f
  have loop := range_ind (F := ref03_Same_L4) (B := ref03_Same_L4_B) (fun _ _ => rfl) (p.1.zip q.1) (fun (_ : Unit) i => (q, p.1, (p.1.length : Int), (i : Int))) (fun _ x => if x.1 = x.2 then .inl () else .inr (.inr (.inl false))) (fun _ => .inl ()) (fun _ _ => True)
    (fun rec a i h _ => by
      have hz : (p.1.zip q.1).length = p.1.length := by simp; omega
      rw [hz] at h
      simp only [ref03_Same_L4_B, brK_ite]
      rw [if_pos (by omega), listAt_nat, List.getElem?_eq_getElem h, bindK_some, listAt_nat, List.getElem?_eq_getElem (by omega), bindK_some, wrap_succ (by omega), List.getElem_zip]
      by_cases e : p.1[i] = q.1[i]
      · rw [if_neg (by simp [e]), if_pos e]
      · rw [if_pos e, if_neg e])
    (fun _ _ _ _ _ _ => trivial)
    (fun rec a _ => by
      have hz : (p.1.zip q.1).length = p.1.length := by simp; omega
      simp only [ref03_Same_L4_B, brK_ite]
      rw [hz, if_neg (by omega)])
    (p.1.zip q.1).length 0 (List.length q.1 + List.length p.1 + Int.natAbs (p.1.length : Int) + Int.natAbs 0 + 1000) () (by omega) (by simp; omega) trivial
  rw [show ((0 : Nat) : Int) = 0 from rfl, List.drop_zero] at loop
  rw [loop]
  have key : ∀ (l m : List ByteArray), l.length = m.length → foldE (fun (_ : Unit) (x : ByteArray × ByteArray) => if x.1 = x.2 then (.inl () : Unit ⊕ (Unit ⊕ (Bool ⊕ Empty))) else .inr (.inr (.inl false))) (fun _ => .inl ()) () (l.zip m) = if l = m then .inl () else .inr (.inl false) := by
    intro l
    induction l with
    | nil => intro m hm; have : m = [] := List.eq_nil_of_length_eq_zero hm.symm; subst this; rfl
    | cons a l ih =>
      intro m hm
      cases m with
      | nil => cases hm
      | cons b m =>
        rw [List.zip_cons_cons, foldE]
        by_cases e : a = b
        · rw [if_pos e]
          simp only
          rw [ih m (by simpa using hm)]
          by_cases e2 : l = m
          · rw [if_pos e2, if_pos (by rw [e, e2])]
          · rw [if_neg e2, if_neg (by simp [e, e2])]
        · rw [if_neg e, if_neg (by simp [e])]
  rw [key p.1 q.1 hlen]
  by_cases e : p.1 = q.1
  · rw [if_pos e, bindK_some, sumK_inl, decide_eq_true (Prod.ext e h2)]
  · rw [if_neg e, bindK_some, sumK_inr, sumK_inl, decide_eq_false (fun h => e (by rw [h]))]

/-- The parts of the longer one, narrowed. -/
def meetF (q : Pat) : Nat → List ByteArray → Option (List ByteArray)
  | _, [] => some []
  | i, x :: l => (narrow x (ptAt q i)).bind fun c => (meetF q (i + 1) l).map fun r => c :: r
theorem meetF_get (q : Pat) : ∀ {l : List ByteArray} {i : Nat} {r : List ByteArray}, meetF q i l = some r → r.length = l.length ∧ ∀ j (h : j < l.length), narrow l[j] (ptAt q (i + j)) = r[j]?
  | [], i, r, h => by cases h; simp
  | x :: l, i, r, h => by
    simp only [meetF, Option.bind_eq_some_iff, Option.map_eq_some_iff] at h
    obtain ⟨c, hc, r', hr, rfl⟩ := h
    obtain ⟨h1, h2⟩ := meetF_get q hr
    refine ⟨by simp [h1], fun j hj => ?_⟩
    cases j with
    | zero => simpa using hc
    | succ j =>
      have := h2 j (by simpa using hj)
      rw [show i + 1 + j = i + (j + 1) by omega] at this
      simpa using this
theorem meetF_none (q : Pat) : ∀ {l : List ByteArray} {i : Nat}, meetF q i l = none → ∃ j, ∃ h : j < l.length, narrow l[j] (ptAt q (i + j)) = none
  | [], i, h => by cases h
  | x :: l, i, h => by
    cases hc : narrow x (ptAt q i) with
    | none => exact ⟨0, by simp, by simpa using hc⟩
    | some c =>
      simp only [meetF, hc, Option.bind_some, Option.map_eq_none_iff] at h
      obtain ⟨j, hj, h2⟩ := meetF_none q h
      refine ⟨j + 1, by simpa using hj, ?_⟩
      rw [show i + 1 + j = i + (j + 1) by omega] at h2
      simpa using h2
theorem meetP_meetF {p q : Pat} (ep : patErr p = 0) (eq : patErr q = 0) (hle : q.1.length ≤ p.1.length) (hf : fitsP p q) : meetP p q = (meetF q 0 p.1).map fun r => (r, p.2) := by
  have hp2 : p.2 = (p.2 && q.2) := by
    rcases Nat.lt_or_eq_of_le hle with h | h
    · rw [hf.2.1 h, Bool.and_true]
    · rw [← hf.2.2 h.symm, Bool.and_self]
  cases hm : meetF q 0 p.1 with
  | some r =>
    obtain ⟨h1, h2⟩ := meetF_get q hm
    rw [Option.map_some, meetP_iff]
    refine ⟨ep, eq, hf, by show r.length = _; omega, hp2, fun i => ?_⟩
    by_cases hi : i < p.1.length
    · have := h2 i hi
      rw [Nat.zero_add] at this
      rw [ptAt_in hi, this]
      unfold ptAt
      rw [List.getElem?_eq_getElem (show i < r.length by omega)]
      rfl
    · rw [ptAt_out (show p.1.length ≤ i by omega), ptAt_out (show q.1.length ≤ i by omega), narrow_self]
      unfold ptAt
      rw [List.getElem?_eq_none (show r.length ≤ i by omega)]
      rfl
  | none =>
    obtain ⟨j, hj, h⟩ := meetF_none q hm
    cases hmm : meetP p q with
    | none => rfl
    | some m =>
      have := (meetP_is hmm).at_ j
      rw [ptAt_in hj] at this
      rw [Nat.zero_add] at h
      rw [h] at this
      cases this

theorem ref03_Meet_loop (q z : Pat) (r : Bool) (ps : List ByteArray) (hl : ps.length ≤ 12) (hq : SmallP q) (eq : patErr q = 0) (hp : ∀ s ∈ ps, ByteArray.size s ≤ big) (pp : ∀ s ∈ ps, isPart (bts s) = true) :
    ∀ (k i fuel : Nat) (out : List ByteArray), i + k = ps.length → out.length ≤ i → k < fuel →
    ref03_Meet_L10 fuel (q, z, (q.1.length : Int), (out, r), ps, (ps.length : Int), (i : Int)) = some (match meetF q i (ps.drop i) with | some l => .inl (z, out ++ l, r) | none => .inr (.inl (([], false), false)))
  | 0, i, fuel + 1, out, h, _, _ => by
    have hd : ps.drop i = [] := List.drop_eq_nil_of_le (by omega)
    simp only [ref03_Meet_L10, ref03_Meet_L10_B, brK_ite]
    rw [if_neg (by omega), hd]
    simp [meetF]
  | k + 1, i, fuel + 1, out, h, ho, hf => by
    have hbig : big = 1048576 := rfl
    have hi : i < ps.length := by omega
    have hm := List.getElem_mem hi
    simp only [ref03_Meet_L10, ref03_Meet_L10_B, brK_ite]
    rw [if_pos (by omega), listAt_nat, List.getElem?_eq_getElem hi, List.drop_eq_getElem_cons hi]
    simp only [bindK_some, meetF]
    have hfit : fits (List.length out) 1 16 = true := fits_ok (by omega) (by omega) (by omega)
    by_cases hiq : q.1.length ≤ i
    · rw [if_pos (by omega), ptAt_out hiq, (narrow_star (pp _ hm)).1, Option.bind_some]
      simp only [List.length_cons, List.length_nil, Nat.zero_add, hfit, brK_true]
      rw [wrap_succ (by omega), ref03_Meet_loop q z r ps hl hq eq hp pp k (i + 1) fuel _ (by omega) (by simp; omega) (by omega)]
      cases meetF q (i + 1) (ps.drop (i + 1)) <;> simp
    · have hiq' : i < q.1.length := by omega
      have hqm := List.getElem_mem hiq'
      have sq := hq.part _ hqm
      have pq := shapeOK_parts (patErr_zero.1 eq).2.2.1 _ hqm
      rw [if_neg (by omega), listAt_nat, List.getElem?_eq_getElem hiq']
      simp only [bindK_some]
      rw [ref03_Inside_val _ _ (hp _ hm) sq (pp _ hm) pq, bindK_some, ptAt_in hiq']
      unfold narrow
      cases h1 : pInside ps[i] q.1[i] with
      | true =>
        rw [brK_true, if_pos rfl, Option.bind_some]
        simp only [List.length_cons, List.length_nil, Nat.zero_add, hfit, brK_true]
        rw [wrap_succ (by omega), ref03_Meet_loop q z r ps hl hq eq hp pp k (i + 1) fuel _ (by omega) (by simp; omega) (by omega)]
        cases meetF q (i + 1) (ps.drop (i + 1)) <;> simp
      | false =>
        rw [brK_false, ref03_Inside_val _ _ sq (hp _ hm) pq (pp _ hm), bindK_some]
        cases h2 : pInside q.1[i] ps[i] with
        | true =>
          rw [brK_true, if_neg (by simp), if_pos rfl, Option.bind_some]
          simp only [List.length_cons, List.length_nil, Nat.zero_add, hfit, brK_true]
          rw [wrap_succ (by omega), ref03_Meet_loop q z r ps hl hq eq hp pp k (i + 1) fuel _ (by omega) (by simp; omega) (by omega)]
          cases meetF q (i + 1) (ps.drop (i + 1)) <;> simp
        | false =>
          rw [brK_false, if_neg (by simp), if_neg (by simp)]
          rfl

theorem ref03_Meet_tail (p q : Pat) (hp : SmallP p) (hq : SmallP q) (ep : patErr p = 0) (eq : patErr q = 0) (hle : q.1.length ≤ p.1.length) (hf : fitsP p q) :
    (bindK (ref03_Meet_L10_f (q, (([] : List ByteArray), false), (q.1.length : Int), (([] : List ByteArray), p.2), p.1, (p.1.length : Int), 0)) fun o =>
      sumK o (fun y => some (y.2, true)) (fun z => sumK z (fun y => some y) (fun z => emptyK z))) = some (meetR (meetP p q)) := by
  have hbig : big = 1048576 := rfl
  obtain ⟨_, _, sp, lp⟩ := patErr_zero.1 ep
  unfold ref03_Meet_L10_f
  have loop := ref03_Meet_loop q (([] : List ByteArray), false) p.2 p.1 lp hq eq hp.part (shapeOK_parts sp) p.1.length 0
    (List.length q.1 + List.length ([] : List ByteArray) + Int.natAbs (q.1.length : Int) + List.length ([] : List ByteArray) + List.length p.1 + Int.natAbs (p.1.length : Int) + Int.natAbs 0 + 1000) [] (by omega) (by simp) (by omega)
  rw [show ((0 : Nat) : Int) = 0 from rfl, List.drop_zero] at loop
  rw [loop, meetP_meetF ep eq hle hf]
  cases meetF q 0 p.1 <;> simp [meetR]

theorem meetP_nofit {p q : Pat} (h : ¬ fitsP p q) : meetP p q = none := by
  cases hm : meetP p q with
  | none => rfl
  | some m => exact absurd (meetP_is hm).fit h

theorem ref03_Meet_val (p q : Pat) (hp : SmallP p) (hq : SmallP q) : ref03_Meet (p, q) = some (meetR (meetP p q)) := by
  have hbig : big = 1048576 := rfl
  unfold ref03_Meet
  simp only
  rw [ref03_Check_val p hp, ref03_Check_val q hq]
  simp only [bindK_some]
  by_cases ep : patErr p = 0
  case neg => rw [brK_ite, if_pos ep]; unfold meetP; rw [if_pos (Or.inl ep)]; rfl
  by_cases eq : patErr q = 0
  case neg => rw [brK_ite, if_neg (fun h => h ep), brK_ite, if_pos eq]; unfold meetP; rw [if_pos (Or.inr eq)]; rfl
  rw [brK_ite, if_neg (fun h => h ep), brK_ite, if_neg (fun h => h eq), brK_ite]
  by_cases hlt : p.1.length < q.1.length
  · rw [if_pos (by omega), brK_ite, if_pos (by omega)]
    cases hr : p.2 with
    | false =>
      rw [meetP_nofit (fun h => by have := h.1 hlt; rw [hr] at this; cases this)]
      rfl
    | true =>
      have hf : fitsP q p := ⟨fun h => by omega, fun _ => hr, fun h => by omega⟩
      have tail := ref03_Meet_tail q p hq hp eq ep (by omega) hf
      rw [Bool.not_true, brK_false, brK_ite, if_neg (by omega), meetP_comm p q]
      exact tail
  · rw [if_neg (by omega), brK_ite]
    by_cases hgt : q.1.length < p.1.length
    · rw [if_pos (by omega)]
      cases hr : q.2 with
      | false =>
        rw [meetP_nofit (fun h => by have := h.2.1 hgt; rw [hr] at this; cases this)]
        rfl
      | true =>
        have hf : fitsP p q := ⟨fun h => by omega, fun _ => hr, fun h => by omega⟩
        have tail := ref03_Meet_tail p q hp hq ep eq (by omega) hf
        rw [Bool.not_true, brK_false, brK_ite, if_neg (by omega)]
        exact tail
    · rw [if_neg (by omega), brK_ite, if_pos (by omega)]
      by_cases hr : p.2 = q.2
      · have hb : (!(p.2 == q.2)) = false := by rw [hr]; simp
        have hf : fitsP p q := ⟨fun h => by omega, fun h => by omega, fun _ => hr⟩
        have tail := ref03_Meet_tail p q hp hq ep eq (by omega) hf
        rw [hb, brK_false]
        exact tail
      · have hb : (!(p.2 == q.2)) = true := by cases h1 : p.2 <;> cases h2 : q.2 <;> simp [h1, h2] at hr ⊢
        rw [hb, brK_true, meetP_nofit (fun h => hr (h.2.2 (by omega)))]
        rfl

theorem ref03_Within_tail (p q : Pat) (hp : SmallP p) (hq : SmallP q) (ep : patErr p = 0) (eq : patErr q = 0) (hle : q.1.length ≤ p.1.length) (h1 : q.2 = false → p.2 = false ∧ p.1.length = q.1.length) (h2 : p.1.length = q.1.length → p.2 = q.2) :
    (bindK (ref03_Within_L7_f (p, q.1, (q.1.length : Int), 0)) fun o => sumK o (fun y => some true) (fun z => sumK z (fun y => some y) (fun z => emptyK z))) = some (withinP p q) := by
  have hbig : big = 1048576 := rfl
  have lq := (patErr_zero.1 eq).2.2.2
  have spp := shapeOK_parts (patErr_zero.1 ep).2.2.1
  have spq := shapeOK_parts (patErr_zero.1 eq).2.2.1
  unfold ref03_Within_L7_f
  have loop := range_ind (F := ref03_Within_L7) (B := ref03_Within_L7_B) (fun _ _ => rfl) (q.1.zip p.1) (fun (_ : Unit) i => (p, q.1, (q.1.length : Int), (i : Int))) (fun _ x => if pInside x.2 x.1 = true then .inl () else .inr (.inr (.inl false))) (fun _ => .inl ()) (fun _ _ => True)
    (fun rec a i h _ => by
      have hz : (q.1.zip p.1).length = q.1.length := by simp; omega
      rw [hz] at h
      have hpi : i < p.1.length := by omega
      simp only [ref03_Within_L7_B, brK_ite]
      rw [if_pos (by omega), listAt_nat, List.getElem?_eq_getElem h, bindK_some, listAt_nat, List.getElem?_eq_getElem hpi, bindK_some,
        ref03_Inside_val _ _ (hp.part _ (List.getElem_mem hpi)) (hq.part _ (List.getElem_mem h)) (spp _ (List.getElem_mem hpi)) (spq _ (List.getElem_mem h)), bindK_some, wrap_succ (by omega), List.getElem_zip]
      cases pInside p.1[i] q.1[i] <;> rfl)
    (fun _ _ _ _ _ _ => trivial)
    (fun rec a _ => by
      have hz : (q.1.zip p.1).length = q.1.length := by simp; omega
      simp only [ref03_Within_L7_B, brK_ite]
      rw [hz, if_neg (by omega)])
    (q.1.zip p.1).length 0 (List.length p.1 + List.length q.1 + Int.natAbs (q.1.length : Int) + Int.natAbs 0 + 1000) () (by omega) (by simp; omega) trivial
  rw [show ((0 : Nat) : Int) = 0 from rfl, List.drop_zero] at loop
  rw [loop]
  have key : ∀ (l m : List ByteArray), foldE (fun (_ : Unit) (x : ByteArray × ByteArray) => if pInside x.2 x.1 = true then (.inl () : Unit ⊕ (Unit ⊕ (Bool ⊕ Empty))) else .inr (.inr (.inl false))) (fun _ => .inl ()) () (l.zip m) = if ((l.zip m).all fun x => pInside x.2 x.1) = true then .inl () else .inr (.inl false) := by
    intro l
    induction l with
    | nil => intro m; rfl
    | cons a l ih =>
      intro m
      cases m with
      | nil => rfl
      | cons b m =>
        rw [List.zip_cons_cons, foldE, List.all_cons]
        cases pInside b a with
        | true => simp only [if_true, Bool.true_and]; exact ih m
        | false => rfl
  rw [key]
  have e : withinP p q = (q.1.zip p.1).all fun x => pInside x.2 x.1 := by
    rw [Bool.eq_iff_iff, withinP_iff, List.all_eq_true]
    constructor
    · intro h x hx
      obtain ⟨i, hi, rfl⟩ := List.mem_iff_getElem.1 hx
      have hz : i < q.1.length := by simp at hi; omega
      rw [List.getElem_zip]
      have := h.at_ i
      rwa [ptAt_in hz, ptAt_in (show i < p.1.length by omega)] at this
    · intro h
      refine ⟨ep, eq, hle, h1, h2, fun i => ?_⟩
      by_cases hi : i < q.1.length
      · rw [ptAt_in hi, ptAt_in (show i < p.1.length by omega)]
        have hz : i < (q.1.zip p.1).length := by simp; omega
        have := h _ (List.getElem_mem hz)
        rwa [List.getElem_zip] at this
      · rw [ptAt_out (show q.1.length ≤ i by omega)]
        exact pInside_star (ptAt_part ep i)
  rw [e]
  cases (q.1.zip p.1).all fun x => pInside x.2 x.1 <;> rfl

theorem withinP_false {p q : Pat} (h : ¬ WithinIs p q) : withinP p q = false := by
  cases hw : withinP p q with
  | false => rfl
  | true => exact absurd (withinP_iff.1 hw) h

theorem ref03_Within_val (p q : Pat) (hp : SmallP p) (hq : SmallP q) : ref03_Within (p, q) = some (withinP p q) := by
  unfold ref03_Within
  simp only
  rw [ref03_Check_val p hp, ref03_Check_val q hq]
  simp only [bindK_some]
  by_cases ep : patErr p = 0
  case neg => rw [brK_ite, if_pos ep, withinP_false (fun h => ep h.ep)]
  by_cases eq : patErr q = 0
  case neg => rw [brK_ite, if_neg (fun h => h ep), brK_ite, if_pos eq, withinP_false (fun h => eq h.eq)]
  rw [brK_ite, if_neg (fun h => h ep), brK_ite, if_neg (fun h => h eq), brK_ite]
  by_cases hlt : p.1.length < q.1.length
  · rw [if_pos (by omega), withinP_false (fun h => by have := h.len; omega)]
  rw [if_neg (by omega)]
  have tail := ref03_Within_tail p q hp hq ep eq (by omega)
  cases h2 : q.2 with
  | false =>
    rw [Bool.not_false, brK_true]
    cases h1 : p.2 with
    | true => rw [brK_true, withinP_false (fun h => by have := (h.exact' h2).1; rw [h1] at this; cases this)]
    | false =>
      rw [brK_false, brK_ite]
      by_cases hgt : q.1.length < p.1.length
      · rw [if_pos (by omega), withinP_false (fun h => by have := (h.exact' h2).2; omega)]
      · rw [if_neg (by omega), brK_false]
        exact tail (fun _ => ⟨h1, by omega⟩) (fun _ => by rw [h1, h2])
  | true =>
    rw [Bool.not_true, brK_false, brK_true, brK_ite]
    by_cases he : p.1.length = q.1.length
    · rw [if_pos (by omega)]
      cases h1 : p.2 with
      | false => rw [Bool.not_false, brK_true, withinP_false (fun h => by have := h.rest he; rw [h1, h2] at this; cases this)]
      | true =>
        rw [Bool.not_true, brK_false]
        exact tail (fun h => by rw [h2] at h; cases h) (fun _ => by rw [h1, h2])
    · rw [if_neg (by omega)]
      exact tail (fun h => by rw [h2] at h; cases h) (fun h => absurd h he)
end Go.Proofs.Ytcmfkmhmehhkpaa
