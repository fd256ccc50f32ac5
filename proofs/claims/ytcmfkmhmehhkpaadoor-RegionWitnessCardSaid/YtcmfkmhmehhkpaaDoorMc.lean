/- A part of the proof of a law of this seat (rD_R3, rD_R4, rD_R5). -/
import Derived.Test.YtcmfkmhmehhkpaaDoorMb
import Derived.Test.YtcmfkmhmehhkpaaDoorAd
set_option linter.unusedSimpArgs false
set_option linter.unusedVariables false
set_option maxRecDepth 100000
namespace Go.Proofs.YtcmfkmhmehhkpaaDoor
open Go Go.Ai
/-! ### What the statements look at -/
def cap44 : Nat := 17592186044416
structure WideP (p : Pat) : Prop where
  len : p.1.length ≤ cap44
  part : ∀ s ∈ p.1, ByteArray.size s ≤ 140737488355328
structure WideG (g : Reg) : Prop where
  base : WideP g.1
  hole : ∀ h ∈ g.2, WideP h
  len : g.2.length ≤ cap44
structure TinyG (g : Reg) : Prop where
  base : g.1.1.length ≤ 20
  hole : ∀ h ∈ g.2, h.1.length ≤ 400
  len : g.2.length ≤ 70
  basePart : ∀ s ∈ g.1.1, ByteArray.size s ≤ 60
  holePart : ∀ h ∈ g.2, ∀ s ∈ h.1, ByteArray.size s ≤ 60
  total : g.1.1.length + (g.2.map fun h => h.1.length).sum ≤ 400

theorem TinyG.small {g : Reg} (h : TinyG g) : SmallG g := by
  have hbig : big = 1048576 := rfl
  have h1 := h.base
  have h2 := h.len
  exact ⟨⟨by omega, fun s hs => by have := h.basePart s hs; omega⟩, fun x hx => ⟨by have := h.hole x hx; omega, fun s hs => by have := h.holePart x hx s hs; omega⟩, by omega⟩

theorem wideP_of {p : Pat} (h : Ty.wOK 140737488351232 tyPat p) : WideP p := by
  obtain ⟨⟨h1, h2⟩, _⟩ := h
  refine ⟨?_, fun s hs => ?_⟩
  · have : List.length p.1 * 8 ≤ 140737488351232 := h1
    show List.length p.1 ≤ 17592186044416
    omega
  · have : ByteArray.size s ≤ 140737488351232 := h2 s hs
    omega
abbrev tyReg : Ty := .prod tyPat (.list tyPat)
theorem wideG_of {g : Reg} (h : Ty.wOK 140737488351232 tyReg g) : WideG g := by
  obtain ⟨h1, h2, h3⟩ := h
  refine ⟨wideP_of h1, fun x hx => wideP_of (h3 x hx), ?_⟩
  have : List.length g.2 * 8 ≤ 140737488351232 := h2
  show List.length g.2 ≤ 17592186044416
  omega

def sumL (hs : List Pat) : Nat := (hs.map fun h => h.1.length).sum
theorem fold_wrap : ∀ (hs : List Pat) (n : Nat), n + sumL hs ≤ 4611686018427387904 → hs.foldl (fun (m : Int) h => IntKind.wrap .i64 (m + (h.1.length : Int))) (n : Int) = ((n + sumL hs : Nat) : Int)
  | [], n, _ => by simp [sumL]
  | h :: hs, n, hb => by
    have e : sumL (h :: hs) = h.1.length + sumL hs := by simp [sumL]
    rw [e] at hb
    rw [List.foldl_cons, wrap_id (by omega) (by omega), show ((n : Int) + (h.1.length : Int)) = ((n + h.1.length : Nat) : Int) by omega, fold_wrap hs _ (by omega), e]
    congr 1
    omega

def shortB (p : Pat) : Bool := p.1.all fun s => decide (s.size ≤ 60)
theorem small_L7_val (g : Reg) (m : Int) (hs : List Pat) (x1 x2 : Int) (p : Pat) (hp : WideP p) : law05_small_L7_f ((g.1.1, g.1.2, g.2), m, hs, x1, x2, p.1, (p.1.length : Int), 0) = some (if shortB p = true then .inl ((g.1.1, g.1.2, g.2), m, hs, x1, x2) else .inr (.inl false)) := by
  have hl := hp.len
  have hc : cap44 = 17592186044416 := rfl
  unfold law05_small_L7_f shortB
  have := all_loop (F := law05_small_L7) (B := law05_small_L7_B) (fun _ _ => rfl) p.1 (fun i => ((g.1.1, g.1.2, g.2), m, hs, x1, x2, p.1, (p.1.length : Int), (i : Int))) (fun s => decide (s.size ≤ 60)) (.inr (.inl false)) (.inl ((g.1.1, g.1.2, g.2), m, hs, x1, x2))
    (fun rec i h => by
      simp only [law05_small_L7_B, brK_ite]
      rw [if_pos (by omega), listAt_nat, List.getElem?_eq_getElem h]
      simp only [bindK_some]
      rw [wrap_succ (by omega)]
      by_cases h6 : p.1[i].size ≤ 60
      · rw [if_neg (by omega), decide_eq_true h6, if_pos rfl]
      · rw [if_pos (by omega), decide_eq_false h6, if_neg (by simp)])
    (fun rec => by
      simp only [law05_small_L7_B, brK_ite]
      rw [if_neg (by omega)]) p.1.length 0 (List.length g.1.1 + List.length g.2 + Int.natAbs m + List.length hs + Int.natAbs x1 + Int.natAbs x2 + List.length p.1 + Int.natAbs (p.1.length : Int) + Int.natAbs 0 + 1000) (by omega) (by omega)
  rw [show ((0 : Nat) : Int) = 0 from rfl, List.drop_zero] at this
  exact this

theorem small_L3_loop (g : Reg) (hs : List Pat) (hl : hs.length ≤ cap44) (hw : ∀ h ∈ hs, WideP h) : ∀ (k i fuel : Nat) (m : Int), i + k = hs.length → k < fuel →
    law05_small_L3 fuel ((g.1.1, g.1.2, g.2), m, hs, (hs.length : Int), (i : Int)) = some (if (hs.drop i).all shortB = true then .inl ((g.1.1, g.1.2, g.2), (hs.drop i).foldl (fun (m : Int) h => IntKind.wrap .i64 (m + (h.1.length : Int))) m) else .inr (.inl false))
  | 0, i, fuel + 1, m, h, _ => by
    have hd : hs.drop i = [] := List.drop_eq_nil_of_le (by omega)
    simp only [law05_small_L3, law05_small_L3_B, brK_ite]
    rw [if_neg (by omega), hd]
    rfl
  | k + 1, i, fuel + 1, m, h, hf => by
    have hc : cap44 = 17592186044416 := rfl
    have hi : i < hs.length := by omega
    simp only [law05_small_L3, law05_small_L3_B, brK_ite]
    rw [if_pos (by omega), listAt_nat, List.getElem?_eq_getElem hi]
    simp only [bindK_some]
    rw [small_L7_val g _ hs _ _ hs[i] (hw _ (List.getElem_mem hi)), List.drop_eq_getElem_cons hi, List.all_cons]
    cases shortB hs[i] with
    | false => rfl
    | true =>
      simp only [if_true, bindK_some, sumK_inl, Bool.true_and]
      rw [wrap_succ (by omega), small_L3_loop g hs hl hw k (i + 1) fuel _ (by omega) (by omega)]
      rfl

theorem shortB_parts {p : Pat} (h : shortB p = true) : ∀ s ∈ p.1, ByteArray.size s ≤ 60 := fun s hs => by
  have := List.all_eq_true.1 h s hs
  simpa using this

theorem sumL_mem {hs : List Pat} {h : Pat} (hh : h ∈ hs) : h.1.length ≤ sumL hs := sum_mem (fun h : Pat => h.1.length) hh
theorem sumL_le {hs : List Pat} {b : Nat} (h : ∀ x ∈ hs, x.1.length ≤ b) : sumL hs ≤ hs.length * b := by
  induction hs with
  | nil => simp [sumL]
  | cons x hs ih =>
    have h1 := h x (by simp)
    have h2 := ih fun y hy => h y (by simp [hy])
    have e : sumL (x :: hs) = x.1.length + sumL hs := by simp [sumL]
    rw [e, List.length_cons, Nat.succ_mul]
    omega

theorem small_val (g : Reg) (hg : WideG g) : ∃ b, law05_small g = some b ∧ (b = true → TinyG g) := by
  have hc : cap44 = 17592186044416 := rfl
  have hl := hg.len
  have hb := hg.base.len
  unfold law05_small law05_small_L3_f
  have h3 := small_L3_loop g g.2 hg.len hg.hole g.2.length 0 (List.length g.1.1 + List.length g.2 + Int.natAbs (g.1.1.length : Int) + List.length g.2 + Int.natAbs (g.2.length : Int) + Int.natAbs 0 + 1000) (g.1.1.length : Int) (by omega) (by omega)
  rw [show ((0 : Nat) : Int) = 0 from rfl, List.drop_zero] at h3
  rw [h3]
  by_cases ha : g.2.all shortB = true
  case neg =>
    rw [if_neg ha]
    exact ⟨false, rfl, fun h => by cases h⟩
  rw [if_pos ha]
  simp only [bindK_some, sumK_inl]
  generalize hfo : g.2.foldl (fun (m : Int) h => IntKind.wrap .i64 (m + (h.1.length : Int))) (g.1.1.length : Int) = nf
  have h14 := all_loop (F := law05_small_L14) (B := law05_small_L14_B) (fun _ _ => rfl) g.1.1 (fun i => ((g.1.1, g.1.2, g.2), nf, g.1.1, (g.1.1.length : Int), (i : Int))) (fun s => decide (s.size ≤ 60)) (.inr (.inl false)) (.inl ((g.1.1, g.1.2, g.2), nf))
    (fun rec i h => by
      simp only [law05_small_L14_B, brK_ite]
      rw [if_pos (by omega), listAt_nat, List.getElem?_eq_getElem h]
      simp only [bindK_some]
      rw [wrap_succ (by omega)]
      by_cases h6 : g.1.1[i].size ≤ 60
      · rw [if_neg (by omega), decide_eq_true h6, if_pos rfl]
      · rw [if_pos (by omega), decide_eq_false h6, if_neg (by simp)])
    (fun rec => by
      simp only [law05_small_L14_B, brK_ite]
      rw [if_neg (by omega)]) g.1.1.length 0 (List.length g.1.1 + List.length g.2 + Int.natAbs nf + List.length g.1.1 + Int.natAbs (g.1.1.length : Int) + Int.natAbs 0 + 1000) (by omega) (by omega)
  rw [show ((0 : Nat) : Int) = 0 from rfl, List.drop_zero] at h14
  unfold law05_small_L14_f
  rw [h14]
  by_cases hsb : (g.1.1.all fun s => decide (s.size ≤ 60)) = true
  case neg =>
    rw [if_neg hsb]
    exact ⟨false, rfl, fun h => by cases h⟩
  rw [if_pos hsb]
  simp only [bindK_some, sumK_inl, brK_ite]
  by_cases h400 : nf ≤ 400
  case neg => rw [if_neg h400]; exact ⟨false, rfl, fun h => by cases h⟩
  rw [if_pos h400]
  by_cases h70 : (g.2.length : Int) ≤ 70
  case neg => rw [if_neg h70]; exact ⟨false, rfl, fun h => by cases h⟩
  rw [if_pos h70]
  refine ⟨_, rfl, fun h20 => ?_⟩
  have h20 : (g.1.1.length : Int) ≤ 20 := of_decide_eq_true h20
  have hsum := sumL_le (hs := g.2) (b := cap44) fun x hx => (hg.hole x hx).len
  have hmul : g.2.length * cap44 ≤ 70 * cap44 := Nat.mul_le_mul_right _ (by omega)
  have hfold := fold_wrap g.2 g.1.1.length (by omega)
  rw [hfold] at hfo
  refine ⟨by omega, fun x hx => ?_, by omega, fun s hs => ?_, fun x hx => shortB_parts (List.all_eq_true.1 ha x hx), ?_⟩
  · have := sumL_mem hx
    omega
  · have := List.all_eq_true.1 hsb s hs
    simpa using this
  · show g.1.1.length + sumL g.2 ≤ 400
    omega

theorem awake_val : law05_awake () = some true := by kernel_rfl

/-! ### Paths of regions -/
def hasR (g : Reg) (s : ByteArray) : Bool := pmS g.1 s && !g.2.any fun h => pmS h s
theorem hasR_some {g : Reg} {s : ByteArray} {ws : List ByteArray} (h : pathWords s = some ws) : hasR g s = hasW g ws := by
  unfold hasR hasW
  rw [pmS_some h]
  congr 2
  exact any_same fun x _ => pmS_some h
theorem hasR_none {g : Reg} {s : ByteArray} (h : pathWords s = none) : hasR g s = false := by
  unfold hasR
  rw [pmS_none h]
  rfl

theorem region_Has_val (g : Reg) (s : ByteArray) (sg : SmallG g) (hs : s.size ≤ huge) : region_Has (g, s) = some (decide (regErr g = 0) && hasR g s) := by
  have hbig : big = 1048576 := rfl
  have hl := sg.len
  unfold region_Has
  simp only
  rw [region_Check_val g sg, pattern_Match_val _ _ sg.base hs]
  simp only [bindK_some, brK_ite]
  by_cases h0 : regErr g = 0
  case neg => rw [if_pos h0, decide_eq_false h0]; rfl
  rw [if_neg (fun h => h h0), decide_eq_true h0, Bool.true_and]
  unfold slices_ContainsFunc__region_Has_1 slices_IndexFunc__region_Has_1 slices_IndexFunc__region_Has_1_L2_f
  have := idx_loop (F := slices_IndexFunc__region_Has_1_L2) (B := slices_IndexFunc__region_Has_1_L2_B) (fun _ _ => rfl) g.2 (fun i => (g.2, s, (g.2.length : Int), (i : Int))) (fun h => pmS h s) (fun i => .inr (.inl (i : Int))) (.inl ())
    (fun rec i h => by
      simp only [slices_IndexFunc__region_Has_1_L2_B, brK_ite, region_Has_1]
      rw [if_pos (by omega), listAt_nat, List.getElem?_eq_getElem h]
      simp only [bindK_some, pattern_Match_val _ _ (sg.hole _ (List.getElem_mem h)) hs]
      rw [wrap_succ (by omega)]
      show brK (pmS g.2[i] s) _ _ = _
      cases pmS g.2[i] s <;> rfl)
    (fun rec => by
      simp only [slices_IndexFunc__region_Has_1_L2_B, brK_ite]
      rw [if_neg (by omega)]) g.2.length 0 (List.length g.2 + ByteArray.size s + Int.natAbs (g.2.length : Int) + Int.natAbs 0 + 1000) (by omega) (by omega)
  rw [show ((0 : Nat) : Int) = 0 from rfl, List.drop_zero] at this
  show brK (pmS g.1 s) _ _ = _
  unfold hasR
  cases pmS g.1 s with
  | false => rfl
  | true =>
    rw [brK_true, Bool.true_and]
    rcases this with ⟨j, h1, h2, _⟩ | ⟨h1, h2⟩
    · rw [h1, h2]
      simp only [bindK_some, sumK_inr, sumK_inl]
      rw [decide_eq_true (by omega)]
    · rw [h1, h2]
      rfl

theorem ref05_Check_val (g : Reg) (sg : SmallG g) : ref05_Check g = some (regErr g) := by
  have hbig : big = 1048576 := rfl
  have hl := sg.len
  unfold ref05_Check regErr
  rw [ref03_Check_val _ sg.base]
  simp only [bindK_some, brK_ite]
  by_cases h0 : patErr g.1 = 0
  case neg => rw [if_pos h0, if_pos h0]
  rw [if_neg (fun h => h h0), if_neg (fun h => h h0)]
  unfold ref05_Check_L4_f
  have := all_loop (F := ref05_Check_L4) (B := ref05_Check_L4_B) (fun _ _ => rfl) g.2 (fun i => ((g.1.1, g.1.2, g.2), g.2, (g.2.length : Int), (i : Int))) (fun h => decide (patErr h = 0)) (.inr (.inl 51)) (.inl (g.1.1, g.1.2, g.2))
    (fun rec i h => by
      simp only [ref05_Check_L4_B, brK_ite]
      rw [if_pos (by omega), listAt_nat, List.getElem?_eq_getElem h]
      simp only [bindK_some, ref03_Check_val _ (sg.hole _ (List.getElem_mem h))]
      rw [wrap_succ (by omega)]
      by_cases e : patErr g.2[i] = 0 <;> simp [e])
    (fun rec => by
      simp only [ref05_Check_L4_B, brK_ite]
      rw [if_neg (by omega)]) g.2.length 0 (List.length g.1.1 + List.length g.2 + List.length g.2 + Int.natAbs (g.2.length : Int) + Int.natAbs 0 + 1000) (by omega) (by omega)
  rw [show ((0 : Nat) : Int) = 0 from rfl, List.drop_zero] at this
  rw [this]
  by_cases ha : g.2.all (fun h => decide (patErr h = 0)) = true
  · have hn : ¬ (g.2.any fun h => decide (patErr h ≠ 0)) = true := by
      rw [List.any_eq_true]
      rintro ⟨x, hx, hx'⟩
      have := List.all_eq_true.1 ha x hx
      simp at this hx'
      exact hx' this
    rw [if_pos ha, if_neg hn]
    simp only [bindK_some, sumK_inl]
    by_cases h64 : 64 < g.2.length
    · rw [if_pos (by omega), if_pos h64]
    · rw [if_neg (by omega), if_neg h64]
  · have hn : (g.2.any fun h => decide (patErr h ≠ 0)) = true := by
      apply Classical.byContradiction
      intro hc
      apply ha
      rw [List.all_eq_true]
      intro x hx
      apply Classical.byContradiction
      intro hx'
      exact hc (List.any_eq_true.2 ⟨x, hx, by simpa using hx'⟩)
    rw [if_neg ha, if_pos hn]
    rfl

theorem ref05_Has_val (g : Reg) (s : ByteArray) (sg : SmallG g) (hs : s.size ≤ huge) : ref05_Has (g, s) = some (hasR g s) := by
  have hbig : big = 1048576 := rfl
  have hl := sg.len
  unfold ref05_Has hasR
  simp only
  rw [ref03_Match_val _ _ sg.base hs]
  simp only [bindK_some]
  show brK (!pmS g.1 s) _ _ = _
  unfold ref05_Has_L5_f
  have := all_loop (F := ref05_Has_L5) (B := ref05_Has_L5_B) (fun _ _ => rfl) g.2 (fun i => (s, g.2, (g.2.length : Int), (i : Int))) (fun h => !pmS h s) (.inr (.inl false)) (.inl ())
    (fun rec i h => by
      simp only [ref05_Has_L5_B, brK_ite]
      rw [if_pos (by omega), listAt_nat, List.getElem?_eq_getElem h]
      simp only [bindK_some, ref03_Match_val _ _ (sg.hole _ (List.getElem_mem h)) hs]
      rw [wrap_succ (by omega)]
      show brK (pmS g.2[i] s) _ _ = _
      cases pmS g.2[i] s <;> rfl)
    (fun rec => by
      simp only [ref05_Has_L5_B, brK_ite]
      rw [if_neg (by omega)]) g.2.length 0 (ByteArray.size s + List.length g.2 + Int.natAbs (g.2.length : Int) + Int.natAbs 0 + 1000) (by omega) (by omega)
  rw [show ((0 : Nat) : Int) = 0 from rfl, List.drop_zero] at this
  rw [this]
  cases pmS g.1 s with
  | false => rfl
  | true =>
    simp only [Bool.not_true, brK_false, Bool.true_and]
    rw [List.not_any_eq_all_not]
    cases g.2.all (fun h => !pmS h s) <;> rfl

/-! ### Two statements -/
theorem RegionChecks_val (g : Reg) (s : ByteArray) (hg : WideG g) (hs : s.size ≤ 140737488355328) : law05_RegionChecks (g, s) = some true := by
  have hh : huge = 1073741824 := rfl
  obtain ⟨b, hb, ht⟩ := small_val g hg
  unfold law05_RegionChecks
  simp only
  rw [hb, awake_val]
  simp only [bindK_some, brK_ite]
  cases b with
  | false => rfl
  | true =>
    simp only [Bool.not_true, brK_false]
    split
    · rfl
    rename_i h300
    have sg := (ht rfl).small
    rw [ref05_Check_val g sg, region_Check_val g sg, region_Has_val g s sg (by omega), ref05_Has_val g s sg (by omega)]
    simp only [bindK_some, if_true]
    by_cases h0 : regErr g = 0
    · rw [if_pos h0, decide_eq_true h0]
      simp
    · rw [if_neg h0, decide_eq_false h0]
      simp

theorem leastG_path {g : Reg} {l : List ByteArray} (eg : regErr g = 0) (h : leastG g = some l) : pathWords (pathText l) = some l ∧ hasW g l = true := by
  have h2 := leastG_length eg h
  rcases leastG_spec eg with ⟨_, h3⟩ | ⟨n, r, h3, h4, _, h5, h6, h7⟩
  · rw [h3] at h; cases h
  · rw [h4] at h
    cases h
    exact ⟨pathWords_text h2 h6, h7⟩

theorem ref05_Order_loop (a b : List ByteArray) (ha : ∀ w ∈ a, ByteArray.size w ≤ huge) (hb : ∀ w ∈ b, ByteArray.size w ≤ huge) (hab : a.length = b.length) (hl : a.length ≤ huge) : ∀ (k i fuel : Nat), i + k = a.length → k < fuel →
    (ref05_Order_L6 fuel (a, b, (a.length : Int), (i : Int)) = some (.inl ()) ∧ ordW (a.drop i) (b.drop i) = 0) ∨ ref05_Order_L6 fuel (a, b, (a.length : Int), (i : Int)) = some (.inr (.inl (ordW (a.drop i) (b.drop i))))
  | 0, i, fuel + 1, h, _ => by
    left
    simp only [ref05_Order_L6, ref05_Order_L6_B, brK_ite]
    rw [if_neg (by omega), List.drop_eq_nil_of_le (by omega)]
    exact ⟨rfl, rfl⟩
  | k + 1, i, fuel + 1, h, hf => by
    have hh : huge = 1073741824 := rfl
    have hi : i < a.length := by omega
    have hi' : i < b.length := by omega
    have s1 := ha _ (List.getElem_mem hi)
    have s2 := hb _ (List.getElem_mem hi')
    simp only [ref05_Order_L6, ref05_Order_L6_B, brK_ite]
    rw [if_pos (by omega), listAt_nat, List.getElem?_eq_getElem hi, listAt_nat, List.getElem?_eq_getElem hi', List.drop_eq_getElem_cons hi, List.drop_eq_getElem_cons hi']
    simp only [bindK_some, ordW]
    by_cases hsz : a[i].size = b[i].size
    case neg =>
      right
      rw [if_pos (by omega), if_pos hsz, wrap_id (by omega) (by omega)]
    rw [if_neg (by omega), if_neg (fun h => h hsz)]
    have hcmp : strings_Compare (a[i], b[i]) = some (cmpB a[i] b[i]) := rfl
    rw [hcmp, bindK_some, wrap_succ (by omega)]
    by_cases hz : cmpB a[i] b[i] = 0
    case neg =>
      right
      rw [if_pos hz, if_pos hz]
    rw [if_neg (fun h => h hz), if_neg (fun h => h hz)]
    exact ref05_Order_loop a b ha hb hab hl k (i + 1) fuel (by omega) (by omega)

theorem ref05_Order_val (s t : ByteArray) (a b : List ByteArray) (hs : s.size ≤ huge) (ht : t.size ≤ huge) (ha : pathWords s = some a) (hb : pathWords t = some b) : ref05_Order (s, t) = some (orderW a b) := by
  have hh : huge = 1073741824 := rfl
  obtain ⟨a1, a2, a3⟩ := pathWords_small ha
  obtain ⟨b1, b2, b3⟩ := pathWords_small hb
  unfold ref05_Order orderW
  simp only
  rw [ref02_Path_val s hs, ref02_Path_val t ht, ha, hb]
  simp only [bindK_some, brK_ite]
  by_cases hab : a.length = b.length
  case neg => rw [if_pos (by omega), if_pos hab, wrap_id (by omega) (by omega)]
  rw [if_neg (by omega), if_neg (fun h => h hab)]
  unfold ref05_Order_L6_f
  have := ref05_Order_loop a b (fun w hw => by have := a3 w hw; omega) (fun w hw => by have := b3 w hw; omega) hab (by omega) a.length 0 (List.length a + List.length b + Int.natAbs (a.length : Int) + Int.natAbs 0 + 1000) (by omega) (by omega)
  rw [show ((0 : Nat) : Int) = 0 from rfl, List.drop_zero, List.drop_zero] at this
  rcases this with ⟨h1, h2⟩ | h1
  · rw [h1, h2]; rfl
  · rw [h1]; rfl

theorem RegionWitness_val (g : Reg) (s : ByteArray) (hg : WideG g) (hs : s.size ≤ 140737488355328) : law05_RegionWitness (g, s) = some true := by
  have hh : huge = 1073741824 := rfl
  have hbig : big = 1048576 := rfl
  obtain ⟨b, hb, ht⟩ := small_val g hg
  unfold law05_RegionWitness
  simp only
  rw [hb, awake_val]
  simp only [bindK_some, brK_ite]
  cases b with
  | false => rfl
  | true =>
    simp only [Bool.not_true, brK_false]
    split
    · rfl
    rename_i h300
    have sg := (ht rfl).small
    rw [region_Check_val g sg]
    simp only [bindK_some]
    by_cases h0 : regErr g = 0
    case neg => rw [if_pos h0]
    rw [if_neg (fun h => h h0), region_Empty_val g sg, region_Least_val g sg, if_pos h0, if_pos h0]
    simp only [bindK_some, ne_eq, not_true_eq_false, if_false]
    rw [region_Has_val g s sg (by omega), decide_eq_true h0]
    unfold leastR
    rcases leastG_spec h0 with ⟨h1, h2⟩ | ⟨n, r, h1, h2, h3, h4, h5, h6⟩
    · rw [h1, h2]
      have hp0 : pathWords ⟨#[]⟩ = none := by decide
      have := region_Has_val g ⟨#[]⟩ sg (by show 0 ≤ huge; omega)
      simp only [this, hasR_none hp0]
      have hno : hasR g s = false := by
        cases hp : pathWords s with
        | none => exact hasR_none hp
        | some ws =>
          rw [hasR_some hp]
          cases hw : hasW g ws with
          | false => rfl
          | true =>
            obtain ⟨l, hl, _⟩ := leastG_min h0 hw (pathWords_some hp).2.1
            rw [h2] at hl
            cases hl
      rw [hno]
      simp
    · obtain ⟨p1, p2⟩ := leastG_path h0 h2
      obtain ⟨z1, z2⟩ := leastG_sizes sg h0 h2
      have hsz := size_pathText_le r
      rw [h1, h2]
      have := region_Has_val g (pathText r) sg (by omega)
      simp only [this, hasR_some p1, p2]
      cases hp : pathWords s with
      | none =>
        rw [hasR_none hp]
        simp [h0]
      | some ws =>
        rw [hasR_some hp]
        cases hw : hasW g ws with
        | false => simp [h0]
        | true =>
          obtain ⟨l, hl, ho⟩ := leastG_min h0 hw (pathWords_some hp).2.1
          rw [h2] at hl
          cases hl
          rw [ref05_Order_val _ _ _ _ (by omega) (by omega) p1 hp]
          simp [h0, ho]

/-! ### A single path -/
theorem words_lit {ws : List ByteArray} (hc : ws.all compB = true) (i : Nat) (hi : i < ws.length) : compB (ptAt (ws, false) i) = true := by
  unfold ptAt
  rw [List.getElem?_eq_getElem hi]
  exact List.all_eq_true.1 hc _ (List.getElem_mem hi)

theorem point_covers {h : Pat} {ws : List ByteArray} (eh : patErr h = 0) (hc : ws.all compB = true) : covers h (ws, false) ws.length 0 = pm h ws := by
  have e := pm_at eh hc
  unfold covers
  cases hl : lenOK h ws.length with
  | false =>
    cases hp : pm h ws with
    | false => rfl
    | true => rw [(e.1 hp).1] at hl; cases hl
  | true =>
    rw [Bool.true_and]
    cases hp : pm h ws with
    | true =>
      refine covA_true.2 fun j _ hj => ?_
      have hj' : j < ws.length := by omega
      rw [pInside_word (words_lit hc j hj')]
      unfold ptAt
      rw [List.getElem?_eq_getElem hj']
      exact (e.1 hp).2 j _ (List.getElem?_eq_getElem hj')
    | false =>
      cases hcov : covA h (ws, false) 0 (ws.length - 0) with
      | false => rfl
      | true =>
        rw [e.2 ⟨hl, fun i w hw => by
          have hi := (List.getElem?_eq_some_iff.1 hw).1
          have := covA_true.1 hcov i (Nat.zero_le _) (by omega)
          rw [pInside_word (words_lit hc i hi)] at this
          unfold ptAt at this
          rw [hw] at this
          exact this⟩] at hp
        cases hp

theorem point_full {ws : List ByteArray} {hs : List Pat} (hc : ws.all compB = true) (eh : ∀ h ∈ hs, patErr h = 0) : fullB ((ws, false), hs) ws.length = hs.any fun h => pm h ws :=
  any_same fun h hh => point_covers (eh h hh) hc

theorem point_least {ws : List ByteArray} {hs : List Pat} (eg : regErr ((ws, false), hs) = 0) (hc : ws.all compB = true) : leastG ((ws, false), hs) = if (hs.any fun h => pm h ws) = true then none else some ws := by
  obtain ⟨e1, e2, e3⟩ := regErr_zero.1 eg
  have hf := point_full hc e2
  rcases leastG_spec eg with ⟨h1, h2⟩ | ⟨n, r, h1, h2, h3, h4, h5, h6⟩
  · rw [h2]
    cases hp : hs.any (fun h => pm h ws) with
    | true => rfl
    | false =>
      obtain ⟨n, hn, _⟩ := lengthG_least (g := ((ws, false), hs)) (N := ws.length) (by simp [lenOK]) (by rw [hf, hp])
      rw [h1] at hn
      cases hn
  · rw [h2]
    have hok := (lengthG_some h1).1
    have hnl : n = ws.length := by
      unfold lenOK at hok
      simpa using hok
    subst hnl
    have hp := (lengthG_some h1).2
    rw [hf] at hp
    rw [hp]
    have hb := h6
    unfold hasW at hb
    rw [Bool.and_eq_true] at hb
    have hm := (pm_at e1 h5).1 hb.1
    have : r = ws := by
      apply List.ext_getElem h4
      intro i hi hi'
      have h7 := hm.2 i r[i] (List.getElem?_eq_getElem hi)
      unfold ptAt at h7
      rw [List.getElem?_eq_getElem hi'] at h7
      have hl : star? (bts ws[i]) = none := star_comp (List.all_eq_true.1 hc _ (List.getElem_mem hi'))
      rw [show ((some ws[i]).getD starB) = ws[i] from rfl, mt_lit hl, decide_eq_true_eq] at h7
      exact h7
    rw [this]
    rfl

theorem RegionPoint_loop (g : Reg) (s : ByteArray) (hs : List Pat) (sh : ∀ h ∈ hs, SmallP h) (hl : hs.length ≤ big) (hss : s.size ≤ huge) : ∀ (k i fuel : Nat) (b : Bool), i + k = hs.length → k < fuel →
    law05_RegionPoint_L7 fuel (s, (g.1.1, g.1.2, g.2), b, hs, (hs.length : Int), (i : Int)) = some (.inl (s, (g.1.1, g.1.2, g.2), (b || (hs.drop i).any fun h => pmS h s)))
  | 0, i, fuel + 1, b, h, _ => by
    have hd : hs.drop i = [] := List.drop_eq_nil_of_le (by omega)
    simp only [law05_RegionPoint_L7, law05_RegionPoint_L7_B, brK_ite]
    rw [if_neg (by omega), hd]
    simp
  | k + 1, i, fuel + 1, b, h, hf => by
    have hbig : big = 1048576 := rfl
    have hi : i < hs.length := by omega
    simp only [law05_RegionPoint_L7, law05_RegionPoint_L7_B, brK_ite]
    rw [if_pos (by omega), listAt_nat, List.getElem?_eq_getElem hi]
    simp only [bindK_some, ref03_Match_val _ _ (sh _ (List.getElem_mem hi)) hss]
    rw [wrap_succ (by omega), RegionPoint_loop g s hs sh hl hss k (i + 1) fuel true (by omega) (by omega), RegionPoint_loop g s hs sh hl hss k (i + 1) fuel _ (by omega) (by omega), List.drop_eq_getElem_cons hi, List.any_cons]
    have e : (matchR hs[i] s).2 = pmS hs[i] s := rfl
    rw [e]
    cases b <;> simp

theorem RegionPoint_val (s : ByteArray) (hs : List Pat) (hss : s.size ≤ huge) (hw : ∀ h ∈ hs, WideP h) (hl : hs.length ≤ cap44) : law05_RegionPoint (s, hs) = some true := by
  have hh : huge = 1073741824 := rfl
  have hbig : big = 1048576 := rfl
  unfold law05_RegionPoint
  simp only
  rw [ref02_Path_val s hss, awake_val]
  simp only [bindK_some]
  cases hp : pathWords s with
  | none => rfl
  | some ws =>
    simp only [Bool.not_true, brK_false, brK_ite]
    split
    · rfl
    obtain ⟨w1, w2, w3⟩ := pathWords_small hp
    obtain ⟨p1, hc, p3⟩ := pathWords_some hp
    have hc44 : cap44 = 17592186044416 := rfl
    obtain ⟨b, hb, ht⟩ := small_val ((ws, false), hs) ⟨⟨by show ws.length ≤ cap44; omega, fun x hx => by have := w3 x hx; omega⟩, hw, hl⟩
    rw [hb]
    simp only [bindK_some]
    cases b with
    | false => rfl
    | true =>
      have sg := (ht rfl).small
      simp only [Bool.not_true, brK_false]
      rw [region_Check_val _ sg]
      simp only [bindK_some]
      by_cases h0 : regErr ((ws, false), hs) = 0
      case neg => rw [if_pos h0]
      rw [if_neg (fun h => h h0)]
      unfold law05_RegionPoint_L7_f
      have hloop := RegionPoint_loop ((ws, false), hs) s hs sg.hole sg.len hss hs.length 0 (ByteArray.size s + List.length ws + List.length hs + List.length hs + Int.natAbs (hs.length : Int) + Int.natAbs 0 + 1000) false (by omega) (by omega)
      rw [show ((0 : Nat) : Int) = 0 from rfl, List.drop_zero, Bool.false_or] at hloop
      simp only at hloop
      rw [hloop]
      simp only [bindK_some, sumK_inl]
      rw [region_Empty_val _ sg, region_Least_val _ sg, if_pos h0, if_pos h0]
      simp only [bindK_some, if_true]
      have hany : (hs.any fun h => pmS h s) = hs.any fun h => pm h ws := any_same fun x _ => pmS_some hp
      have hpl := point_least h0 hc
      rw [hany]
      unfold leastR
      cases hpa : hs.any (fun h => pm h ws) with
      | true =>
        rw [hpa, if_pos rfl] at hpl
        have hn : lengthG ((ws, false), hs) = none := by
          rcases leastG_spec h0 with ⟨h1, _⟩ | ⟨n, r, h1, h2, _⟩
          · exact h1
          · rw [hpl] at h2; cases h2
        rw [hpl, hn]
        simp
      | false =>
        rw [hpa, if_neg (by simp)] at hpl
        have hn : (lengthG ((ws, false), hs)).isNone = false := by
          rcases leastG_spec h0 with ⟨_, h2⟩ | ⟨n, r, h1, h2, _⟩
          · rw [hpl] at h2; cases h2
          · rw [h1]; rfl
        rw [hpl, hn]
        simp [p3]
end Go.Proofs.YtcmfkmhmehhkpaaDoor

set_option linter.unusedSimpArgs false
set_option linter.unusedVariables false
set_option maxRecDepth 100000
namespace Go.Proofs.YtcmfkmhmehhkpaaDoor
open Go Go.Ai
/-! ### The reference's least path -/
theorem covA_beyond {h base : Pat} (eb : patErr base = 0) : ∀ {k i : Nat}, h.1.length ≤ i → covA h base i k = true
  | 0, _, _ => rfl
  | k + 1, i, hi => by
    have e : ptAt h i = starB := by
      unfold ptAt
      rw [List.getElem?_eq_none hi]
      rfl
    rw [covA, e, pInside_star (ptAt_part eb i), covA_beyond eb (by omega)]
    rfl

theorem lenFrom_fixed {g : Reg} (hr : g.1.2 = false) : ∀ {k n : Nat}, g.1.1.length < n → lenFrom g k n = none
  | 0, _, _ => rfl
  | k + 1, n, h => by
    have hlo : lenOK g.1 n = false := by unfold lenOK; rw [if_neg (by rw [hr]; simp)]; simp; omega
    rw [lenFrom, hlo, if_neg (by simp)]
    exact lenFrom_fixed hr (by omega)

theorem lengthG_pos {g : Reg} {n : Nat} (og : okG g) (h : lengthG g = some n) : 0 < n := by
  have h1 := lenOK_le (lengthG_some h).1
  have := (patErr_zero.1 og.1).1
  omega

/-- The holes that are alive, as the reference keeps them. -/
def AliveL (g : Reg) (n : Nat) (l : List ByteArray) (al : List Pat) : Prop := al.filter (fun h => lenOK h n) = g.2.filter (fun h => aliveH h n l)

theorem aliveH_len {h : Pat} {n : Nat} {l : List ByteArray} (ha : aliveH h n l = true) : lenOK h n = true := by
  unfold aliveH at ha
  rw [Bool.and_eq_true] at ha
  exact ha.1

/-- What is left behind a word. -/
def stepA (base : Pat) (n i : Nat) (x : ByteArray) : List Pat → List Pat → List Pat × Bool
  | acc, [] => (acc, true)
  | acc, h :: hs => if (lenOK h n && pInside x (ptAt h i)) = true then if covers h base n (i + 1) = true then ([], false) else stepA base n i x (acc ++ [h]) hs else stepA base n i x acc hs

theorem stepA_eq (base : Pat) (n i : Nat) (x : ByteArray) : ∀ (hs acc : List Pat), stepA base n i x acc hs = if ((hs.filter fun h => lenOK h n && pInside x (ptAt h i)).any fun h => covers h base n (i + 1)) = true then ([], false) else (acc ++ hs.filter fun h => lenOK h n && pInside x (ptAt h i), true)
  | [], acc => by simp [stepA]
  | h :: hs, acc => by
    rw [stepA, stepA_eq base n i x hs (acc ++ [h]), stepA_eq base n i x hs acc, List.filter_cons]
    cases (lenOK h n && pInside x (ptAt h i)) with
    | false => simp
    | true =>
      simp only [if_true, List.any_cons]
      cases covers h base n (i + 1) with
      | true => simp
      | false =>
        simp only [Bool.false_eq_true, if_false, Bool.false_or]
        split <;> simp

theorem filter_and {p q : Pat → Bool} (l : List Pat) : l.filter (fun h => p h && q h) = (l.filter p).filter q := by
  rw [List.filter_filter]
  congr 1
  funext h
  rw [Bool.and_comm]

theorem stepA_alive {g : Reg} {n : Nat} {l : List ByteArray} {al : List Pat} {x : ByteArray} (ha : AliveL g n l al) : (stepA g.1 n l.length x [] al).2 = freeW g n l x ∧ (freeW g n l x = true → AliveL g n (l ++ [x]) (stepA g.1 n l.length x [] al).1) := by
  have hf : (al.filter fun h => lenOK h n && pInside x (ptAt h l.length)) = g.2.filter fun h => aliveH h n (l ++ [x]) := by
    rw [filter_and, ha, ← filter_and]
    congr 1
    funext h
    rw [aliveH_snoc]
  rw [stepA_eq, hf]
  have hfree : freeW g n l x = !((g.2.filter fun h => aliveH h n (l ++ [x])).any fun h => covers h g.1 n (l.length + 1)) := by
    unfold freeW
    congr 1
    rw [List.any_filter]
    apply any_same
    intro h _
    rw [aliveH_snoc]
    cases aliveH h n l <;> cases covers h g.1 n (l.length + 1) <;> cases pInside x (ptAt h l.length) <;> rfl
  rw [hfree]
  cases hc : (g.2.filter fun h => aliveH h n (l ++ [x])).any (fun h => covers h g.1 n (l.length + 1)) with
  | true => simp
  | false =>
    simp only [Bool.false_eq_true, if_false, Bool.not_false, List.nil_append, true_and]
    intro _
    unfold AliveL
    rw [List.filter_filter]
    congr 1
    funext h
    cases hal : aliveH h n (l ++ [x]) with
    | false => simp
    | true => rw [aliveH_len hal]; rfl
end Go.Proofs.YtcmfkmhmehhkpaaDoor

set_option linter.unusedSimpArgs false
set_option linter.unusedVariables false
namespace Go.Proofs.YtcmfkmhmehhkpaaDoor
open Go Go.Ai
theorem regionChecks_pure (g : Reg) (s : ByteArray) (hg : Ty.wOK 140737488351232 tyReg g) (hs : Ty.wOK 140737488351232 .str s) : law05_RegionChecks (g, s) = some true :=
  RegionChecks_val g s (wideG_of hg) (by have : s.size ≤ 140737488351232 := hs; omega)
theorem regionWitness_pure (g : Reg) (s : ByteArray) (hg : Ty.wOK 140737488351232 tyReg g) (hs : Ty.wOK 140737488351232 .str s) : law05_RegionWitness (g, s) = some true :=
  RegionWitness_val g s (wideG_of hg) (by have : s.size ≤ 140737488351232 := hs; omega)
theorem regionPoint_pure (s : ByteArray) (hs : List Pat) (h : Ty.bulk .str s + Ty.bulk (.list tyPat) hs ≤ 1048576) : law05_RegionPoint (s, hs) = some true := by
  have hh : huge = 1073741824 := rfl
  have hc : cap44 = 17592186044416 := rfl
  have e1 : Ty.bulk .str s = s.size + 1 := rfl
  have e2 : Ty.bulk (.list tyPat) hs = (List.map (Ty.bulk tyPat) hs).sum + 1 := rfl
  have e3 := sum_length (Ty.bulk tyPat) (bulk_pos tyPat) hs
  refine RegionPoint_val s hs (by omega) (fun h hh9 => ?_) (by have : hs.length ≤ (List.map (Ty.bulk tyPat) hs).sum := e3; omega)
  have e4 : Ty.bulk tyPat h ≤ _ := sum_mem (Ty.bulk tyPat) (l := hs) hh9
  have e5 := smallP_of (N := 1048576) (p := h) (by omega) (Nat.le_refl _)
  have hbig : big = 1048576 := rfl
  exact ⟨by have := e5.len; omega, fun x hx => by have := e5.part x hx; omega⟩
end Go.Proofs.YtcmfkmhmehhkpaaDoor
