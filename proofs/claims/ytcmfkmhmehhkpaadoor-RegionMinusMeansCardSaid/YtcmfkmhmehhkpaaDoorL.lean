/- A part of the proof of a law of this seat (L_YtcmfkmhmehhkpaaDoor). -/
import Derived.Test.YtcmfkmhmehhkpaaDoorAe
import Derived.Test.YtcmfkmhmehhkpaaDoorProg
import Derived.KernelRfl
import Derived.WalkKit
import Derived.Deep.LoopGhost
import Derived.Deep.Draws
import Derived.Lib.Walk
import Derived.Lib.SliceRun
import Derived.Shelf.Small.Strs
import Derived.Shelf.Slices.Clone
import Derived.Shelf.Spec.SlicesGrow
import Derived.Shelf.SlGeneric
import Derived.Ground.Names8Prog
import Derived.Ground.SlsfProg
set_option linter.unusedVariables false
set_option linter.unusedSimpArgs false
namespace Go.Proofs.YtcmfkmhmehhkpaaDoor
open Go Go.Ai Go.Proofs Go.Shelf Go.RowKit Go.Lib Go.Sort

def Tryd.lays213_ren : Go.Shelf.Ren := ⟨fun | 213 => 66 | 265 => 86 | n => n, fun | 9 => 9 | 3 => 3 | n => n, fun | n => n⟩
theorem Tryd.lays213 : Go.Proofs.Lays.n213 Tryd.prog Tryd.lays213_ren := {
  mixed := by kernel_rfl
  f213 := Tryd.func66.trans (congrArg some (by kernel_rfl))
  f265 := Tryd.func86.trans (congrArg some (by kernel_rfl))
  t3 := Tryd.underlying3
  a3 := Tryd.isAgg3
  z3 := Tryd.sizeOf3
  v3 := Tryd.zeroValue3
  t9 := Tryd.underlying9
  a9 := Tryd.isAgg9
  z9 := Tryd.sizeOf9
  v9 := Tryd.zeroValue9 }
theorem Tryd.bytealg_CompareString (a b : ByteArray) (w : World) :
    Calls Tryd.prog 66 #[.string a, .string b] w fun e w' => e = .returned (.int .i64 (Lib.compareBytes a.data.toList b.data.toList)) ∧ w' = w := Any.bytealg_CompareString Tryd.lays213 a b w
def Tryd.lays106_ren : Go.Shelf.Ren := ⟨fun | 106 => 39 | 213 => 66 | 265 => 86 | n => n, fun | 9 => 9 | 3 => 3 | n => n, fun | n => n⟩
theorem Tryd.lays106 : Go.Proofs.Lays.n106 Tryd.prog Tryd.lays106_ren := {
  mixed := by kernel_rfl
  f106 := Tryd.func39.trans (congrArg some (by kernel_rfl))
  f213 := Tryd.func66.trans (congrArg some (by kernel_rfl))
  f265 := Tryd.func86.trans (congrArg some (by kernel_rfl))
  t3 := Tryd.underlying3
  a3 := Tryd.isAgg3
  z3 := Tryd.sizeOf3
  v3 := Tryd.zeroValue3
  t9 := Tryd.underlying9
  a9 := Tryd.isAgg9
  z9 := Tryd.sizeOf9
  v9 := Tryd.zeroValue9 }
theorem Tryd.strings_Compare (a b : ByteArray) (w : World) :
    Calls Tryd.prog 39 #[.string a, .string b] w fun e w' => e = .returned (.int .i64 (Lib.compareBytes a.data.toList b.data.toList)) ∧ w' = w := Any.strings_Compare Tryd.lays106 a b w
def Tryd.sortH_ren : Go.Shelf.Ren := ⟨fun | 6 => 68 | 15 => 88 | 14 => 87 | 28 => 104 | 29 => 105 | 20 => 96 | 21 => 97 | 22 => 98 | 23 => 99 | 24 => 100 | 25 => 101 | 26 => 102 | 27 => 103 | 46 => 110 | 47 => 111 | 48 => 112 | 49 => 113 | 50 => 114 | 57 => 119 | n => n, fun | 22 => 93 | 24 => 96 | 25 => 98 | 3 => 3 | 39 => 111 | 0 => 0 | 53 => 125 | 55 => 58 | 4 => 4 | 46 => 119 | 45 => 118 | 50 => 56 | 5 => 5 | 9 => 9 | 66 => 130 | 70 => 134 | 76 => 137 | 77 => 138 | n => n, fun | n => n⟩
theorem Tryd.sortH : Go.Proofs.SlLaysF0.n6 Tryd.prog Tryd.sortH_ren := {
  mixed := by kernel_rfl
  f6 := ⟨Tryd.f68.name, by decide, Tryd.func68.trans (congrArg some (by kernel_rfl))⟩
  f14 := ⟨Tryd.f87.name, by decide, Tryd.func87.trans (congrArg some (by kernel_rfl))⟩
  f15 := Tryd.func88.trans (congrArg some (by kernel_rfl))
  f20 := ⟨Tryd.f96.name, by decide, Tryd.func96.trans (congrArg some (by kernel_rfl))⟩
  f21 := ⟨Tryd.f97.name, by decide, Tryd.func97.trans (congrArg some (by kernel_rfl))⟩
  f22 := ⟨Tryd.f98.name, by decide, Tryd.func98.trans (congrArg some (by kernel_rfl))⟩
  f23 := ⟨Tryd.f99.name, by decide, Tryd.func99.trans (congrArg some (by kernel_rfl))⟩
  f24 := ⟨Tryd.f100.name, by decide, Tryd.func100.trans (congrArg some (by kernel_rfl))⟩
  f25 := ⟨Tryd.f101.name, by decide, Tryd.func101.trans (congrArg some (by kernel_rfl))⟩
  f26 := ⟨Tryd.f102.name, by decide, Tryd.func102.trans (congrArg some (by kernel_rfl))⟩
  f27 := ⟨Tryd.f103.name, by decide, Tryd.func103.trans (congrArg some (by kernel_rfl))⟩
  f28 := Tryd.func104.trans (congrArg some (by kernel_rfl))
  f29 := Tryd.func105.trans (congrArg some (by kernel_rfl))
  f46 := ⟨Tryd.f110.name, by decide, Tryd.func110.trans (congrArg some (by kernel_rfl))⟩
  f47 := Tryd.func111.trans (congrArg some (by kernel_rfl))
  f48 := Tryd.func112.trans (congrArg some (by kernel_rfl))
  f49 := ⟨Tryd.f113.name, by decide, Tryd.func113.trans (congrArg some (by kernel_rfl))⟩
  f50 := ⟨Tryd.f114.name, by decide, Tryd.func114.trans (congrArg some (by kernel_rfl))⟩
  f57 := ⟨Tryd.f119.name, by decide, Tryd.func119.trans (congrArg some (by kernel_rfl))⟩
  t0 := Tryd.underlying0
  a0 := Tryd.isAgg0
  z0 := Tryd.sizeOf0
  v0 := Tryd.zeroValue0
  t3 := Tryd.underlying3
  a3 := Tryd.isAgg3
  z3 := Tryd.sizeOf3
  v3 := Tryd.zeroValue3
  t4 := Tryd.underlying4
  a4 := Tryd.isAgg4
  z4 := Tryd.sizeOf4
  v4 := Tryd.zeroValue4
  t5 := Tryd.underlying5
  a5 := Tryd.isAgg5
  z5 := Tryd.sizeOf5
  v5 := Tryd.zeroValue5
  t9 := Tryd.underlying9
  a9 := Tryd.isAgg9
  z9 := Tryd.sizeOf9
  v9 := Tryd.zeroValue9
  t22 := Tryd.underlying93
  a22 := Tryd.isAgg93
  z22 := Tryd.sizeOf93
  v22 := Tryd.zeroValue93
  t25 := Tryd.underlying98
  a25 := Tryd.isAgg98
  z25 := Tryd.sizeOf98
  v25 := Tryd.zeroValue98
  t39 := Tryd.underlying111
  a39 := Tryd.isAgg111
  z39 := Tryd.sizeOf111
  v39 := Tryd.zeroValue111
  t45 := Tryd.underlying118
  a45 := Tryd.isAgg118
  z45 := Tryd.sizeOf118
  v45 := Tryd.zeroValue118
  t46 := Tryd.underlying119
  a46 := Tryd.isAgg119
  z46 := Tryd.sizeOf119
  v46 := Tryd.zeroValue119
  t50 := Tryd.underlying56
  a50 := Tryd.isAgg56
  z50 := Tryd.sizeOf56
  v50 := Tryd.zeroValue56
  t53 := Tryd.underlying125
  a53 := Tryd.isAgg125
  z53 := Tryd.sizeOf125
  v53 := Tryd.zeroValue125
  t55 := Tryd.underlying58
  a55 := Tryd.isAgg58
  z55 := Tryd.sizeOf58
  v55 := Tryd.zeroValue58
  t66 := Tryd.underlying130
  a66 := Tryd.isAgg130
  z66 := Tryd.sizeOf130
  v66 := Tryd.zeroValue130
  t70 := Tryd.underlying134
  a70 := Tryd.isAgg134
  z70 := Tryd.sizeOf134
  v70 := Tryd.zeroValue134
  t76 := Tryd.underlying137
  a76 := Tryd.isAgg137
  z76 := Tryd.sizeOf137
  v76 := Tryd.zeroValue137
  t77 := Tryd.underlying138
  a77 := Tryd.isAgg138
  z77 := Tryd.sizeOf138
  v77 := Tryd.zeroValue138 }
def Tryd.growH_ren : Go.Shelf.Ren := ⟨fun | 4 => 76 | n => n, fun | 22 => 22 | 25 => 27 | 3 => 3 | 4 => 4 | 9 => 9 | 20 => 20 | 0 => 0 | n => n, fun | n => n⟩
theorem Tryd.growH : Go.Proofs.Lays8.n4 Tryd.prog Tryd.growH_ren := {
  mixed := by kernel_rfl
  f4 := ⟨Tryd.f76.name, by decide, Tryd.func76.trans (congrArg some (by kernel_rfl))⟩
  t0 := Tryd.underlying0
  a0 := Tryd.isAgg0
  z0 := Tryd.sizeOf0
  v0 := Tryd.zeroValue0
  t3 := Tryd.underlying3
  a3 := Tryd.isAgg3
  z3 := Tryd.sizeOf3
  v3 := Tryd.zeroValue3
  t4 := Tryd.underlying4
  a4 := Tryd.isAgg4
  z4 := Tryd.sizeOf4
  v4 := Tryd.zeroValue4
  t9 := Tryd.underlying9
  a9 := Tryd.isAgg9
  z9 := Tryd.sizeOf9
  v9 := Tryd.zeroValue9
  t20 := Tryd.underlying20
  a20 := Tryd.isAgg20
  z20 := Tryd.sizeOf20
  v20 := Tryd.zeroValue20
  t22 := Tryd.underlying22
  a22 := Tryd.isAgg22
  z22 := Tryd.sizeOf22
  v22 := Tryd.zeroValue22 }


def cloneF (xs : List Pat) : Option (List Pat) := if fits 0 xs.length 32 = true then some xs else none

set_option maxHeartbeats 2000000 in
theorem clone_nil (n c : Nat) (w : World) : Calls Tryd.prog 45 #[.slice none n c] w fun e w' => e = .returned (.slice none 0 0) ∧ w' = w := by
  have qS : ∀ (w : World) (a : Option Addr) (n c n' c' : Nat), (binOp .eql 22 (.slice a n c) (.slice none n' c')).run Tryd.prog w = .ok (.bool a.isNone) w := fun w a n c n' c' => Lib.run_eql_slice_nil w _ _ a n c n' c' Tryd.underlying22
  go_enter Tryd.func45, Tryd.ntmps45
  go_wp2
  go_ret
  exact ⟨rfl, rfl⟩

set_option maxHeartbeats 2000000 in
theorem clone_some (ad : Addr) (n c : Nat) (news : List Value) (w : World) (hl : news.length = n * 2) (hbig : n * 32 ≤ 140737488355328) (hc : ∀ (j : Nat) u, news[j]? = some u → w.cell? (ad.add j) = some u) (h1 : ∀ u ∈ news, u.oneCell' = true) :
    Calls Tryd.prog 45 #[.slice (some ad) n c] w fun e w' => ∃ v', e = .returned v' ∧ w'.ownsRow w.heap.size 27 2 v' n news ∧ v' ≠ .slice none 0 0 ∧ Below w.heap.size w w' := by
  have qS : ∀ (w : World) (a : Option Addr) (n c n' c' : Nat), (binOp .eql 22 (.slice a n c) (.slice none n' c')).run Tryd.prog w = .ok (.bool a.isNone) w := fun w a n c n' c' => Lib.run_eql_slice_nil w _ _ a n c n' c' Tryd.underlying22
  have uS : ∀ w, Sem.run Tryd.prog (underlying 22) w = .ok (TypeDesc.slice 27) w := run_underlying Tryd.underlying22
  obtain ⟨i0, z, hi, hz0, hz1, hz2, hz3⟩ : ∃ i z, Tryd.prog.info? 27 = some i ∧ i.zero = some z ∧ i.size = 2 ∧ i.bytes = 32 ∧ z.cells.size = 2 := by
    have h : (Tryd.prog.info? 27).map (fun i => (i.size, i.bytes, i.zero.map (fun z => z.cells.size))) = some (2, 32, some 2) := by kernel_rfl
    obtain ⟨i, hi, h⟩ := Option.map_eq_some_iff.1 h
    simp only [Prod.mk.injEq] at h
    obtain ⟨z, hz, h3⟩ := Option.map_eq_some_iff.1 h.2.2
    exact ⟨i, z, hi, hz, h.1, h.2.1, h3⟩
  have A : Aside (∀ (j : Nat) u, news[j]? = some u → w.cell? (ad.add j) = some u) := hc
  clear hc
  go_enter Tryd.func45, Tryd.ntmps45
  go_wp2_with (at_builtin; refine wpList_append_own _ rfl _ _ 22 rfl w.heap.size 27 i0 z 2 32 Tryd.underlying22 hi hz0 hz1 hz2 hz3 (by decide) _ _ _ rfl (World.ownsRow_made w #[] 0 (Nat.le_refl _) (Nat.zero_le _) rfl) ad n c news rfl ?qc1 ?qc2 ?qc3 ?qc4 ?qc5 ?qc6 ?_)
  case qc1 => exact hl
  case qc2 =>
    intro j u hj
    exact Lib.cell?_alloc_some _ (A.out j u hj)
  case qc3 => exact h1
  case qc4 => unfold maxLen; omega
  case qc5 => omega
  case qc6 => simp
  intro v' w1 hown hgrow hnil
  go_wp2
  go_ret
  refine ⟨v', rfl, by simpa using hown, ?_, ?_⟩
  · exact hnil
  · exact ((Below.refl _ w).alloc (Nat.le_refl _) _).grown hgrow (by simp) (by intro k hk; simp [Value.ownBlock] at hk; omega)

theorem clone_fresh (GL : World → Prop) : FreshOK Tryd.prog GL 45 27 tyPat (.list tyPat) cloneF := by
  intro (x : List Pat) xs hf w ok vs hG hok hokm hargs
  replace hargs : RelL w ⟨ok, fun i => i, fun _ _ => False, fun _ => true⟩ [.tl tyPat x] vs := hargs
  unfold cloneF at hf
  split at hf
  case isFalse => cases hf
  rename_i hfit
  cases hf
  simp only [fits, Bool.and_eq_true, decide_eq_true_eq] at hfit
  obtain ⟨v, rfl, h1⟩ : ∃ v, vs = #[v] ∧ Rel w ⟨ok, fun i => i, fun _ _ => False, fun _ => true⟩ (.tl tyPat x) v := by
    obtain ⟨l⟩ := vs
    match l, hargs.1 with
    | [u], _ => exact ⟨u, rfl, hargs.2 0 _ u rfl rfl⟩
  obtain ⟨aa, b, o, cap, rfl, hcap, ha, cv, hcell, hr⟩ := h1.tl_parts
  refine ⟨callFunc_enter Tryd.func45 (by kernel_rfl) (by kernel_rfl) _ _, ?_⟩
  have hsz : Ty.sz tyPat = 2 := rfl
  cases aa with
  | none =>
    have hx : x = [] := by
      refine Decidable.byContradiction fun hne => ?_
      have := ha hne
      cases this
    subst hx
    refine (clone_nil _ _ w).mono fun e w' ⟨he, hw⟩ => ?_
    subst hw
    exact ⟨_, he, Below.refl _ _, .inl ⟨rfl, rfl⟩⟩
  | some ad =>
    have hcalls := clone_some ad (List.length (α := tyPat.den) x) cap (flat 2 (List.length (α := tyPat.den) x) cv) w flat_length (by have h9 := hfit.1; rw [Nat.zero_add] at h9; exact h9) (fun j u hj => by
      obtain ⟨i', j', hi', hj', rfl, rfl⟩ := flat_all (by omega) hj
      obtain ⟨c, hc⟩ := lget_emb (t := tyPat) (x[i']'hi') hj'
      have hne : x ≠ [] := by rintro rfl; exact absurd hi' (Nat.not_lt_zero _)
      have had := ha hne
      injection had with had
      rw [had, Addr.add_eq]
      exact (hcell i' (x[i']'hi') j' c (List.getElem?_eq_getElem hi') hc).1) (fun u hu => by
      obtain ⟨q, hq⟩ := List.getElem?_of_mem hu
      obtain ⟨i', j', hi', hj', rfl, rfl⟩ := flat_all (by omega) hq
      obtain ⟨c, hc⟩ := lget_emb (t := tyPat) (x[i']'hi') hj'
      exact (hcell i' (x[i']'hi') j' c (List.getElem?_eq_getElem hi') hc).2.1)
    refine hcalls.mono fun e w' ⟨v', he, hown, hnil, hb⟩ => ?_
    refine ⟨v', he, hb, .inr ?_⟩
    rcases hown.2 with ⟨rfl, _⟩ | ⟨g, cap2, cur, rfl, hg1, hgg, hnc, hcm, hcs, htake⟩
    · exact absurd rfl hnil
    have hcells := hown.cells (g := g) rfl
    have hmc : Mono w ⟨ok, fun i => i, fun _ _ => False, fun _ => true⟩ w' ⟨fun k b' o => ok k b' o ∨ (b' = g ∧ o < List.length (α := tyPat.den) x * Ty.sz tyPat), fun i => i, fun _ _ => False, fun _ => true⟩ :=
      ⟨fun _ _ _ h => .inl h, fun k b' o h => cell_other (hb.block _ (hok k b' o h)), fun _ h => h, fun _ h => h.elim, fun _ _ h => h.elim⟩
    refine ⟨g, hg1, (Array.getElem?_eq_some_iff.1 hgg).1, ?_, ⟨_, ⟨hown.1, .inr ⟨g, cap2, cur, rfl, Nat.zero_le _, hgg, hnc, hcm, hcs, htake⟩⟩⟩, rfl⟩
    refine .tl _ tyPat x _ g 0 cap2 cv hnc (fun _ => rfl) (fun i y j c hy hj => ?_) fun i y j c hy hj => (hr i y j c hy hj).mono hmc.closed
    have hj' : j < 2 := by have := (List.getElem?_eq_some_iff.1 (lget_eq _ _ ▸ hj)).1; rwa [emb_length] at this
    have hi' : i < List.length (α := tyPat.den) x := (List.getElem?_eq_some_iff.1 hy).1
    have hlt := row_in (t := tyPat) (Nat.le_refl _) rfl hy hj
    refine ⟨?_, (hcell i y j c hy hj).2.1, .inr ⟨rfl, by rw [Nat.zero_add]; exact hlt⟩⟩
    have := hcells (i * 2 + j) (cv i j) (flat_get (by omega) hi' hj')
    rw [Addr.add_eq] at this
    exact this

def growF (x : Unit × Int) : Option (List Pat) := if 0 ≤ x.2 ∧ x.2 * 32 ≤ 140737488355328 then some [] else none

theorem grow_fresh (GL : World → Prop) : FreshOK Tryd.prog GL 76 27 tyPat (.pair .snil (.int .i64)) growF := by
  intro (x : Unit × Int) xs hf w ok vs hG hok hokm hargs
  replace hargs : RelL w ⟨ok, fun i => i, fun _ _ => False, fun _ => true⟩ [.snil, .int .i64 x.2] vs := hargs
  unfold growF at hf
  split at hf
  case isFalse => cases hf
  rename_i hc
  obtain ⟨hn0, hbig⟩ := hc
  cases hf
  obtain ⟨u, v, rfl, h1, h2⟩ := two_args hargs
  cases h2
  cases h1
  obtain ⟨n, hn⟩ : ∃ n : Nat, x.2 = n := ⟨x.2.toNat, by omega⟩
  rw [hn] at hbig ⊢
  refine ⟨callFunc_enter Tryd.func76 (by kernel_rfl) (by kernel_rfl) _ _, ?_⟩
  rcases Nat.eq_zero_or_pos n with h0 | h0
  · subst h0
    refine (Any8.slices_Grow_room Tryd.growH none 0 0 0 w (Nat.le_refl _) (by omega) (by omega) (Nat.le_refl _)).mono fun e w' ⟨he, hw⟩ => ?_
    subst hw
    exact ⟨_, he, Below.refl _ _, .inl ⟨rfl, rfl⟩⟩
  obtain ⟨i0, z, hi, hz0, hz1, hz2, hz3⟩ : ∃ i z, Tryd.prog.info? 27 = some i ∧ i.zero = some z ∧ i.size = 2 ∧ i.bytes = 32 ∧ z.cells.size = 2 := by
    have h : (Tryd.prog.info? 27).map (fun i => (i.size, i.bytes, i.zero.map (fun z => z.cells.size))) = some (2, 32, some 2) := by kernel_rfl
    obtain ⟨i, hi, h⟩ := Option.map_eq_some_iff.1 h
    simp only [Prod.mk.injEq] at h
    obtain ⟨z, hz, h3⟩ := Option.map_eq_some_iff.1 h.2.2
    exact ⟨i, z, hi, hz, h.1, h.2.1, h3⟩
  refine (Any8.slices_Grow_grow Tryd.growH i0 z hi hz0 (by omega) none 0 0 n [] w (Nat.le_refl _) (by omega) (by rw [hz2]; omega) (by omega) (by simp) (fun _ => rfl) (fun a h => by cases h)).mono fun e w' ⟨he, hw⟩ => ?_
  have hcap1 : 0 + n ≤ grownCap w (0 + n) 0 27 := grownCap_ge w _ _ _
  have hcap2 := grownCap_le_maxLen w (0 + n) 0 27 (by unfold maxLen; omega)
  subst hw
  have hb : Below w.heap.size w (w.drew.alloc (.cells (([] : List Value).toArray ++ Builtin.zeroCells z.cells (0 + n - 0) ++ Builtin.zeroCells z.cells (grownCap w (0 + n) 0 (Tryd.growH_ren.t 25) - (0 + n))) (Tryd.growH_ren.t 25))) :=
    Below.alloc (show Below w.heap.size w w.drew from ⟨rfl, rfl, rfl, Nat.le_refl _, fun _ _ => rfl⟩) (Nat.le_refl _) _
  refine ⟨_, he, hb, .inr ⟨w.heap.size, Nat.le_refl _, by simp, ?_, ⟨[], ?_⟩, rfl⟩⟩
  · exact .tl _ tyPat [] _ w.heap.size 0 _ (fun _ _ => undef) (Nat.zero_le _) (fun h => absurd rfl h) (fun i x j c h => by simp at h) (fun i x j c h => by simp at h)
  · refine ⟨rfl, .inr ⟨w.heap.size, _, _, rfl, Nat.zero_le _, heap_alloc_new _ _, Nat.zero_le _, hcap2, ?_, List.take_zero⟩⟩
    show _ = grownCap w (0 + n) 0 27 * 2
    have e2 : Tryd.growH_ren.t 25 = 27 := rfl
    rw [e2]
    simp [Builtin.zeroCells, hz3]
    rw [Nat.zero_add] at hcap1
    omega

set_option maxHeartbeats 2000000 in
/-- The comparison that the sort is handed: of the texts alone. -/
theorem closureCmp (a b u v u' v' : Value) (x y : ByteArray) (W : World) : Calls Tryd.prog 69 #[.agg #[.string x, u, v], .agg #[.string y, u', v']] W fun e w' => e = .returned (.int .i64 (Lib.compareBytes x.data.toList y.data.toList)) ∧ ∃ q os', w' = grow (W.drewN q) os' := by
  have hcon := fun W' => Tryd.strings_Compare x y W'
  generalize Lib.compareBytes x.data.toList y.data.toList = r at hcon ⊢
  go_enter Tryd.func69, Tryd.ntmps69
  go_wp2_with (go_at_call 39; refine (hcon _).mono ?_; rintro e w' ⟨rfl, rfl⟩)
  go_ret
  exact ⟨rfl, 0, _, by rw [alloc_eq_grow, alloc_eq_grow, grow_grow]; rfl⟩

theorem cmp_lays (blk off size : Nat) (w : World) : CmpLays Tryd.prog 69 #[] encH 3 cfH blk off size w :=
  fun _ _ _ _ a b => closureCmp (.bool false) (.bool false) a.u a.v b.u b.v a.x b.x _

theorem sort_calls (blk off cap : Nat) (d : Array HoleC) (w : World) (hH : HoldsK encH 3 w blk off d) (hblk : blk < w.heap.size) (hsz : d.size < 4611686018427387904) :
    Calls Tryd.prog 68 #[.slice (some ⟨blk, off, none⟩) d.size cap, .func (.func 69) #[] #[]] w fun e w' =>
      e = .returned (.tuple #[]) ∧ ∃ d' n os, PermIn 0 d.size d d' ∧ SortedIn (ltOf cfH) 0 d.size d' ∧ w' = sortWorldK encH 3 w blk off n d' os := by
  have eg : ∀ args w, (callFunc 69 args).run Tryd.prog w = .ok (.enter 69 args) w := enters_of Tryd.func69 (by kernel_rfl) rfl
  exact AnyQ.slices_SortFunc Tryd.sortH 3 Tryd.isAgg96 Tryd.sizeOf96 encH (fun _ => rfl) (fun h v hv => by
    simp [encH] at hv
    rcases hv with rfl | rfl | rfl
    · rfl
    · exact h.hu
    · exact h.hv) cfH swoH 69 #[] blk off cap d w eg (cmp_lays blk off d.size w) hH hblk hsz


set_option maxHeartbeats 2000000 in
/-- The test that the library is handed: one text. -/
theorem closureEq (a b u v u' v' : Value) (x y : ByteArray) (W : World) : Calls Tryd.prog 71 #[.agg #[.string x, u, v], .agg #[.string y, u', v']] W fun e w' => e = .returned (.bool (decide (x = y))) ∧ ∃ q os', w' = grow (W.drewN q) os' := by
  go_enter Tryd.func71, Tryd.ntmps71
  go_wp2
  go_ret
  have e : (x.toList == y.toList) = decide (x = y) := bytes_eq x y
  exact ⟨by rw [← e]; rfl, 0, _, by rw [alloc_eq_grow, alloc_eq_grow, grow_grow]; rfl⟩

set_option maxHeartbeats 4000000 in
set_option maxRecDepth 1000000 in
theorem comp_none (w : World) : Calls Tryd.prog 70 #[.slice none 0 0, .func (.func 71) #[] #[]] w fun en w' => en = .returned (.slice none 0 0) ∧ ∃ n os, w' = grow (Sort.ahead w n) os := by
  go_enter Tryd.func70, Tryd.ntmps70
  go_wp2
  go_ret
  exact ⟨rfl, 0, #[], by rw [grow_empty]; rfl⟩


set_option maxHeartbeats 4000000 in
set_option maxRecDepth 1000000 in
theorem comp_calls (blk off cap : Nat) (d : Array HoleC) (w : World) (hH : HoldsK encH 3 w blk off d) (hblk : blk < w.heap.size) (hcap : d.size ≤ cap) (hmax : cap ≤ maxLen) :
    Calls Tryd.prog 70 #[.slice (some ⟨blk, off, none⟩) d.size cap, .func (.func 71) #[] #[]] w fun e w' => e = .returned (.slice (some ⟨blk, off, none⟩) (compC d.toList).length cap) ∧
      ∃ d' n os, d'.size = d.size ∧ (∀ i, i < (compC d.toList).length → (compC d.toList)[i]? = some d'[i]!) ∧ w' = sortWorldK encH 3 w blk off n d' os := by
  have hcap63 : cap ≤ 9223372036854775807 := hmax
  have HST : Hid (w = sortWorldK encH 3 w blk off 0 d #[]) := by show w = _; unfold sortWorldK; rw [grow_empty]; exact (putRowK_self encH 3 w blk off d hH).symm
  have HH : Hid (HoldsK encH 3 w blk off d) := hH
  have same : ∀ W n os, W = sortWorldK encH 3 w blk off n d os → (∀ j, 0 < j → j < d.size → d[j]!.x ≠ d[j - 1]!.x) → (compC d.toList).length = d.size ∧ ∃ d' n os, d'.size = d.size ∧ (∀ i, i < (compC d.toList).length → (compC d.toList)[i]? = some d'[i]!) ∧ W = sortWorldK encH 3 w blk off n d' os := by
    intro W n os hW hall
    have e : compC d.toList = d.toList := by
      rw [← keptC_all]
      rcases Nat.eq_zero_or_pos d.size with h0 | h0
      · unfold keptC
        have : d.toList = [] := List.eq_nil_of_length_eq_zero (by simpa using h0)
        rw [this]; simp [compC]
      · obtain ⟨m, hm⟩ : ∃ m, d.size = m + 1 := ⟨d.size - 1, by omega⟩
        rw [hm, keptC_same d m (by omega) (fun j h1 h2 => hall j h1 (by omega)), ← hm, ← Array.length_toList, List.take_length]
    rw [e]
    exact ⟨by simp, d, n, os, rfl, fun i hi => get!_toList (by simpa using hi), hW⟩
  have SAME : Hid _ := same
  clear same hH
  have mixed : Tryd.prog.follows .mixedOrders = true := by kernel_rfl
  have aE : ∀ w, (isAgg 96).run Tryd.prog w = .ok true w := Tryd.isAgg96
  have eEq : ∀ args w, (callFunc 71 args).run Tryd.prog w = .ok (.enter 71 args) w := enters_of Tryd.func71 (by kernel_rfl) rfl
  have uH := run_underlying Tryd.underlying93
  obtain ⟨k3, hk3⟩ : ∃ k3, k3 = 3 := ⟨3, rfl⟩
  have hsl : ∀ w, (Go.sizeOf 96).run Tryd.prog w = .ok k3 w := by rw [hk3]; exact Tryd.sizeOf96
  have HK : Hid (k3 = 3) := hk3
  clear hk3
  by_cases h2 : d.size < 2
  · have h2z : (d.size : Int) < 2 := by omega
    go_enter Tryd.func70, Tryd.ntmps70
    go_wp2
    go_ret
    obtain ⟨e1, e2⟩ := SAME.out w 0 #[] HST.out (fun j h3 h4 => by omega)
    exact ⟨by rw [e1]; rfl, e2⟩
  · have h2z : ¬ (d.size : Int) < 2 := by omega
    go_enter Tryd.func70, Tryd.ntmps70
    go_wp2
    go_loopg [5] d.size (fun g s5 wr => ∃ (k n : Nat) (os : Array Obj), 1 ≤ k ∧ k ≤ d.size ∧ d.size - k ≤ g ∧ s5 = .int .i64 k ∧ wr = sortWorldK encH 3 w blk off n d os ∧ Hid (∀ j, 0 < j → j < k → d[j]!.x ≠ d[j - 1]!.x))
    case atStart => exact ⟨1, 0, #[], Nat.le_refl _, by omega, by omega, rfl, HST.out, (show Hid _ from fun j h3 h4 => by omega)⟩
    case round =>
      obtain ⟨k, n, os, hk1, hk, hg, rfl, rfl, HA⟩ := hrel
      by_cases hlt : k < d.size
      · obtain ⟨kp, rfl⟩ : ∃ kp, k = kp + 1 := ⟨k - 1, by omega⟩
        have hltz : ((kp : Int) + 1) < (d.size : Int) := by omega
        have hltz1 : (kp : Int) < (d.size : Int) := by omega
        have hwp : IntKind.i64.wrap (kp : Int) = (kp : Int) := by rw [IntKind.wrap_i64]; omega
        have p0 : (0 : Int) ≤ (kp : Int) + 1 := by omega
        have e0 : ((kp : Int) + 1).toNat = kp + 1 := by omega
        obtain ⟨x1, hx1⟩ : ∃ x, d[kp + 1]! = x := ⟨_, rfl⟩
        obtain ⟨x0, hx0⟩ : ∃ x, d[kp]! = x := ⟨_, rfl⟩
        have hcls : ∀ n' os', grow ((sortWorldK encH 3 w blk off n d os).drewN n') os' = sortWorldK encH 3 w blk off (n + n') d (os ++ os') := fun n' os' => sortWorldK_grown_c encH 3 w blk off n n' d os os'
        have hHc : ∀ n' os', HoldsK encH 3 (grow ((sortWorldK encH 3 w blk off n d os).drewN n') os') blk off d := fun n' os' => by rw [hcls]; exact holdsK_sortWorldK_c encH 3 w blk off d d _ _ HH.out hblk rfl
        have l1 : ∀ n' os', Sem.run Tryd.prog (loadCellsFrom ⟨blk, off + (kp + 1) * k3, none⟩ 0 k3 #[]) (grow ((sortWorldK encH 3 w blk off n d os).drewN n') os') = .ok (encH x1).toArray (grow ((sortWorldK encH 3 w blk off n d os).drewN n') os') := fun n' os' => by
          rw [← hx1, HK.out]; exact run_loadCellsFrom_list Tryd.prog _ _ _ 3 (encH_len _) (HoldsK.cells (hHc n' os') encH_len (by omega))
        have l0 : ∀ n' os', Sem.run Tryd.prog (loadCellsFrom ⟨blk, off + kp * k3, none⟩ 0 k3 #[]) (grow ((sortWorldK encH 3 w blk off n d os).drewN n') os') = .ok (encH x0).toArray (grow ((sortWorldK encH 3 w blk off n d os).drewN n') os') := fun n' os' => by
          rw [← hx0, HK.out]; exact run_loadCellsFrom_list Tryd.prog _ _ _ 3 (encH_len _) (HoldsK.cells (hHc n' os') encH_len (by omega))
        have hcg : ∀ n' os', Calls Tryd.prog 71 #[.agg (encH x1).toArray, .agg (encH x0).toArray] (grow ((sortWorldK encH 3 w blk off n d os).drewN n') os') fun e w' => e = .returned (.bool (decide (x1.x = x0.x))) ∧ ∃ q os'', w' = grow ((grow ((sortWorldK encH 3 w blk off n d os).drewN n') os').drewN q) os'' := fun n' os' =>
          closureEq (.bool false) (.bool false) x1.u x1.v x0.u x0.v x1.x x0.x _
        have CLS : Hid _ := hcls
        clear hcls hHc
        generalize hwq : sortWorldK encH 3 w blk off n d os = wq at l1 l0 hcg CLS ⊢
        by_cases hdup : x1.x = x0.x
        · rw [decide_eq_true hdup] at hcg
          go_wp2_with fail
          go_quiet_grown (first | (go_at_fn 71; refine Calls.grown_of (hcg _ _)))
          go_wp2_with fail
          clear l1 l0 hcg
          have CLS2 : Hid (grow (wq.drewN nq) osq = sortWorldK encH 3 w blk off (n + nq) d (os ++ osq)) := CLS.out nq osq
          generalize grow (wq.drewN nq) osq = wq1 at CLS2 ⊢
          go_loopg [5, 7] d.size (fun g s5 s7 wr => ∃ (kk k2 m : Nat) (dk : Array HoleC) (oq : Array Obj), s5 = .int .i64 kk ∧ s7 = .int .i64 k2 ∧ 1 ≤ k2 ∧ kp + 1 + k2 ≤ d.size ∧ d.size - (kp + 1 + k2) ≤ g ∧ wr = sortWorldK encH 3 w blk off m dk oq ∧ Hid (CInv d (kp + 1 + k2) kk dk))
          case atStart =>
            refine ⟨kp + 1, 1, n + nq, d, os ++ osq, by first | rfl | go_num | (congr 1; omega), by first | rfl | go_num, Nat.le_refl _, by omega, by omega, CLS2.out, (show Hid _ from ?_)⟩
            exact CInv.start (by omega) (fun j h3 h4 => HA.out j h3 (by omega)) (by rw [hx1, hx0]; exact hdup)
          case round =>
            obtain ⟨kk, k2, m, dk, oq, rfl, rfl, hk21, hle, hg2, rfl, HI⟩ := hrel
            have hds := HI.out.size
            have hkk := HI.out.lt
            by_cases hlt2 : kp + 1 + k2 < d.size
            · obtain ⟨q, rfl⟩ : ∃ q, k2 = q + 1 := ⟨k2 - 1, by omega⟩
              have jz : ((q : Int) + 1) < ((d.size - (kp + 1) : Nat) : Int) := by omega
              have jz1 : (q : Int) < ((d.size - (kp + 1) : Nat) : Int) := by omega
              have hwq' : IntKind.i64.wrap (q : Int) = (q : Int) := by rw [IntKind.wrap_i64]; omega
              have p0' : (0 : Int) ≤ (q : Int) + 1 := by omega
              have e0' : ((q : Int) + 1).toNat = q + 1 := by omega
              have kz : (kk : Int) < (d.size : Int) := by omega
              obtain ⟨y1, hy1⟩ : ∃ x, d[kp + 1 + (q + 1)]! = x := ⟨_, rfl⟩
              obtain ⟨y0, hy0⟩ : ∃ x, d[kp + 1 + q]! = x := ⟨_, rfl⟩
              have hy1' : dk[kp + 1 + (q + 1)]! = y1 := by rw [HI.out.high _ (by omega)]; exact hy1
              have hy0' : dk[kp + 1 + q]! = y0 := by rw [HI.out.high _ (by omega)]; exact hy0
              have hcls : ∀ n' os', grow ((sortWorldK encH 3 w blk off m dk oq).drewN n') os' = sortWorldK encH 3 w blk off (m + n') dk (oq ++ os') := fun n' os' => sortWorldK_grown_c encH 3 w blk off m n' dk oq os'
              have hHc : ∀ n' os', HoldsK encH 3 (grow ((sortWorldK encH 3 w blk off m dk oq).drewN n') os') blk off dk := fun n' os' => by rw [hcls]; exact holdsK_sortWorldK_c encH 3 w blk off d dk _ _ HH.out hblk hds
              have l1 : ∀ n' os', Sem.run Tryd.prog (loadCellsFrom ⟨blk, off + (kp + 1) * k3 + (q + 1) * k3, none⟩ 0 k3 #[]) (grow ((sortWorldK encH 3 w blk off m dk oq).drewN n') os') = .ok (encH y1).toArray (grow ((sortWorldK encH 3 w blk off m dk oq).drewN n') os') := fun n' os' => by
                rw [← hy1', HK.out, show off + (kp + 1) * 3 + (q + 1) * 3 = off + (kp + 1 + (q + 1)) * 3 by omega]; exact run_loadCellsFrom_list Tryd.prog _ _ _ 3 (encH_len _) (HoldsK.cells (hHc n' os') encH_len (by omega))
              have l0 : ∀ n' os', Sem.run Tryd.prog (loadCellsFrom ⟨blk, off + (kp + 1) * k3 + q * k3, none⟩ 0 k3 #[]) (grow ((sortWorldK encH 3 w blk off m dk oq).drewN n') os') = .ok (encH y0).toArray (grow ((sortWorldK encH 3 w blk off m dk oq).drewN n') os') := fun n' os' => by
                rw [← hy0', HK.out, show off + (kp + 1) * 3 + q * 3 = off + (kp + 1 + q) * 3 by omega]; exact run_loadCellsFrom_list Tryd.prog _ _ _ 3 (encH_len _) (HoldsK.cells (hHc n' os') encH_len (by omega))
              have hcg : ∀ n' os', Calls Tryd.prog 71 #[.agg (encH y1).toArray, .agg (encH y0).toArray] (grow ((sortWorldK encH 3 w blk off m dk oq).drewN n') os') fun e w' => e = .returned (.bool (decide (y1.x = y0.x))) ∧ ∃ q os'', w' = grow ((grow ((sortWorldK encH 3 w blk off m dk oq).drewN n') os').drewN q) os'' := fun n' os' =>
                closureEq (.bool false) (.bool false) y1.u y1.v y0.u y0.v y1.x y0.x _
              have CL : Hid _ := hcls
              have HHC : Hid _ := hHc
              clear hcls hHc
              generalize hwq2 : sortWorldK encH 3 w blk off m dk oq = wq2 at l1 l0 hcg CL HHC ⊢
              by_cases hdup2 : y1.x = y0.x
              · rw [decide_eq_true hdup2] at hcg
                go_wp2_with fail
                go_quiet_grown (first | (go_at_fn 71; refine Calls.grown_of (hcg _ _)))
                go_wp2
                go_roundg (d.size - (kp + 1 + (q + 1 + 1)))
                case measure => omega
                case rel =>
                  refine ⟨kk, q + 1 + 1, _, dk, _, by first | rfl | go_num | (congr 1; omega), by first | rfl | go_num | (congr 1; omega), by omega, by omega, Nat.le_refl _, CL.out nq osq, (show Hid _ from ?_)⟩
                  exact CInv.skip (m := kp + 1 + q) HI.out (by omega) (by rw [show kp + 1 + q + 1 = kp + 1 + (q + 1) by omega, hy1, hy0]; exact hdup2)
              · rw [decide_eq_false hdup2] at hcg
                go_wp2_with fail
                go_quiet_grown (first | (go_at_fn 71; refine Calls.grown_of (hcg _ _)))
                have lj2 := l1 nq osq
                have hH3 : HoldsK encH 3 (grow (wq2.drewN nq) osq) blk off dk := HHC.out nq osq
                have hW3 : grow (wq2.drewN nq) osq = sortWorldK encH 3 w blk off (m + nq) dk (oq ++ osq) := CL.out nq osq
                have s1 : Sem.run Tryd.prog (storeCells ⟨blk, off + kk * k3, none⟩ (encH y1) 0) (grow (wq2.drewN nq) osq) = .ok () ((grow (wq2.drewN nq) osq).setCells blk (off + kk * k3) (encH y1)) := by
                  rw [HK.out]; exact stores_of_holds Tryd.prog hH3 (kk * 3) _ (by rw [encH_len, size_flatK]; omega) (encH_one y1)
                have hsJ : (encH y1).length = k3 := by rw [HK.out]; rfl
                have HW3 : Hid _ := hW3
                clear l1 l0 hcg hW3 hH3
                obtain ⟨cJ, hcJ⟩ : ∃ c, c = encH y1 := ⟨_, rfl⟩
                rw [← hcJ] at lj2 s1 hsJ
                generalize grow (wq2.drewN nq) osq = wq3 at lj2 s1 HW3 ⊢
                have HCJ : Hid _ := hcJ
                rw [← hcJ]
                clear hcJ
                go_wp2
                go_roundg (d.size - (kp + 1 + (q + 1 + 1)))
                case measure => omega
                case rel =>
                  refine ⟨kk + 1, q + 1 + 1, m + nq, dk.setIfInBounds kk y1, oq ++ osq, by first | rfl | go_num | (congr 1; omega), by first | rfl | go_num | (congr 1; omega), by omega, by omega, Nat.le_refl _, ?_, (show Hid _ from ?_)⟩
                  · rw [HCJ.out, HW3.out, HK.out]
                    exact sw_store w blk off (m + nq) dk (oq ++ osq) hblk kk y1 (by omega)
                  · have := CInv.keep (m := kp + 1 + q) HI.out (by omega) (by rw [show kp + 1 + q + 1 = kp + 1 + (q + 1) by omega, hy1, hy0]; exact hdup2)
                    rwa [show kp + 1 + q + 1 = kp + 1 + (q + 1) by omega, hy1] at this
            · have hend : kp + 1 + k2 = d.size := by omega
              have jz : ¬ (k2 : Int) < ((d.size - (kp + 1) : Nat) : Int) := by omega
              have hH3 : HoldsK encH 3 (sortWorldK encH 3 w blk off m dk oq) blk off dk := holdsK_sortWorldK_c encH 3 w blk off d dk _ _ HH.out hblk hds
              have s1 : Sem.run Tryd.prog (storeCells ⟨blk, off + kk * 3, none⟩ (zerosH (d.size - kk)) 0) (sortWorldK encH 3 w blk off m dk oq) = .ok () ((sortWorldK encH 3 w blk off m dk oq).setCells blk (off + kk * 3) (zerosH (d.size - kk))) :=
                stores_of_holds Tryd.prog hH3 (kk * 3) _ (by rw [zerosH_len, size_flatK]; omega) (zerosH_one _)
              have hcl : ∀ ty, (Builtin.clear_ #[93] ty #[.slice (some ⟨blk, off + kk * k3, none⟩) (d.size - kk) (cap - kk)]).run Tryd.prog (sortWorldK encH 3 w blk off m dk oq) = .ok (.tuple #[]) ((sortWorldK encH 3 w blk off m dk oq).setCells blk (off + kk * k3) (zerosH (d.size - kk))) := by
                intro ty
                rw [HK.out]
                exact run_clear_hole Tryd.underlying93 Tryd.zeroValue96 (by omega) s1
              clear s1 hH3
              generalize hwq2 : sortWorldK encH 3 w blk off m dk oq = wq2 at hcl ⊢
              go_wp2
              go_ret
              have hI := HI.out
              rw [hend] at hI
              have hlen := hI.len
              rw [keptC_all] at hlen
              refine ⟨by rw [hlen]; rfl, layZ dk kk (d.size - kk), by rw [layZ_size, hds], fun i hi => ?_, m, oq, ?_⟩
              · rw [layZ_low _ _ _ _ (by omega), ← keptC_all]
                exact hI.low i (by omega)
              · rw [← hwq2, HK.out]
                exact sw_zeros w blk off m oq hblk (d.size - kk) kk dk (by omega)
        · rw [decide_eq_false hdup] at hcg
          go_wp2_with fail
          go_quiet_grown (first | (go_at_fn 71; refine Calls.grown_of (hcg _ _)))
          go_wp2
          go_roundg (d.size - (kp + 1 + 1))
          case measure => omega
          case rel =>
            refine ⟨kp + 1 + 1, _, _, by omega, by omega, Nat.le_refl _, by first | rfl | go_num | (congr 1; omega), CLS.out nq osq, (show Hid _ from fun j hj1 hj2 => ?_)⟩
            by_cases e : j = kp + 1
            · subst e
              rw [Nat.add_sub_cancel, hx1, hx0]
              exact hdup
            · exact HA.out j hj1 (by omega)
      · have hek : k = d.size := by omega
        rw [hek] at HA ⊢
        have hltz : ¬ (d.size : Int) < (d.size : Int) := by omega
        go_wp2
        go_ret
        obtain ⟨e1, d', n', os', e2, e3, e4⟩ := SAME.out _ n os rfl HA.out
        exact ⟨by rw [e1]; rfl, d', e2, e3, n', os', e4⟩

theorem sort_row : RowC Tryd.prog 68 69 96 tyHole false sortF :=
  sort_row_of (enters_of Tryd.func68 (by kernel_rfl) rfl) (fun w => AnyF.slices_SortFunc_none Tryd.sortH none 0 _ w) (fun blk off cap d w h1 h2 h3 => sort_calls blk off cap d w h1 h2 h3)
theorem comp_row : RowC Tryd.prog 70 71 96 tyHole true compF :=
  comp_row_of (enters_of Tryd.func70 (by kernel_rfl) rfl) comp_none (fun blk off cap d w h1 h2 h3 h4 => comp_calls blk off cap d w h1 h2 h3 h4)
end Go.Proofs.YtcmfkmhmehhkpaaDoor
