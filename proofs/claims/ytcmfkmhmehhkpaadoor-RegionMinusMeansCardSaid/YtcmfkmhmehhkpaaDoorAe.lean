/- A part of the proof of a law of this seat (AiSort, AiComp, AiMeet2, AiSimple, AiIns, AiParts). -/
import Derived.Test.YtcmfkmhmehhkpaaDoorAc
import Derived.Test.YtcmfkmhmehhkpaaDoorAd
import Derived.Test.YtcmfkmhmehhkpaaDoorAb
import Derived.Shelf.SlSortCmp.NoneTotal
set_option linter.unusedVariables false
set_option linter.unusedSimpArgs false
namespace Go.Ai
open Go Go.Proofs Go.RowKit Go.Lib Go.Sort

/-! ### Rows of patterns with their texts: sorted, and without doubles -/
abbrev tyHole : Ty := .prod .str (.prod (.list .str) .bool)
abbrev Hol := ByteArray × Pat

/-- An element's cells, with the datum that they stand for. -/
structure HoleC where
  x : ByteArray
  u : Value
  v : Value
  hu : u.oneCell' = true
  hv : v.oneCell' = true
  p : Pat
def zeroH : HoleC := ⟨⟨#[]⟩, .slice none 0 0, .bool false, rfl, rfl, ([], false)⟩
instance : Inhabited HoleC := ⟨zeroH⟩
def encH (h : HoleC) : List Value := [.string h.x, h.u, h.v]
def cfH (a b : HoleC) : Int := Lib.compareBytes a.x.data.toList b.x.data.toList
def HoleC.dat (h : HoleC) : Hol := (h.x, h.p)
def leH (a b : Hol) : Bool := !ltB b.1.data.toList a.1.data.toList

theorem ltOf_cfH (a b : HoleC) : ltOf cfH a b = ltB a.x.data.toList b.x.data.toList := by
  unfold ltOf cfH
  exact ltB_cmp _ _
theorem swoH : SWO (ltOf cfH) where
  irrefl a := by rw [ltOf_cfH]; exact ltB_irrefl _
  trans a b c h1 h2 := by rw [ltOf_cfH] at *; exact ltB_trans _ _ _ h1 h2
  ntrans a b c h1 h2 := by rw [ltOf_cfH] at *; exact ltB_ntrans _ _ _ h1 h2
theorem encH_len (h : HoleC) : (encH h).length = 3 := rfl
theorem encH_one (h : HoleC) : ∀ v ∈ encH h, v.oneCell' = true := by
  intro v hv
  simp [encH] at hv
  rcases hv with rfl | rfl | rfl
  · rfl
  · exact h.hu
  · exact h.hv

open Classical in
noncomputable def sortF (xs : List Hol) : Option (List Hol) :=
  if xs.length < 4611686018427387904 ∧ (∀ a ∈ xs, ∀ b ∈ xs, a.1 = b.1 → a = b) then some (xs.mergeSort leH) else none
def compFrom : ByteArray → List Hol → List Hol
  | _, [] => []
  | p, b :: l => if b.1 = p then compFrom p l else b :: compFrom b.1 l
def compL : List Hol → List Hol
  | [] => []
  | a :: l => a :: compFrom a.1 l
def compF (xs : List Hol) : Option (List Hol) := some (compL xs)

/-- A datum is what the cells stand for. -/
def GoodH (w : World) (ok : Bool → Nat → Nat → Prop) (h : HoleC) : Prop := Rel w (okEnv ok) (.tl .str h.p.1) h.u ∧ Rel w (okEnv ok) (.bool h.p.2) h.v

theorem lt3 {j : Nat} (h : j < 3) : j = 0 ∨ j = 1 ∨ j = 2 := by omega

/-- The row, in elements. -/
theorem holes_of {w : World} {ok : Bool → Nat → Nat → Prop} {b cap e : Nat} {arr : Array Value} {xs : List Hol} (hh : w.heap[b]? = some (.cells arr e (0, 0))) (hn : xs.length ≤ cap) (hs : arr.size = cap * 3)
    (h1 : ∀ (i : Nat) (v : Value), i < xs.length * 3 → arr[i]? = some v → v.oneCell' = true)
    (hr : ∀ (i : Nat) (x : Hol) j c u, xs[i]? = some x → lget (emb tyHole x) j = some c → arr[i * 3 + j]? = some u → Rel w (okEnv ok) c u) :
    ∃ d : Array HoleC, d.size = xs.length ∧ d.toList.map HoleC.dat = xs ∧ HoldsK encH 3 w b 0 d ∧ ∀ h ∈ d.toList, GoodH w ok h := by
  have hex : ∀ i, i < xs.length → ∃ h : HoleC, some h.dat = xs[i]? ∧ (∀ j, j < 3 → arr[i * 3 + j]? = (encH h)[j]?) ∧ GoodH w ok h := by
    intro i hi
    have hb : ∀ j, j < 3 → i * 3 + j < arr.size := fun j hj => by omega
    have hx : xs[i]? = some xs[i] := List.getElem?_eq_getElem hi
    have e0 := hr i xs[i] 0 _ arr[i * 3 + 0] hx rfl (by simp [hb 0 (by omega)])
    have e1 := hr i xs[i] 1 _ arr[i * 3 + 1] hx rfl (by simp [hb 1 (by omega)])
    have e2 := hr i xs[i] 2 _ arr[i * 3 + 2] hx rfl (by simp [hb 2 (by omega)])
    refine ⟨⟨xs[i].1, arr[i * 3 + 1], arr[i * 3 + 2], h1 (i * 3 + 1) _ (by omega) (by simp [hb 1 (by omega)]), h1 (i * 3 + 2) _ (by omega) (by simp [hb 2 (by omega)]), xs[i].2⟩, hx.symm, fun j hj => ?_, e1, e2⟩
    generalize h0 : arr[i * 3 + 0] = v0 at e0
    cases e0
    rcases lt3 hj with rfl | rfl | rfl
    · rw [Array.getElem?_eq_getElem (hb 0 (by omega)), h0]; rfl
    · exact Array.getElem?_eq_getElem (hb 1 (by omega))
    · exact Array.getElem?_eq_getElem (hb 2 (by omega))
  let f : Fin xs.length → HoleC := fun i => Classical.choose (hex i.1 i.2)
  have hf : ∀ i : Fin xs.length, some (f i).dat = xs[i.1]? ∧ (∀ j, j < 3 → arr[i.1 * 3 + j]? = (encH (f i))[j]?) ∧ GoodH w ok (f i) := fun i => Classical.choose_spec (hex i.1 i.2)
  refine ⟨Array.ofFn f, by simp, ?_, ?_, ?_⟩
  · apply List.ext_getElem?
    intro i
    rw [List.getElem?_map, Array.getElem?_toList, Array.getElem?_ofFn]
    split
    · rename_i hi
      exact (hf ⟨i, hi⟩).1
    · rename_i hi
      rw [List.getElem?_eq_none (by omega)]
      rfl
  · intro t ht
    rw [size_flatK, Array.size_ofFn] at ht
    have e1 : t / 3 < xs.length := by omega
    rw [get_flatK _ _ _ _ (by rw [Array.size_ofFn]; exact ht)]
    have e2 : (Array.ofFn f)[t / 3]! = f ⟨t / 3, e1⟩ := by
      rw [getElem!_pos _ _ (by simpa using e1)]
      simp
    rw [e2]
    have e3 := (hf ⟨t / 3, e1⟩).2.1 (t % 3) (Nat.mod_lt _ (by omega))
    have e4 : t / 3 * 3 + t % 3 = t := by omega
    simp only [e4] at e3
    have e5 : t % 3 < (encH (f ⟨t / 3, e1⟩)).length := by rw [encH_len]; omega
    refine ⟨?_, ?_⟩
    · simp only [id, Nat.zero_add, World.cell?, hh]
      rw [e3, List.getElem?_eq_getElem e5, getElem!_pos (encH (f ⟨t / 3, e1⟩)) (t % 3) e5]
      rfl
    · simp [World.frozen?, hh]
  · intro h hm
    obtain ⟨i, hi, rfl⟩ := List.mem_iff_getElem.1 hm
    have hi' : i < xs.length := by simpa using hi
    have := (hf ⟨i, hi'⟩).2.2
    simpa using this

/-- What a world of the sort's is, to the row and to the rest. -/
theorem sortWorld_parts {w : World} {b e n : Nat} {arr : Array Value} {d : Array HoleC} {os : Array Obj} (hh : w.heap[b]? = some (.cells arr e (0, 0))) (hd : d.size * 3 ≤ arr.size) :
    ∃ arr', (sortWorldK encH 3 w b 0 n d os).heap[b]? = some (.cells arr' e (0, 0)) ∧ arr'.size = arr.size ∧ (∀ i j, i < d.size → j < 3 → arr'[i * 3 + j]? = (encH d[i]!)[j]?) ∧ (∀ i, d.size * 3 ≤ i → arr'[i]? = arr[i]?) ∧
      (∀ k, k < w.heap.size → k ≠ b → (sortWorldK encH 3 w b 0 n d os).heap[k]? = w.heap[k]?) ∧ w.heap.size ≤ (sortWorldK encH 3 w b 0 n d os).heap.size := by
  have hb : b < w.heap.size := (Array.getElem?_eq_some_iff.1 hh).1
  refine ⟨putCells id 0 (flatK encH 3 d) arr, ?_, by simp [putCells], fun i j (hi : i < d.size) (hj : j < 3) => ?_, fun i (hi : d.size * 3 ≤ i) => ?_, fun k hk hne => ?_, ?_⟩
  · unfold sortWorldK
    rw [heap_grow_old _ _ (by show b < (putRowK encH 3 _ b 0 d).heap.size; unfold putRowK; rw [Sort.size_putRow]; exact hb)]
    simp only [putRowK, putRow, mapBlock, Array.getElem?_modify, if_true, heap_ahead, hh, Option.map_some, onCells]
  · have hlt : i * 3 + j < d.size * 3 := by omega
    have hlt2 : i * 3 + j < arr.size := by omega
    simp only [putCells, Array.getElem?_mapIdx, Nat.zero_le, true_and, Nat.zero_add, size_flatK, hlt, if_true, Nat.sub_zero]
    rw [get_flatK _ _ _ _ hlt, show (i * 3 + j) / 3 = i by omega, show (i * 3 + j) % 3 = j by omega, Array.getElem?_eq_getElem hlt2, Option.map_some]
    have e5 : j < (encH d[i]!).length := by rw [encH_len]; exact hj
    rw [List.getElem?_eq_getElem e5, getElem!_pos (encH d[i]!) j e5]
    rfl
  · simp only [putCells, Array.getElem?_mapIdx, Nat.zero_le, true_and, Nat.zero_add, size_flatK]
    have hno : ¬ i < d.size * 3 := by omega
    simp only [hno, if_false]
    cases arr[i]? <;> rfl
  · unfold sortWorldK
    rw [heap_grow_old _ _ (by show k < (putRowK encH 3 _ b 0 d).heap.size; unfold putRowK; rw [Sort.size_putRow]; exact hk)]
    simp only [putRowK, putRow, mapBlock, Array.getElem?_modify, heap_ahead]
    rw [if_neg (Ne.symm hne)]
  · unfold sortWorldK
    rw [size_grow]
    show w.heap.size ≤ (putRowK encH 3 (Sort.ahead w n) b 0 d).heap.size + os.size
    unfold putRowK
    rw [Sort.size_putRow]
    exact Nat.le_add_right _ _

/-- Sorted data are told by their texts. -/
theorem sorted_data {d d' : Array HoleC} {xs : List Hol} (hx : d.toList.map HoleC.dat = xs) (hu : ∀ a ∈ xs, ∀ b ∈ xs, a.1 = b.1 → a = b) (hp : d'.toList.Perm d.toList) (hs : SortedIn (ltOf cfH) 0 d'.size d') :
    d'.toList.map HoleC.dat = xs.mergeSort leH := by
  have hp2 : (d'.toList.map HoleC.dat).Perm xs := hx ▸ hp.map _
  refine List.Perm.eq_of_pairwise (le := fun a b => leH a b = true) ?_ ?_ ?_ (hp2.trans (List.mergeSort_perm _ _).symm)
  · intro a b ha hb h1 h2
    have ha' := hp2.mem_iff.1 ha
    have hb' := (List.mergeSort_perm xs leH).mem_iff.1 hb
    refine hu a ha' b hb' ?_
    simp only [leH, Bool.not_eq_true'] at h1 h2
    have := ltB_total _ _ h1 h2
    obtain ⟨⟨⟨a1⟩⟩, a2⟩ := a
    obtain ⟨⟨⟨b1⟩⟩, b2⟩ := b
    simp at this ⊢
    exact this.symm
  · rw [List.pairwise_map, List.pairwise_iff_getElem]
    intro i j hi hj hij
    have hi' : i < d'.size := by simpa using hi
    have hj' : j < d'.size := by simpa using hj
    have := hs i j (Nat.zero_le _) hij hj'
    rw [ltOf_cfH, getElem!_pos d' i hi', getElem!_pos d' j hj'] at this
    simp only [leH, HoleC.dat, Array.getElem_toList, this]
    rfl
  · refine List.pairwise_mergeSort (le := leH) (fun a b c h1 h2 => ?_) (fun a b => ?_) xs
    · simp only [leH, Bool.not_eq_true'] at h1 h2 ⊢
      exact ltB_ntrans _ _ _ h2 h1
    · simp only [leH, Bool.or_eq_true, Bool.not_eq_true']
      cases h : ltB b.1.data.toList a.1.data.toList with
      | false => exact .inl rfl
      | true =>
        refine .inr ?_
        cases h2 : ltB a.1.data.toList b.1.data.toList with
        | false => rfl
        | true =>
          have := ltB_trans _ _ _ h h2
          rw [ltB_irrefl] at this
          cases this

/-- The elements of a row, in cells. -/
theorem row_cells_of {w' : World} {ok : Bool → Nat → Nat → Prop} {arr' : Array Value} {d' : Array HoleC} {ys : List Hol} (hl : ys.length ≤ d'.size) (hy : ∀ i, i < ys.length → ys[i]? = some d'[i]!.dat) (hg : ∀ i, i < ys.length → GoodH w' ok d'[i]!)
    (ha : ∀ i j, i < d'.size → j < 3 → arr'[i * 3 + j]? = (encH d'[i]!)[j]?) :
    (∀ (i : Nat) (v : Value), i < ys.length * 3 → arr'[i]? = some v → v.oneCell' = true) ∧
    ∀ (i : Nat) (x : Hol) j c u, ys[i]? = some x → lget (emb tyHole x) j = some c → arr'[i * 3 + j]? = some u → Rel w' (okEnv ok) c u := by
  constructor
  · intro i v hi hv
    have e : i / 3 * 3 + i % 3 = i := by omega
    have := ha (i / 3) (i % 3) (by omega) (Nat.mod_lt _ (by omega))
    rw [e, hv] at this
    exact encH_one _ v (List.mem_of_getElem? this.symm)
  · intro i x j c u hx hj hu
    have hi : i < ys.length := (List.getElem?_eq_some_iff.1 hx).1
    have hj3 : j < 3 := by have h9 := (List.getElem?_eq_some_iff.1 (lget_eq _ _ ▸ hj)).1; have h8 : (emb tyHole x).length = 3 := emb_length tyHole x; omega
    rw [ha i j (by omega) hj3] at hu
    rw [hy i hi] at hx
    cases hx
    obtain ⟨g1, g2⟩ := hg i hi
    rcases lt3 hj3 with rfl | rfl | rfl
    · cases hj; cases hu; exact .str _ _
    · cases hj; cases hu; exact g1
    · cases hj; cases hu; exact g2

theorem GoodH.mono {w w' : World} {ok : Bool → Nat → Nat → Prop} {h : HoleC} {b : Nat} (hg : GoodH w ok h) (hok : ∀ k o, ¬ ok k b o) (hokB : ∀ k b o, ok k b o → b < w.heap.size) (ho : ∀ k, k < w.heap.size → k ≠ b → w'.heap[k]? = w.heap[k]?) : GoodH w' ok h := by
  have m : Mono w (okEnv ok) w' (okEnv ok) := ⟨fun _ _ _ h => h, fun k b' o h => cell_other (ho b' (hokB _ _ _ h) (by rintro rfl; exact hok _ _ h)), fun _ h => h, fun _ h => h.elim, fun _ _ h => h.elim⟩
  exact ⟨hg.1.mono m, hg.2.mono m⟩

section
variable {P : Program} {g h e : Nat}
theorem sort_row_of (hent : ∀ args w, (callFunc g args).run P w = .ok (.enter g args) w) (hnone : ∀ w, Calls P g #[.slice none 0 0, .func (.func h) #[] #[]] w fun en w' => en = .returned (.tuple #[]) ∧ w' = w)
    (hsort : ∀ (blk off cap : Nat) (d : Array HoleC) (w : World), HoldsK encH 3 w blk off d → blk < w.heap.size → d.size < 4611686018427387904 →
      Calls P g #[.slice (some ⟨blk, off, none⟩) d.size cap, .func (.func h) #[] #[]] w fun e w' => e = .returned (.tuple #[]) ∧ ∃ d' n os, PermIn 0 d.size d d' ∧ SortedIn (ltOf cfH) 0 d.size d' ∧ w' = sortWorldK encH 3 w blk off n d' os) :
    RowC P g h e tyHole false sortF := by
  intro (xs : List Hol) ys hf
  unfold sortF at hf
  split at hf
  case isFalse => cases hf
  rename_i hc
  obtain ⟨hlen, huq⟩ := hc
  have hys : xs.mergeSort leH = ys := Option.some.inj hf
  subst hys
  have hl : (xs.mergeSort leH).length = xs.length := List.length_mergeSort _
  refine ⟨Nat.le_of_eq hl, hent, fun hx w => (hnone w).mono fun en w' h => ⟨h.1, by rw [h.2]; exact Below.refl _ _⟩, fun w ok b cap arr hh hn hm hs h1 hok hokB hr => ?_⟩
  obtain ⟨d, hd, hx, hH, hgood⟩ := holes_of (ok := ok) hh hn hs h1 hr
  have hb : b < w.heap.size := (Array.getElem?_eq_some_iff.1 hh).1
  have hcalls := hsort b 0 cap d w hH hb (by rw [hd]; exact hlen)
  rw [hd] at hcalls
  refine hcalls.mono fun en w' hq => ?_
  obtain ⟨rfl, d', n, os, hp, hsd, rfl⟩ := hq
  obtain ⟨hsz, _, hperm⟩ := hp
  have hsz' : d'.size = xs.length := hsz.trans hd
  have hperm' : d'.toList.Perm d.toList := by
    have e1 : d'.extract 0 xs.length = d' := by rw [← hsz']; exact Array.extract_size
    have e2 : d.extract 0 xs.length = d := by rw [← hd]; exact Array.extract_size
    rw [e1, e2] at hperm
    exact hperm
  have hdat : d'.toList.map HoleC.dat = xs.mergeSort leH := sorted_data hx huq hperm' (by rw [hsz']; exact hsd)
  obtain ⟨arr', p1, p2, p3, p4, p5, p6⟩ := sortWorld_parts (n := n) (os := os) (d := d') hh (by rw [hsz', hs]; exact Nat.mul_le_mul_right 3 hn)
  have key := row_cells_of (w' := sortWorldK encH 3 w b 0 n d' os) (ok := ok) (arr' := arr') (d' := d') (ys := xs.mergeSort leH) (by omega) (fun i hi => by
      rw [← hdat, List.getElem?_map, Array.getElem?_toList, getElem!_pos d' i (by omega), Array.getElem?_eq_getElem (by omega)]; rfl)
    (fun i hi => by
      refine (hgood _ (hperm'.mem_iff.1 ?_)).mono hok hokB p5
      rw [getElem!_pos d' i (by omega)]
      exact Array.getElem_mem_toList _) p3
  exact ⟨arr', rfl, rfl, rfl, rfl, p6, p5, p1, p2, key.1, key.2, fun _ i hi => p4 i (by
    have e9 : tyHole.sz = 3 := rfl
    rw [e9] at hi
    have e8 : List.length (α := tyHole.den) (xs.mergeSort leH) = xs.length := hl
    rw [e8] at hi
    rw [hsz']
    exact hi)⟩

/-- Neighbours with one text: the first one stays. -/
def compCFrom : ByteArray → List HoleC → List HoleC
  | _, [] => []
  | p, b :: l => if b.x = p then compCFrom p l else b :: compCFrom b.x l
def compC : List HoleC → List HoleC
  | [] => []
  | a :: l => a :: compCFrom a.x l
theorem compCFrom_dat : ∀ (l : List HoleC) (p : ByteArray), (compCFrom p l).map HoleC.dat = compFrom p (l.map HoleC.dat)
  | [], _ => rfl
  | b :: l, p => by
    simp only [compCFrom, List.map_cons, compFrom, HoleC.dat]
    split
    · exact compCFrom_dat l p
    · simp only [List.map_cons, HoleC.dat]
      congr 1
      exact compCFrom_dat l b.x
theorem compC_dat : ∀ (l : List HoleC), (compC l).map HoleC.dat = compL (l.map HoleC.dat)
  | [] => rfl
  | a :: l => by
    simp only [compC, List.map_cons, compL]
    congr 1
    exact compCFrom_dat l a.x
theorem compCFrom_sub : ∀ (l : List HoleC) (p : ByteArray), (compCFrom p l).Sublist l
  | [], _ => .slnil
  | b :: l, p => by
    simp only [compCFrom]
    split
    · exact (compCFrom_sub l p).cons _
    · exact (compCFrom_sub l b.x).cons_cons _
theorem compC_sub : ∀ (l : List HoleC), (compC l).Sublist l
  | [] => .slnil
  | a :: l => (compCFrom_sub l a.x).cons_cons _

theorem comp_row_of (hent : ∀ args w, (callFunc g args).run P w = .ok (.enter g args) w) (hnone : ∀ w, Calls P g #[.slice none 0 0, .func (.func h) #[] #[]] w fun en w' => en = .returned (.slice none 0 0) ∧ ∃ n os, w' = grow (Sort.ahead w n) os)
    (hcomp : ∀ (blk off cap : Nat) (d : Array HoleC) (w : World), HoldsK encH 3 w blk off d → blk < w.heap.size → d.size ≤ cap → cap ≤ maxLen →
      Calls P g #[.slice (some ⟨blk, off, none⟩) d.size cap, .func (.func h) #[] #[]] w fun e w' => e = .returned (.slice (some ⟨blk, off, none⟩) (compC d.toList).length cap) ∧
        ∃ d' n os, d'.size = d.size ∧ (∀ i, i < (compC d.toList).length → (compC d.toList)[i]? = some d'[i]!) ∧ w' = sortWorldK encH 3 w blk off n d' os) :
    RowC P g h e tyHole true compF := by
  intro (xs : List Hol) ys hf
  have hys : compL xs = ys := Option.some.inj hf
  subst hys
  have hle : (compL xs).length ≤ xs.length := by
    have : ∀ (l : List Hol) (p : ByteArray), (compFrom p l).length ≤ l.length := by
      intro l
      induction l with
      | nil => intro p; exact Nat.le_refl _
      | cons b l ih =>
        intro p
        simp only [compFrom]
        split
        · exact Nat.le_trans (ih p) (Nat.le_succ _)
        · simpa using ih b.1
    cases xs with
    | nil => exact Nat.le_refl _
    | cons a l => simpa [compL] using this l a.1
  refine ⟨hle, hent, fun hx w => (hnone w).mono fun en w' h => ?_, fun w ok b cap arr hh hn hm hs h1 hok hokB hr => ?_⟩
  · obtain ⟨rfl, n, os, rfl⟩ := h
    exact ⟨rfl, ⟨rfl, rfl, rfl, by simp, fun k hk => heap_grow_old _ _ (by simpa using hk)⟩⟩
  obtain ⟨d, hd, hx, hH, hgood⟩ := holes_of (ok := ok) hh hn hs h1 hr
  have hb : b < w.heap.size := (Array.getElem?_eq_some_iff.1 hh).1
  have hcalls := hcomp b 0 cap d w hH hb (by rw [hd]; exact hn) hm
  rw [hd] at hcalls
  have hlen : (compC d.toList).length = (compL xs).length := by rw [← hx, ← compC_dat, List.length_map]
  refine hcalls.mono fun en w' hq => ?_
  obtain ⟨rfl, d', n, os, hsz, hget, rfl⟩ := hq
  have hsz' : d'.size = xs.length := hsz
  obtain ⟨arr', p1, p2, p3, p4, p5, p6⟩ := sortWorld_parts (n := n) (os := os) (d := d') hh (by rw [hsz', hs]; exact Nat.mul_le_mul_right 3 hn)
  have key := row_cells_of (w' := sortWorldK encH 3 w b 0 n d' os) (ok := ok) (arr' := arr') (d' := d') (ys := compL xs) (by omega) (fun i hi => by
      rw [← hx, ← compC_dat, List.getElem?_map, hget i (by omega)]; rfl)
    (fun i hi => by
      have := hget i (by omega)
      exact (hgood _ ((compC_sub d.toList).subset (List.mem_of_getElem? this))).mono hok hokB p5) p3
  refine ⟨arr', ?_, rfl, rfl, rfl, p6, p5, p1, p2, key.1, key.2, fun h => by cases h⟩
  rw [hlen]
  rfl
end
end Go.Ai

set_option linter.unusedVariables false
set_option linter.unusedSimpArgs false
namespace Go.Ai
open Go Go.Proofs Go.RowKit Go.Lib Go.Sort

/-! ### The first of each run of neighbours with one text: place by place -/
def lastx : ByteArray → List HoleC → ByteArray
  | p, [] => p
  | _, b :: l => lastx b.x l

theorem compCFrom_one (p : ByteArray) (b : HoleC) (l : List HoleC) : compCFrom p (b :: l) = if b.x = p then compCFrom p l else b :: compCFrom b.x l := rfl
theorem compCFrom_snoc : ∀ (l : List HoleC) (p : ByteArray) (b : HoleC), compCFrom p (l ++ [b]) = compCFrom p l ++ (if b.x = lastx p l then [] else [b])
  | [], p, b => by
    have e : lastx p [] = p := rfl
    rw [e, List.nil_append, compCFrom_one]
    by_cases h : b.x = p <;> simp [h, compCFrom]
  | c :: l, p, b => by
    have e : lastx p (c :: l) = lastx c.x l := rfl
    have ih1 := compCFrom_snoc l p b
    have ih2 := compCFrom_snoc l c.x b
    rw [e, List.cons_append, compCFrom_one, compCFrom_one]
    by_cases h : c.x = p
    · rw [if_pos h, if_pos h, h, ih1]
    · rw [if_neg h, if_neg h, ih2]
      rfl

theorem lastx_take (d : Array HoleC) (a : HoleC) (l : List HoleC) (h : d.toList = a :: l) : ∀ m, m < l.length + 1 → lastx a.x (l.take m) = d[m]!.x := by
  have key : ∀ (l : List HoleC) (a : HoleC) (m : Nat), m < l.length + 1 → some (lastx a.x (l.take m)) = ((a :: l)[m]?).map HoleC.x := by
    intro l
    induction l with
    | nil =>
      intro a m hm
      have : m = 0 := by simpa using hm
      subst this
      rfl
    | cons c l ih =>
      intro a m hm
      cases m with
      | zero => rfl
      | succ m => simpa [lastx] using ih c m (by simpa using hm)
  intro m hm
  have h2 := key l a m hm
  rw [← h, Array.getElem?_toList] at h2
  have hlt : m < d.size := by rw [← Array.length_toList, h]; simpa using hm
  rw [Array.getElem?_eq_getElem hlt] at h2
  rw [getElem!_pos d m hlt]
  exact Option.some.inj h2

/-- What is kept of the first m. -/
def keptC (d : Array HoleC) (m : Nat) : List HoleC := compC (d.toList.take m)

theorem keptC_succ (d : Array HoleC) (m : Nat) (hm : m + 1 < d.size) : keptC d (m + 2) = keptC d (m + 1) ++ (if d[m + 1]!.x = d[m]!.x then [] else [d[m + 1]!]) := by
  unfold keptC
  cases h : d.toList with
  | nil => rw [← Array.length_toList, h] at hm; simp at hm
  | cons a l =>
    have hl : m < l.length := by rw [← Array.length_toList, h] at hm; simpa using hm
    simp only [List.take_succ_cons, compC]
    rw [List.take_succ_eq_append_getElem hl, compCFrom_snoc, lastx_take d a l h m (by omega)]
    have e : d[m + 1]! = l[m] := by
      rw [getElem!_pos d (m + 1) hm]
      have : d.toList[m + 1]? = some l[m] := by rw [h]; simp
      rw [Array.getElem?_toList, Array.getElem?_eq_getElem hm] at this
      exact Option.some.inj this
    rw [e]
    rfl

theorem keptC_all (d : Array HoleC) : keptC d d.size = compC d.toList := by
  unfold keptC
  rw [← Array.length_toList, List.take_length]

/-- While no two neighbours have one text all is kept. -/
theorem keptC_same (d : Array HoleC) : ∀ m, m < d.size → (∀ j, 0 < j → j ≤ m → d[j]!.x ≠ d[j - 1]!.x) → keptC d (m + 1) = d.toList.take (m + 1) := by
  intro m
  induction m with
  | zero =>
    intro hm _
    unfold keptC
    cases h : d.toList with
    | nil => rfl
    | cons a l => simp [compC, compCFrom]
  | succ m ih =>
    intro hm hall
    rw [keptC_succ d m hm, ih (by omega) (fun j h1 h2 => hall j h1 (by omega)), if_neg (show ¬ d[m + 1]!.x = d[m]!.x from hall (m + 1) (by omega) (Nat.le_refl _)), getElem!_pos d (m + 1) hm]
    have hm' : m + 1 < d.toList.length := by simpa using hm
    rw [List.take_succ_eq_append_getElem hm', Array.getElem_toList]

/-- m places have been looked at; what is kept of them lies at the row's head; the rest is as it was. -/
structure CInv (d : Array HoleC) (m k : Nat) (dk : Array HoleC) : Prop where
  size : dk.size = d.size
  len : (keptC d m).length = k
  lt : k < m
  low : ∀ j, j < k → (keptC d m)[j]? = some dk[j]!
  high : ∀ j, k ≤ j → dk[j]! = d[j]!

theorem get!_toList {d : Array HoleC} {j : Nat} (h : j < d.size) : d.toList[j]? = some d[j]! := by
  rw [Array.getElem?_toList, Array.getElem?_eq_getElem h, getElem!_pos d j h]

theorem CInv.start {d : Array HoleC} {m : Nat} (hm : m + 1 < d.size) (hall : ∀ j, 0 < j → j ≤ m → d[j]!.x ≠ d[j - 1]!.x) (hdup : d[m + 1]!.x = d[m]!.x) : CInv d (m + 2) (m + 1) d := by
  have e : keptC d (m + 2) = d.toList.take (m + 1) := by rw [keptC_succ d m hm, keptC_same d m (by omega) hall, if_pos hdup, List.append_nil]
  refine ⟨rfl, by rw [e]; simp; omega, by omega, fun j hj => ?_, fun _ _ => rfl⟩
  rw [e, List.getElem?_take, if_pos hj]
  exact get!_toList (by omega)

theorem CInv.skip {d dk : Array HoleC} {m k : Nat} (h : CInv d (m + 1) k dk) (hm : m + 1 < d.size) (hdup : d[m + 1]!.x = d[m]!.x) : CInv d (m + 2) k dk := by
  have e : keptC d (m + 2) = keptC d (m + 1) := by rw [keptC_succ d m hm, if_pos hdup, List.append_nil]
  exact ⟨h.size, by rw [e]; exact h.len, by have := h.lt; omega, fun j hj => by rw [e]; exact h.low j hj, h.high⟩

theorem CInv.keep {d dk : Array HoleC} {m k : Nat} (h : CInv d (m + 1) k dk) (hm : m + 1 < d.size) (hne : d[m + 1]!.x ≠ d[m]!.x) : CInv d (m + 2) (k + 1) (dk.setIfInBounds k d[m + 1]!) := by
  have hlt := h.lt
  have hs := h.size
  have e : keptC d (m + 2) = keptC d (m + 1) ++ [d[m + 1]!] := by rw [keptC_succ d m hm, if_neg hne]
  refine ⟨by simp [hs], by rw [e]; simp [h.len], by omega, fun j hj => ?_, fun j hj => ?_⟩
  · rw [e]
    by_cases ej : j = k
    · subst ej
      rw [List.getElem?_append_right (by rw [h.len]; exact Nat.le_refl _), h.len, Nat.sub_self, getElem!_set_same dk j _ (by omega)]
      rfl
    · rw [List.getElem?_append_left (by rw [h.len]; omega), h.low j (by omega), getElem!_set_other dk k j _ ej]
  · rw [getElem!_set_other dk k j _ (by omega), h.high j (by omega)]

/-! ### Stores of elements -/
theorem sw_store (w : World) (blk off m : Nat) (dk : Array HoleC) (os : Array Obj) (hblk : blk < w.heap.size) (i : Nat) (y : HoleC) (hi : i < dk.size) :
    (sortWorldK encH 3 w blk off m dk os).setCells blk (off + i * 3) (encH y) = sortWorldK encH 3 w blk off m (dk.setIfInBounds i y) os := by
  unfold sortWorldK
  rw [setCells_grow os blk _ _ _ (by show blk < (putRowK encH 3 _ blk off dk).heap.size; unfold putRowK; rw [Sort.size_putRow]; exact hblk)]
  congr 1
  unfold putRowK
  rw [setCells_putRow _ _ _ _ _ _ (by rw [encH_len, size_flatK]; omega)]
  congr 1
  apply Array.ext_getElem?
  intro t
  by_cases ht : t < dk.size * 3
  · have h1 : t < (setMany (flatK encH 3 dk) (i * 3) (encH y)).size := by rw [size_setMany, size_flatK]; exact ht
    have h2 : t < (flatK encH 3 (dk.setIfInBounds i y)).size := by rw [size_flatK]; simpa using ht
    rw [Array.getElem?_eq_getElem h1, Array.getElem?_eq_getElem h2, ← getElem!_pos (setMany (flatK encH 3 dk) (i * 3) (encH y)) t h1, ← getElem!_pos (flatK encH 3 (dk.setIfInBounds i y)) t h2]
    rw [get_setMany _ _ _ t (by rw [size_flatK]; exact ht), get_flatK _ _ _ _ ht, get_flatK _ _ _ _ (by simpa using ht)]
    rw [encH_len]
    by_cases e : t / 3 = i
    · rw [if_pos (by omega), e, getElem!_set_same dk i y hi, show t - i * 3 = t % 3 by omega]
    · rw [if_neg (by omega), getElem!_set_other dk i _ y e]
  · rw [Array.getElem?_eq_none (by rw [size_setMany, size_flatK]; omega), Array.getElem?_eq_none (by rw [size_flatK]; simp; omega)]

theorem zeroH_enc : encH zeroH = [.string ⟨#[]⟩, .slice none 0 0, .bool false] := rfl
def zerosH : Nat → List Value
  | 0 => []
  | n + 1 => encH zeroH ++ zerosH n
theorem zerosH_len : ∀ n, (zerosH n).length = n * 3
  | 0 => rfl
  | n + 1 => by simp only [zerosH, List.length_append, zerosH_len n, encH_len]; omega
def layZ (d : Array HoleC) : Nat → Nat → Array HoleC
  | _, 0 => d
  | i, n + 1 => layZ (d.setIfInBounds i zeroH) (i + 1) n
theorem layZ_size : ∀ (n i : Nat) (d : Array HoleC), (layZ d i n).size = d.size
  | 0, _, _ => rfl
  | n + 1, i, d => by rw [layZ, layZ_size n]; simp
theorem layZ_low : ∀ (n i : Nat) (d : Array HoleC) (j : Nat), j < i → (layZ d i n)[j]! = d[j]!
  | 0, _, _, _, _ => rfl
  | n + 1, i, d, j, h => by rw [layZ, layZ_low n (i + 1) _ j (by omega), getElem!_set_other d i j _ (by omega)]
theorem setCells_append (blk : Nat) : ∀ (xs ys : List Value) (w : World) (o : Nat), w.setCells blk o (xs ++ ys) = (w.setCells blk o xs).setCells blk (o + xs.length) ys
  | [], _, _, _ => rfl
  | x :: xs, ys, w, o => by
    simp only [List.cons_append, World.setCells, List.length_cons]
    rw [setCells_append blk xs ys, show o + 1 + xs.length = o + (xs.length + 1) by omega]
theorem sw_zeros (w : World) (blk off m : Nat) (os : Array Obj) (hblk : blk < w.heap.size) : ∀ (n i : Nat) (dk : Array HoleC), i + n ≤ dk.size →
    (sortWorldK encH 3 w blk off m dk os).setCells blk (off + i * 3) (zerosH n) = sortWorldK encH 3 w blk off m (layZ dk i n) os
  | 0, _, _, _ => rfl
  | n + 1, i, dk, h => by
    rw [zerosH, setCells_append, sw_store w blk off m dk os hblk i zeroH (by omega), encH_len, show off + i * 3 + 3 = off + (i + 1) * 3 by omega]
    exact sw_zeros w blk off m os hblk n (i + 1) _ (by simp; omega)
theorem zeroCells_eq : ∀ n, (Builtin.zeroCells #[.string ⟨#[]⟩, .slice none 0 0, .bool false] n).toList = zerosH n := by
  intro n
  apply List.ext_getElem?
  intro t
  have key : ∀ n t, t < n * 3 → (zerosH n)[t]? = (encH zeroH)[t % 3]? := by
    intro n
    induction n with
    | zero => intro t h; omega
    | succ n ih =>
      intro t h
      rw [zerosH, List.getElem?_append]
      split
      · rename_i hlt
        rw [encH_len] at hlt
        rw [Nat.mod_eq_of_lt hlt]
      · rename_i hge
        rw [encH_len] at hge ⊢
        rw [ih _ (by omega)]
        congr 1
        omega
  by_cases ht : t < n * 3
  · rw [key n t ht]
    simp only [Builtin.zeroCells, Array.getElem?_toList, Array.getElem?_map, Array.getElem?_range]
    have h3 : t % 3 < 3 := Nat.mod_lt _ (by omega)
    have e : (#[Value.string ⟨#[]⟩, Value.slice none 0 0, Value.bool false] : Array Value).size = 3 := rfl
    rw [e, if_pos ht, Option.map_some]
    rcases lt3 h3 with h | h | h <;> rw [h] <;> rfl
  · rw [List.getElem?_eq_none (by simp [Builtin.zeroCells]; omega), List.getElem?_eq_none (by rw [zerosH_len]; omega)]
theorem zerosH_one : ∀ n, ∀ v ∈ zerosH n, v.oneCell' = true
  | 0, v, h => by cases h
  | n + 1, v, h => by
    rcases List.mem_append.1 h with h | h
    · exact encH_one _ v h
    · exact zerosH_one n v h
theorem run_clear_hole {P : Program} {t e ty : TypeId} {b o n c : Nat} {W W' : World} (ht : P.underlying t = some (.slice e)) (hv : ∀ w, (zeroValue e).run P w = .ok (.agg #[.string ⟨#[]⟩, .slice none 0 0, .bool false]) w) (hn : 0 < n)
    (hs : Sem.run P (storeCells ⟨b, o, none⟩ (zerosH n) 0) W = .ok () W') : (Builtin.clear_ #[t] ty #[.slice (some ⟨b, o, none⟩) n c]).run P W = .ok (.tuple #[]) W' := by
  obtain ⟨m, rfl⟩ : ∃ m, n = m + 1 := ⟨n - 1, by omega⟩
  have hz := zeroCells_eq (m + 1)
  simp [Builtin.clear_, run_underlying ht, hv, Value.cells, hz, hs]
end Go.Ai

set_option linter.unusedSimpArgs false
set_option linter.unusedVariables false
set_option maxRecDepth 100000
namespace Go.Ai
open Go Go.RowKit

/-! ### Parts within parts -/
theorem star_bts {s : ByteArray} {t : List UInt8} (h : star? (bts s) = some t) : bts s = 42 :: t := (star_all h).1
theorem pInside_antisymm {a b : ByteArray} (h1 : pInside a b = true) (h2 : pInside b a = true) : a = b := by
  unfold pInside at h1 h2
  cases hb : star? (bts b) with
  | none => rw [hb] at h1; simpa using h1
  | some t =>
    cases ha : star? (bts a) with
    | none => rw [ha] at h2; exact (by simpa using h2 : b = a).symm
    | some s =>
      rw [ha, hb] at h1 h2
      simp only [decide_eq_true_eq] at h1 h2
      have : s = t := h2.eq_of_length (Nat.le_antisymm h2.length_le h1.length_le)
      exact bts_inj (by rw [star_bts ha, star_bts hb, this])
theorem pInside_trans {a b c : ByteArray} (h1 : pInside a b = true) (h2 : pInside b c = true) : pInside a c = true := by
  unfold pInside at h1 h2 ⊢
  cases hc : star? (bts c) with
  | none =>
    rw [hc] at h2
    have e : b = c := by simpa using h2
    subst e
    rw [hc] at h1
    exact h1
  | some t =>
    rw [hc] at h2
    cases hb : star? (bts b) with
    | none =>
      rw [hb] at h1 h2
      have e : a = b := by simpa using h1
      subst e
      simp only
      rw [hb]
      exact h2
    | some s =>
      rw [hb] at h1 h2
      simp only [decide_eq_true_eq] at h1 h2 ⊢
      cases ha : star? (bts a) with
      | none =>
        rw [ha] at h1
        simp only at h1 ⊢
        rw [capt_isSome] at h1 ⊢
        obtain ⟨x, hx, e⟩ := h1
        obtain ⟨y, hy⟩ := h2
        exact ⟨x ++ y, by simp [hx], by rw [e, ← hy, List.append_assoc]⟩
      | some r =>
        rw [ha] at h1
        simp only [decide_eq_true_eq] at h1 ⊢
        exact h2.trans h1

theorem narrow_comm (a b : ByteArray) : narrow a b = narrow b a := by
  unfold narrow
  by_cases h1 : pInside a b = true
  · by_cases h2 : pInside b a = true
    · rw [pInside_antisymm h1 h2]
    · rw [if_pos h1, if_neg h2, if_pos h1]
  · by_cases h2 : pInside b a = true
    · rw [if_neg h1, if_pos h2, if_pos h2]
    · rw [if_neg h1, if_neg h2, if_neg h2, if_neg h1]
theorem narrow_self (a : ByteArray) : narrow a a = some a := narrow_eq.2 (pInside_refl a)
/-- What both say lies within both. -/
theorem narrow_in {a b c : ByteArray} (h : narrow a b = some c) : pInside c a = true ∧ pInside c b = true := by
  unfold narrow at h
  split at h
  · cases h
    exact ⟨pInside_refl _, by assumption⟩
  · split at h
    · cases h
      exact ⟨by assumption, pInside_refl _⟩
    · cases h
/-- It is the widest that does. -/
theorem narrow_max {a b c d : ByteArray} (h : narrow a b = some c) (h1 : pInside d a = true) (h2 : pInside d b = true) : pInside d c = true := by
  rcases narrow_some h with rfl | rfl
  · exact h1
  · exact h2
theorem narrow_mt {a b c w : ByteArray} (h : narrow a b = some c) : mt c w = true ↔ mt a w = true ∧ mt b w = true := by
  obtain ⟨h1, h2⟩ := narrow_in h
  refine ⟨fun hw => ⟨pInside_mt h1 hw, pInside_mt h2 hw⟩, fun hw => ?_⟩
  rcases narrow_some h with rfl | rfl
  · exact hw.1
  · exact hw.2
theorem narrow_none {a b w : ByteArray} (h : narrow a b = none) (hw : compB w = true) (h1 : mt a w = true) (h2 : mt b w = true) : False := by
  have key : ∀ {a b : ByteArray}, mt a w = true → mt b w = true → star? (bts a) = none → pInside a b = true := by
    intro a b h1 h2 ha
    rw [mt_lit ha, decide_eq_true_eq] at h1
    rw [← h1, pInside_word hw]
    exact h2
  unfold narrow at h
  split at h
  · cases h
  · rename_i n1
    split at h
    · cases h
    · rename_i n2
      cases ha : star? (bts a) with
      | none => exact n1 (key h1 h2 ha)
      | some s =>
        cases hb : star? (bts b) with
        | none => exact n2 (key h2 h1 hb)
        | some t =>
          rw [mt_star ha, capt_isSome] at h1
          rw [mt_star hb, capt_isSome] at h2
          obtain ⟨x, _, e1⟩ := h1
          obtain ⟨y, _, e2⟩ := h2
          have s1 : s <:+ bts w := ⟨x, e1.symm⟩
          have s2 : t <:+ bts w := ⟨y, e2.symm⟩
          rcases List.suffix_or_suffix_of_suffix s1 s2 with h | h
          · exact n2 (by unfold pInside; rw [ha, hb]; simpa using h)
          · exact n1 (by unfold pInside; rw [ha, hb]; simpa using h)
theorem narrow_star {a : ByteArray} (h : isPart (bts a) = true) : narrow a starB = some a ∧ narrow starB a = some a := by
  have : narrow a starB = some a := narrow_eq.2 (pInside_star h)
  exact ⟨this, by rw [narrow_comm]; exact this⟩

/-! ### The intersection of two patterns, place by place -/
/-- There is a number of words that is right for both. -/
def fitsP (p q : Pat) : Prop := (p.1.length < q.1.length → p.2 = true) ∧ (q.1.length < p.1.length → q.2 = true) ∧ (p.1.length = q.1.length → p.2 = q.2)
theorem fitsP.symm {p q : Pat} (h : fitsP p q) : fitsP q p := ⟨h.2.1, h.1, fun e => (h.2.2 e.symm).symm⟩
theorem lenOK_iff {p : Pat} {n : Nat} : lenOK p n = true ↔ if p.2 = true then p.1.length < n else n = p.1.length := by
  unfold lenOK
  split <;> simp
theorem fitsP_of {p q : Pat} {n : Nat} (h1 : lenOK p n = true) (h2 : lenOK q n = true) : fitsP p q := by
  rw [lenOK_iff] at h1 h2
  unfold fitsP
  cases hp : p.2 <;> cases hq : q.2 <;> rw [hp] at h1 <;> rw [hq] at h2 <;> simp at h1 h2 ⊢ <;> omega

theorem meetL_get : ∀ {l m r : List ByteArray}, meetL l m = some r → ∀ i (h : i < l.length) (h' : i < m.length), r[i]? = narrow l[i] m[i]
  | [], _, _, _, i, h, _ => by simp at h
  | _ :: _, [], _, h, _, _, _ => by cases h
  | a :: l, b :: m, r, h, i, hi, hi' => by
    simp only [meetL, Option.bind_eq_some_iff, Option.map_eq_some_iff] at h
    obtain ⟨c, hc, r', hr, rfl⟩ := h
    cases i with
    | zero => simp [hc]
    | succ i => simpa using meetL_get hr i (by simpa using hi) (by simpa using hi')
theorem meetL_some : ∀ {l m : List ByteArray}, l.length ≤ m.length → (∀ i (h : i < l.length) (h' : i < m.length), (narrow l[i] m[i]).isSome = true) → ∃ r, meetL l m = some r
  | [], _, _, _ => ⟨[], rfl⟩
  | _ :: _, [], h, _ => by simp at h
  | a :: l, b :: m, h, hn => by
    have h0 := hn 0 (by simp) (by simp)
    obtain ⟨c, hc⟩ := Option.isSome_iff_exists.1 h0
    obtain ⟨r, hr⟩ := meetL_some (l := l) (m := m) (by simpa using h) (fun i hi hi' => hn (i + 1) (by simpa using hi) (by simpa using hi'))
    simp only [List.getElem_cons_zero] at hc
    exact ⟨c :: r, by simp only [meetL, hc, hr, Option.bind_some, Option.map_some]⟩

theorem ptAt_in {p : Pat} {i : Nat} (h : i < p.1.length) : ptAt p i = p.1[i] := by unfold ptAt; rw [List.getElem?_eq_getElem h]; rfl
theorem ptAt_out {p : Pat} {i : Nat} (h : p.1.length ≤ i) : ptAt p i = starB := by unfold ptAt; rw [List.getElem?_eq_none h]; rfl
theorem pat_ext {p q : Pat} (h1 : p.1.length = q.1.length) (h2 : p.2 = q.2) (h : ∀ i, i < p.1.length → ptAt p i = ptAt q i) : p = q := by
  have : p.1 = q.1 := by
    apply List.ext_getElem h1
    intro i hi hi'
    have := h i hi
    rwa [ptAt_in hi, ptAt_in hi'] at this
  exact Prod.ext this h2

/-- What the intersection is. -/
structure MeetIs (p q m : Pat) : Prop where
  ep : patErr p = 0
  eq : patErr q = 0
  fit : fitsP p q
  len : m.1.length = max p.1.length q.1.length
  rest : m.2 = (p.2 && q.2)
  at_ : ∀ i, narrow (ptAt p i) (ptAt q i) = some (ptAt m i)

theorem meetS_is {p q m : Pat} (ep : patErr p = 0) (eq : patErr q = 0) (hle : p.1.length ≤ q.1.length) (h : meetS p q = some m) : MeetIs p q m := by
  unfold meetS at h
  split at h
  · cases h
  rename_i c1
  split at h
  · cases h
  rename_i c2
  obtain ⟨r, hr, rfl⟩ := Option.map_eq_some_iff.1 h
  have hl := meetL_length hr
  have hfit : fitsP p q := by
    refine ⟨fun hlt => ?_, fun hlt => by omega, fun he => ?_⟩
    · cases hp : p.2 with
      | true => rfl
      | false => exact absurd ⟨hlt, hp⟩ c1
    · exact Decidable.byContradiction fun hn => c2 ⟨he, hn⟩
  refine ⟨ep, eq, hfit, by simp; omega, ?_, fun i => ?_⟩
  · show q.2 = _
    rcases Nat.lt_or_eq_of_le hle with hlt | he
    · rw [hfit.1 hlt, Bool.true_and]
    · rw [hfit.2.2 he, Bool.and_self]
  · by_cases hi : i < p.1.length
    · rw [ptAt_in hi, ptAt_in (show i < q.1.length by omega)]
      have := meetL_get hr i hi (by omega)
      rw [← this]
      unfold ptAt
      rw [List.getElem?_append_left (by omega), List.getElem?_eq_getElem (show i < r.length by omega)]
      rfl
    · rw [ptAt_out (show p.1.length ≤ i by omega)]
      have e : ptAt (r ++ q.1.drop p.1.length, q.2) i = ptAt q i := by
        unfold ptAt
        simp only
        rw [List.getElem?_append_right (by omega), List.getElem?_drop, hl.1]
        congr 2
        omega
      rw [e]
      exact (narrow_star (ptAt_part eq i)).2

theorem MeetIs.symm {p q m : Pat} (h : MeetIs p q m) : MeetIs q p m :=
  ⟨h.eq, h.ep, h.fit.symm, by rw [h.len, Nat.max_comm], by rw [h.rest, Bool.and_comm], fun i => by rw [narrow_comm]; exact h.at_ i⟩
theorem MeetIs.uniq {p q m m' : Pat} (h : MeetIs p q m) (h' : MeetIs p q m') : m = m' :=
  pat_ext (by rw [h.len, h'.len]) (by rw [h.rest, h'.rest]) fun i _ => by
    have := h.at_ i
    rw [h'.at_ i] at this
    exact (Option.some.inj this).symm

theorem meetP_is {p q m : Pat} (h : meetP p q = some m) : MeetIs p q m := by
  unfold meetP at h
  split at h
  · cases h
  rename_i hc
  have ep : patErr p = 0 := Decidable.byContradiction fun hn => hc (.inl hn)
  have eq : patErr q = 0 := Decidable.byContradiction fun hn => hc (.inr hn)
  split at h
  · rename_i hlt
    exact (meetS_is eq ep (by omega) h).symm
  · rename_i hge
    exact meetS_is ep eq (by omega) h

theorem meetS_exists {p q : Pat} (hle : p.1.length ≤ q.1.length) (hf : fitsP p q) (hn : ∀ i, (narrow (ptAt p i) (ptAt q i)).isSome = true) : ∃ m, meetS p q = some m := by
  unfold meetS
  rw [if_neg (by rintro ⟨h1, h2⟩; rw [hf.1 h1] at h2; cases h2), if_neg (by rintro ⟨h1, h2⟩; exact h2 (hf.2.2 h1))]
  obtain ⟨r, hr⟩ := meetL_some hle (fun i hi hi' => by have := hn i; rwa [ptAt_in hi, ptAt_in hi'] at this)
  rw [hr]
  exact ⟨_, rfl⟩
theorem meetP_exists {p q : Pat} (ep : patErr p = 0) (eq : patErr q = 0) (hf : fitsP p q) (hn : ∀ i, (narrow (ptAt p i) (ptAt q i)).isSome = true) : ∃ m, meetP p q = some m := by
  unfold meetP
  rw [if_neg (by rintro (h | h) <;> contradiction)]
  split
  · exact meetS_exists (by omega) hf.symm fun i => by rw [narrow_comm]; exact hn i
  · exact meetS_exists (by omega) hf hn
theorem meetP_iff {p q m : Pat} : meetP p q = some m ↔ MeetIs p q m := by
  refine ⟨meetP_is, fun h => ?_⟩
  obtain ⟨m', h'⟩ := meetP_exists h.ep h.eq h.fit fun i => by rw [h.at_ i]; rfl
  rw [h', (meetP_is h').uniq h]
theorem meetP_comm (p q : Pat) : meetP p q = meetP q p := by
  cases h : meetP p q with
  | some m => exact ((meetP_iff.2 (meetP_iff.1 h).symm)).symm
  | none =>
    cases h' : meetP q p with
    | none => rfl
    | some m => rw [meetP_iff.2 (meetP_iff.1 h').symm] at h; cases h

/-- The intersection is a pattern. -/
theorem MeetIs.err {p q m : Pat} (h : MeetIs p q m) : patErr m = 0 := by
  obtain ⟨p1, p2, p3, p4⟩ := patErr_zero.1 h.ep
  obtain ⟨q1, q2, q3, q4⟩ := patErr_zero.1 h.eq
  have hl := h.len
  refine patErr_zero.2 ⟨by omega, fun h1 => ?_, ?_, by omega⟩
  · rw [h.rest]
    have e1 : p.1.length = 1 := by omega
    have e2 : q.1.length = 1 := by omega
    rw [p2 e1, q2 e2]
    rfl
  · have hpart : ∀ i, i < m.1.length → isPart (bts (ptAt m i)) = true := fun i _ => narrow_part (ptAt_part h.ep i) (ptAt_part h.eq i) (h.at_ i)
    have h0 : comp (bts (ptAt m 0)) = true := by
      have c1 : comp (bts (ptAt p 0)) = true := by
        cases hp : p.1 with
        | nil => rw [hp] at p1; exact absurd rfl p1
        | cons a l =>
          have e : ptAt p 0 = a := by unfold ptAt; rw [hp]; rfl
          rw [hp] at p3; simp only [shapeOK, Bool.and_eq_true] at p3; rw [e]; exact p3.1
      have c2 : comp (bts (ptAt q 0)) = true := by
        cases hq : q.1 with
        | nil => rw [hq] at q1; exact absurd rfl q1
        | cons a l =>
          have e : ptAt q 0 = a := by unfold ptAt; rw [hq]; rfl
          rw [hq] at q3; simp only [shapeOK, Bool.and_eq_true] at q3; rw [e]; exact q3.1
      rcases narrow_some (h.at_ 0) with e | e
      · rw [e]; exact c1
      · rw [e]; exact c2
    cases hm : m.1 with
    | nil => rfl
    | cons a l =>
      simp only [shapeOK, Bool.and_eq_true, List.all_eq_true]
      have e0 : ptAt m 0 = a := by unfold ptAt; rw [hm]; rfl
      refine ⟨by rw [← e0]; exact h0, fun x hx => ?_⟩
      obtain ⟨i, hi, rfl⟩ := List.mem_iff_getElem.1 hx
      have e1 : ptAt m (i + 1) = l[i] := by unfold ptAt; rw [hm]; simp [hi]
      rw [← e1]
      exact hpart (i + 1) (by rw [hm]; simpa using hi)

theorem MeetIs.lenOK {p q m : Pat} (h : MeetIs p q m) (n : Nat) : lenOK m n = true ↔ lenOK p n = true ∧ lenOK q n = true := by
  obtain ⟨f1, f2, f3⟩ := h.fit
  have hl := h.len
  rw [lenOK_iff, lenOK_iff, lenOK_iff, h.rest]
  cases hp : p.2 <;> cases hq : q.2 <;> rw [hp] at f1 f3 <;> rw [hq] at f2 f3 <;> simp at f1 f2 f3 ⊢ <;> omega

/-- Its paths are those of both. -/
theorem MeetIs.pm {p q m : Pat} {ws : List ByteArray} (h : MeetIs p q m) (hc : ws.all compB = true) : pm m ws = true ↔ pm p ws = true ∧ pm q ws = true := by
  rw [pm_at h.err hc, pm_at h.ep hc, pm_at h.eq hc, h.lenOK]
  constructor
  · rintro ⟨⟨h1, h2⟩, h3⟩
    exact ⟨⟨h1, fun i w hw => ((narrow_mt (h.at_ i)).1 (h3 i w hw)).1⟩, h2, fun i w hw => ((narrow_mt (h.at_ i)).1 (h3 i w hw)).2⟩
  · rintro ⟨⟨h1, h2⟩, h3, h4⟩
    exact ⟨⟨h1, h3⟩, fun i w hw => (narrow_mt (h.at_ i)).2 ⟨h2 i w hw, h4 i w hw⟩⟩
theorem pm_err {p : Pat} {ws : List ByteArray} (h : pm p ws = true) : patErr p = 0 := by
  unfold Go.Ai.pm at h
  obtain ⟨c, hc⟩ := Option.isSome_iff_exists.1 h
  exact (mwords_some hc).1
theorem meetP_none {p q : Pat} {ws : List ByteArray} (h : meetP p q = none) (hc : ws.all compB = true) (h1 : pm p ws = true) (h2 : pm q ws = true) : False := by
  have ep := pm_err h1
  have eq := pm_err h2
  obtain ⟨l1, a1⟩ := (pm_at ep hc).1 h1
  obtain ⟨l2, a2⟩ := (pm_at eq hc).1 h2
  have hn : ∀ i, (narrow (ptAt p i) (ptAt q i)).isSome = true := by
    intro i
    by_cases hi : i < ws.length
    · cases hnn : narrow (ptAt p i) (ptAt q i) with
      | some c => rfl
      | none =>
        have hw : ws[i]? = some ws[i] := List.getElem?_eq_getElem hi
        exact (narrow_none hnn (List.all_eq_true.1 hc _ (List.getElem_mem hi)) (a1 i _ hw) (a2 i _ hw)).elim
    · rw [ptAt_out (show p.1.length ≤ i by have := lenOK_le l1; omega), ptAt_out (show q.1.length ≤ i by have := lenOK_le l2; omega), narrow_self]
      rfl
  obtain ⟨m, hm⟩ := meetP_exists ep eq (fitsP_of l1 l2) hn
  rw [h] at hm
  cases hm

/-! ### Patterns within patterns -/
structure WithinIs (p q : Pat) : Prop where
  ep : patErr p = 0
  eq : patErr q = 0
  len : q.1.length ≤ p.1.length
  exact' : q.2 = false → p.2 = false ∧ p.1.length = q.1.length
  rest : p.1.length = q.1.length → p.2 = q.2
  at_ : ∀ i, pInside (ptAt p i) (ptAt q i) = true
theorem withinP_iff {p q : Pat} : withinP p q = true ↔ WithinIs p q := by
  unfold withinP
  rw [decide_eq_true_eq, meetP_iff]
  constructor
  · intro h
    have hl := h.len
    refine ⟨h.ep, h.eq, by omega, fun hq => ?_, fun he => h.fit.2.2 he, fun i => narrow_eq.1 (h.at_ i)⟩
    have hr := h.rest
    rw [hq, Bool.and_false] at hr
    refine ⟨hr, ?_⟩
    rcases Nat.lt_or_eq_of_le (show q.1.length ≤ p.1.length by omega) with hlt | he
    · have := h.fit.2.1 hlt
      rw [hq] at this; cases this
    · exact he.symm
  · intro h
    have hl := h.len
    refine ⟨h.ep, h.eq, ⟨fun hlt => by omega, fun hlt => ?_, h.rest⟩, by omega, ?_, fun i => narrow_eq.2 (h.at_ i)⟩
    · cases hq : q.2 with
      | true => rfl
      | false => have := (h.exact' hq).2; omega
    · cases hq : q.2 with
      | true => rw [Bool.and_true]
      | false => rw [(h.exact' hq).1]; rfl
theorem WithinIs.refl {p : Pat} (h : patErr p = 0) : WithinIs p p := ⟨h, h, Nat.le_refl _, fun h => ⟨h, rfl⟩, fun _ => rfl, fun i => pInside_refl _⟩
theorem withinP_refl {p : Pat} (h : patErr p = 0) : withinP p p = true := withinP_iff.2 (.refl h)
theorem WithinIs.trans {p q r : Pat} (h : WithinIs p q) (h' : WithinIs q r) : WithinIs p r := by
  have l1 := h.len
  have l2 := h'.len
  refine ⟨h.ep, h'.eq, by omega, fun hr => ?_, fun he => ?_, fun i => pInside_trans (h.at_ i) (h'.at_ i)⟩
  · obtain ⟨a, b⟩ := h'.exact' hr
    obtain ⟨c, d⟩ := h.exact' a
    exact ⟨c, by omega⟩
  · exact (h.rest (by omega)).trans (h'.rest (by omega))
theorem withinP_trans {p q r : Pat} (h : withinP p q = true) (h' : withinP q r = true) : withinP p r = true := withinP_iff.2 ((withinP_iff.1 h).trans (withinP_iff.1 h'))
theorem withinP_antisymm {p q : Pat} (h : withinP p q = true) (h' : withinP q p = true) : p = q := by
  unfold withinP at h h'
  rw [decide_eq_true_eq] at h h'
  rw [meetP_comm, h'] at h
  exact (Option.some.inj h).symm
theorem withinP_pm {p q : Pat} {ws : List ByteArray} (h : withinP p q = true) (hc : ws.all compB = true) (hp : pm p ws = true) : pm q ws = true := by
  unfold withinP at h
  rw [decide_eq_true_eq] at h
  exact (((meetP_is h).pm hc).1 hp).2
/-- The intersection lies within both, and is the widest that does. -/
theorem MeetIs.within {p q m : Pat} (h : MeetIs p q m) : withinP m p = true ∧ withinP m q = true := by
  have key : ∀ {p q : Pat}, MeetIs p q m → WithinIs m p := by
    intro p q h
    have hl := h.len
    refine ⟨h.err, h.ep, by omega, fun hp => ?_, fun he => ?_, fun i => (narrow_in (h.at_ i)).1⟩
    · have hr := h.rest
      rw [hp, Bool.false_and] at hr
      refine ⟨hr, ?_⟩
      rcases Nat.lt_or_ge p.1.length q.1.length with hlt | hge
      · have := h.fit.1 hlt; rw [hp] at this; cases this
      · omega
    · rw [h.rest]
      rcases Nat.lt_or_eq_of_le (show q.1.length ≤ p.1.length by omega) with hlt | he'
      · rw [h.fit.2.1 hlt, Bool.and_true]
      · rw [← h.fit.2.2 he'.symm, Bool.and_self]
  exact ⟨withinP_iff.2 (key h), withinP_iff.2 (key h.symm)⟩
theorem meet_within {p q r : Pat} (h1 : withinP r p = true) (h2 : withinP r q = true) : ∃ m, meetP p q = some m ∧ withinP r m = true := by
  have a := withinP_iff.1 h1
  have b := withinP_iff.1 h2
  have la := a.len
  have lb := b.len
  have hf : fitsP p q := by
    refine ⟨fun hlt => ?_, fun hlt => ?_, fun he => ?_⟩
    · cases hp : p.2 with
      | true => rfl
      | false => have := (a.exact' hp).2; omega
    · cases hq : q.2 with
      | true => rfl
      | false => have := (b.exact' hq).2; omega
    · cases hp : p.2 with
      | false =>
        have := a.exact' hp
        rw [← b.rest (by omega), this.1]
      | true =>
        cases hq : q.2 with
        | true => rfl
        | false =>
          have := b.exact' hq
          rw [← a.rest (by omega), this.1] at hp
          cases hp
  have hn : ∀ i, (narrow (ptAt p i) (ptAt q i)).isSome = true := by
    intro i
    have x := a.at_ i
    have y := b.at_ i
    have key : ∀ {u v r : ByteArray}, pInside r u = true → pInside r v = true → (narrow u v).isSome = true := by
      intro u v r x y
      unfold narrow
      by_cases h1 : pInside u v = true
      · rw [if_pos h1]; rfl
      by_cases h2 : pInside v u = true
      · rw [if_neg h1, if_pos h2]; rfl
      exfalso
      unfold pInside at x y h1 h2
      cases hu : star? (bts u) with
      | none =>
        rw [hu] at x h2
        have e : r = u := by simpa using x
        subst e
        exact h1 y
      | some s =>
        cases hv : star? (bts v) with
        | none =>
          rw [hv] at y h1
          have e : r = v := by simpa using y
          subst e
          exact h2 x
        | some t =>
          rw [hu] at x h2
          rw [hv] at y h1
          rw [hu] at h1
          rw [hv] at h2
          simp only [decide_eq_true_eq] at x y h1 h2
          have s1 : s <:+ bts r := by
            cases hr : star? (bts r) with
            | none =>
              rw [hr] at x
              obtain ⟨z, _, e⟩ := capt_isSome.1 x
              exact ⟨z, e.symm⟩
            | some z =>
              rw [hr] at x
              simp only [decide_eq_true_eq] at x
              rw [star_bts hr]
              exact x.trans (List.suffix_cons _ _)
          have s2 : t <:+ bts r := by
            cases hr : star? (bts r) with
            | none =>
              rw [hr] at y
              obtain ⟨z, _, e⟩ := capt_isSome.1 y
              exact ⟨z, e.symm⟩
            | some z =>
              rw [hr] at y
              simp only [decide_eq_true_eq] at y
              rw [star_bts hr]
              exact y.trans (List.suffix_cons _ _)
          rcases List.suffix_or_suffix_of_suffix s1 s2 with h | h
          · exact h2 h
          · exact h1 h
    exact key x y
  obtain ⟨m, hm⟩ := meetP_exists a.eq b.eq hf hn
  refine ⟨m, hm, withinP_iff.2 ?_⟩
  have hm' := meetP_is hm
  have hl := hm'.len
  refine ⟨a.ep, hm'.err, by omega, fun hr => ?_, fun he => ?_, fun i => narrow_max (hm'.at_ i) (a.at_ i) (b.at_ i)⟩
  · rw [hm'.rest, Bool.and_eq_false_iff] at hr
    rcases hr with hr | hr
    · have := a.exact' hr; exact ⟨this.1, by omega⟩
    · have := b.exact' hr; exact ⟨this.1, by omega⟩
  · rw [hm'.rest]
    rcases Nat.lt_or_ge p.1.length q.1.length with hlt | hge
    · rw [hf.1 hlt, Bool.true_and]; exact b.rest (by omega)
    · rcases Nat.lt_or_eq_of_le hge with hlt | he'
      · rw [hf.2.1 hlt, Bool.and_true]; exact a.rest (by omega)
      · rw [← hf.2.2 he'.symm, Bool.and_self]; exact a.rest (by omega)
end Go.Ai

set_option linter.unusedSimpArgs false
set_option linter.unusedVariables false
set_option maxRecDepth 100000
namespace Go.Ai
open Go Go.RowKit

/-! ### The text of a pattern -/
def dotsL : List UInt8 := [46, 46, 46]
abbrev dotsB : ByteArray := ofB dotsL
def textL (p : Pat) : List ByteArray := p.1 ++ if p.2 = true then [dotsB] else []
def textP (p : Pat) : ByteArray := pathText (textL p)

theorem isPart_slash {s : ByteArray} (h : isPart (bts s) = true) : (47 : UInt8) ∉ bts s := by
  unfold isPart at h
  cases hs : star? (bts s) with
  | none =>
    rw [hs] at h
    exact comp_slash (by simpa using h)
  | some t =>
    obtain ⟨e, ha⟩ := star_all hs
    rw [e]
    intro hm
    rcases List.mem_cons.1 hm with h1 | h1
    · exact absurd h1 (by decide)
    · have := List.all_eq_true.1 ha 47 h1
      rw [okByte_slash] at this
      cases this
theorem isPart_dots : isPart (bts dotsB) = false := by decide
theorem textL_slash {p : Pat} (h : patErr p = 0) : ∀ w ∈ (textL p).map bts, (47 : UInt8) ∉ w := by
  intro w hw
  obtain ⟨x, hx, rfl⟩ := List.mem_map.1 hw
  rcases List.mem_append.1 hx with hx | hx
  · exact isPart_slash (shapeOK_parts (patErr_zero.1 h).2.2.1 x hx)
  · split at hx
    · have : x = dotsB := by simpa using hx
      subst this
      decide
    · cases hx
theorem textL_ne {p : Pat} (h : patErr p = 0) : textL p ≠ [] := by
  intro he
  have := (patErr_zero.1 h).1
  unfold textL at he
  have h2 := (List.append_eq_nil_iff.1 he).1
  rw [h2] at this
  exact this rfl
theorem textL_inj {p q : Pat} (hp : patErr p = 0) (hq : patErr q = 0) (h : textL p = textL q) : p = q := by
  have key : ∀ {p q : Pat}, patErr q = 0 → textL p = textL q → p.2 = true → q.2 = true := by
    intro p q hq h hp2
    cases hq2 : q.2 with
    | true => rfl
    | false =>
      unfold textL at h
      rw [hp2, hq2] at h
      simp only [if_true, Bool.false_eq_true, if_false, List.append_nil] at h
      have hm : dotsB ∈ q.1 := by rw [← h]; simp
      have := shapeOK_parts (patErr_zero.1 hq).2.2.1 _ hm
      rw [isPart_dots] at this
      cases this
  have e2 : p.2 = q.2 := by
    cases h1 : p.2 with
    | true => exact (key hq h h1).symm
    | false =>
      cases h2 : q.2 with
      | false => rfl
      | true => rw [key hp h.symm h2] at h1; cases h1
  have e1 : p.1 = q.1 := by
    unfold textL at h
    rw [e2] at h
    exact List.append_cancel_right h
  exact Prod.ext e1 e2
theorem map_bts_inj : ∀ {l m : List ByteArray}, l.map bts = m.map bts → l = m
  | [], [], _ => rfl
  | [], _ :: _, h => by cases h
  | _ :: _, [], h => by cases h
  | a :: l, b :: m, h => by
    simp only [List.map_cons, List.cons.injEq] at h
    rw [bts_inj h.1, map_bts_inj h.2]
theorem textP_inj {p q : Pat} (hp : patErr p = 0) (hq : patErr q = 0) (h : textP p = textP q) : p = q := by
  unfold textP pathText at h
  have h1 := ofB_inj h
  simp only [List.cons.injEq, true_and] at h1
  have e1 := cutAt_joinAt 47 (by simpa using textL_ne hp) (textL_slash hp)
  have e2 := cutAt_joinAt 47 (by simpa using textL_ne hq) (textL_slash hq)
  rw [h1, e2] at e1
  exact textL_inj hp hq (map_bts_inj e1.symm)

/-! ### The holes that meet the base, by text -/
def metL (base : Pat) (hs : List Pat) : List Pat := hs.filterMap (meetP base)
def holL (l : List Pat) : List Hol := l.map fun m => (textP m, m)
def sortL (l : List Pat) : List Pat := ((holL l).mergeSort leH).map Prod.snd
def uniqL (l : List Pat) : List Pat := (compL ((holL l).mergeSort leH)).map Prod.snd
def keepB (l : List Pat) (h : Pat) : Bool := l.all fun k => decide (k = h) || !withinP h k
def simpleL (base : Pat) (hs : List Pat) : List Pat := (uniqL (metL base hs)).filter (keepB (uniqL (metL base hs)))
/-- The region of the base without the holes, simplified. -/
def simpleG (base : Pat) (hs : List Pat) : Reg := (base, simpleL base hs)

theorem metL_mem {base : Pat} {hs : List Pat} {m : Pat} : m ∈ metL base hs ↔ ∃ h ∈ hs, meetP base h = some m := by simp [metL, List.mem_filterMap]
theorem metL_err {base : Pat} {hs : List Pat} {m : Pat} (h : m ∈ metL base hs) : patErr m = 0 := by
  obtain ⟨x, _, hx⟩ := metL_mem.1 h
  exact (meetP_is hx).err
theorem metL_length (base : Pat) (hs : List Pat) : (metL base hs).length ≤ hs.length := List.length_filterMap_le _ _

theorem leH_trans (a b c : Hol) (h1 : leH a b = true) (h2 : leH b c = true) : leH a c = true := by
  simp only [leH, Bool.not_eq_true'] at h1 h2 ⊢
  exact ltB_ntrans _ _ _ h2 h1
theorem leH_total (a b : Hol) : (leH a b || leH b a) = true := by
  simp only [leH, Bool.or_eq_true, Bool.not_eq_true']
  cases h : ltB b.1.data.toList a.1.data.toList with
  | false => exact .inl rfl
  | true =>
    refine .inr ?_
    cases h2 : ltB a.1.data.toList b.1.data.toList with
    | false => rfl
    | true =>
      have := ltB_trans _ _ _ h h2
      rw [ltB_irrefl] at this
      cases this
theorem leH_antisymm {a b : Hol} (h1 : leH a b = true) (h2 : leH b a = true) : a.1 = b.1 := by
  simp only [leH, Bool.not_eq_true'] at h1 h2
  exact (bts_inj (ltB_total _ _ h1 h2)).symm

/-- All texts are those of the patterns, which are patterns. -/
def okH (l : List Hol) : Prop := ∀ a ∈ l, a.1 = textP a.2 ∧ patErr a.2 = 0
theorem okH.eq {l : List Hol} (h : okH l) {a b : Hol} (ha : a ∈ l) (hb : b ∈ l) (e : a.1 = b.1) : a = b := by
  obtain ⟨a1, a2⟩ := h a ha
  obtain ⟨b1, b2⟩ := h b hb
  have : a.2 = b.2 := textP_inj a2 b2 (by rw [← a1, ← b1, e])
  exact Prod.ext e this
theorem holL_ok {l : List Pat} (h : ∀ m ∈ l, patErr m = 0) : okH (holL l) := by
  intro a ha
  obtain ⟨m, hm, rfl⟩ := List.mem_map.1 ha
  exact ⟨rfl, h m hm⟩
theorem sort_mem {l : List Hol} {a : Hol} : a ∈ l.mergeSort leH ↔ a ∈ l := (List.mergeSort_perm l leH).mem_iff
theorem sort_sorted (l : List Hol) : (l.mergeSort leH).Pairwise fun a b => leH a b = true := List.pairwise_mergeSort leH_trans leH_total l

/-- Texts that rise strictly. -/
def ltH (a b : Hol) : Prop := ltB (bts a.1) (bts b.1) = true
theorem ltH_of {a b : Hol} (h : leH a b = true) (hne : a.1 ≠ b.1) : ltH a b := by
  unfold ltH
  simp only [leH, Bool.not_eq_true'] at h
  cases h2 : ltB (bts a.1) (bts b.1) with
  | true => rfl
  | false => exact absurd (bts_inj (ltB_total _ _ h2 h)) hne
theorem ltH_le {a b : Hol} (h : ltH a b) : leH a b = true := by
  unfold ltH at h
  simp only [leH, Bool.not_eq_true']
  cases h2 : ltB b.1.data.toList a.1.data.toList with
  | false => rfl
  | true =>
    have := ltB_trans _ _ _ h h2
    rw [ltB_irrefl] at this
    cases this
theorem ltH_irrefl {a b : Hol} (h : ltH a b) : a.1 ≠ b.1 := by
  intro e
  unfold ltH at h
  rw [e, ltB_irrefl] at h
  cases h

theorem compFrom_spec : ∀ (l : List Hol) (p : Hol), (p :: l).Pairwise (fun a b => leH a b = true) →
    (compFrom p.1 l).Pairwise ltH ∧ (∀ a ∈ compFrom p.1 l, ltH p a) ∧ (∀ a ∈ compFrom p.1 l, a ∈ l) ∧ ∀ a ∈ l, a.1 = p.1 ∨ ∃ b ∈ compFrom p.1 l, b.1 = a.1
  | [], p, _ => by simp [compFrom]
  | b :: l, p, h => by
    rw [List.pairwise_cons] at h
    obtain ⟨h1, h2⟩ := h
    unfold compFrom
    split
    · rename_i e
      have hp : (p :: l).Pairwise (fun a b => leH a b = true) := by
        rw [List.pairwise_cons]
        exact ⟨fun a ha => h1 a (List.mem_cons_of_mem _ ha), (List.pairwise_cons.1 h2).2⟩
      obtain ⟨c1, c2, c3, c4⟩ := compFrom_spec l p hp
      refine ⟨c1, c2, fun a ha => List.mem_cons_of_mem _ (c3 a ha), fun a ha => ?_⟩
      rcases List.mem_cons.1 ha with rfl | ha
      · exact .inl e
      · exact c4 a ha
    · rename_i e
      obtain ⟨c1, c2, c3, c4⟩ := compFrom_spec l b h2
      have hpb : ltH p b := ltH_of (h1 b (List.mem_cons_self ..)) (Ne.symm e)
      refine ⟨List.pairwise_cons.2 ⟨c2, c1⟩, fun a ha => ?_, fun a ha => ?_, fun a ha => ?_⟩
      · rcases List.mem_cons.1 ha with rfl | ha
        · exact hpb
        · unfold ltH at hpb ⊢
          exact ltB_trans _ _ _ hpb (c2 a ha)
      · rcases List.mem_cons.1 ha with rfl | ha
        · exact List.mem_cons_self ..
        · exact List.mem_cons_of_mem _ (c3 a ha)
      · rcases List.mem_cons.1 ha with rfl | ha
        · exact .inr ⟨_, List.mem_cons_self .., rfl⟩
        · rcases c4 a ha with e2 | ⟨x, hx, e2⟩
          · exact .inr ⟨b, List.mem_cons_self .., e2.symm⟩
          · exact .inr ⟨x, List.mem_cons_of_mem _ hx, e2⟩

theorem compL_spec {l : List Hol} (h : l.Pairwise fun a b => leH a b = true) : (compL l).Pairwise ltH ∧ (∀ a ∈ compL l, a ∈ l) ∧ ∀ a ∈ l, ∃ b ∈ compL l, b.1 = a.1 := by
  cases l with
  | nil => simp [compL]
  | cons p l =>
    obtain ⟨c1, c2, c3, c4⟩ := compFrom_spec l p h
    refine ⟨List.pairwise_cons.2 ⟨c2, c1⟩, fun a ha => ?_, fun a ha => ?_⟩
    · rcases List.mem_cons.1 ha with rfl | ha
      · exact List.mem_cons_self ..
      · exact List.mem_cons_of_mem _ (c3 a ha)
    · rcases List.mem_cons.1 ha with rfl | ha
      · exact ⟨_, List.mem_cons_self .., rfl⟩
      · rcases c4 a ha with e2 | ⟨x, hx, e2⟩
        · exact ⟨p, List.mem_cons_self .., e2.symm⟩
        · exact ⟨x, List.mem_cons_of_mem _ hx, e2⟩

theorem uniq_pairs_mem {l : List Pat} (hl : ∀ m ∈ l, patErr m = 0) {a : Hol} : a ∈ compL ((holL l).mergeSort leH) ↔ a ∈ holL l := by
  obtain ⟨_, c2, c3⟩ := compL_spec (sort_sorted (holL l))
  constructor
  · intro h; exact sort_mem.1 (c2 a h)
  · intro h
    obtain ⟨b, hb, e⟩ := c3 a (sort_mem.2 h)
    have := (holL_ok hl).eq (sort_mem.1 (c2 b hb)) h e
    rw [← this]
    exact hb
theorem uniqL_mem {l : List Pat} (hl : ∀ m ∈ l, patErr m = 0) {m : Pat} : m ∈ uniqL l ↔ m ∈ l := by
  unfold uniqL
  constructor
  · intro h
    obtain ⟨a, ha, rfl⟩ := List.mem_map.1 h
    obtain ⟨x, hx, rfl⟩ := List.mem_map.1 ((uniq_pairs_mem hl).1 ha)
    exact hx
  · intro h
    exact List.mem_map.2 ⟨(textP m, m), (uniq_pairs_mem hl).2 (List.mem_map.2 ⟨m, h, rfl⟩), rfl⟩
/-- By text, rising. -/
def ltP (p q : Pat) : Prop := ltB (bts (textP p)) (bts (textP q)) = true
theorem ltP_irrefl (p : Pat) : ¬ ltP p p := by unfold ltP; rw [ltB_irrefl]; simp
theorem ltP_trans {p q r : Pat} (h1 : ltP p q) (h2 : ltP q r) : ltP p r := ltB_trans _ _ _ h1 h2
theorem uniqL_sorted {l : List Pat} (hl : ∀ m ∈ l, patErr m = 0) : (uniqL l).Pairwise ltP := by
  obtain ⟨c1, c2, _⟩ := compL_spec (sort_sorted (holL l))
  unfold uniqL
  rw [List.pairwise_map]
  refine c1.imp_of_mem fun {a b} ha hb h => ?_
  have ok := holL_ok hl
  have e1 := (ok a (sort_mem.1 (c2 a ha))).1
  have e2 := (ok b (sort_mem.1 (c2 b hb))).1
  unfold ltH at h
  unfold ltP
  rw [← e1, ← e2]
  exact h
/-- Lists that rise by text are told by their members. -/
theorem sorted_uniq {l m : List Pat} (hl : l.Pairwise ltP) (hm : m.Pairwise ltP) (h : ∀ x, x ∈ l ↔ x ∈ m) : l = m := by
  have hp : l.Perm m := by
    have nd : ∀ {l : List Pat}, l.Pairwise ltP → l.Nodup := fun h => h.imp fun {a b} hab e => by subst e; exact ltP_irrefl _ hab
    exact (List.perm_ext_iff_of_nodup (nd hl) (nd hm)).2 h
  refine List.Perm.eq_of_pairwise (le := ltP) (fun a b _ _ h1 h2 => absurd (ltP_trans h1 h2) (ltP_irrefl a)) hl hm hp
theorem uniqL_congr {l m : List Pat} (hl : ∀ x ∈ l, patErr x = 0) (hm : ∀ x ∈ m, patErr x = 0) (h : ∀ x, x ∈ l ↔ x ∈ m) : uniqL l = uniqL m :=
  sorted_uniq (uniqL_sorted hl) (uniqL_sorted hm) fun x => by rw [uniqL_mem hl, uniqL_mem hm, h]
/-- What remains is told by what meets the base. -/
theorem simpleL_congr {base : Pat} {hs hs' : List Pat} (h : ∀ m, m ∈ metL base hs ↔ m ∈ metL base hs') : simpleL base hs = simpleL base hs' := by
  unfold simpleL
  rw [uniqL_congr (fun _ => metL_err) (fun _ => metL_err) h]

theorem keepB_iff {l : List Pat} {h : Pat} : keepB l h = true ↔ ∀ k ∈ l, withinP h k = true → k = h := by
  unfold keepB
  rw [List.all_eq_true]
  refine forall_congr' fun k => forall_congr' fun _ => ?_
  cases withinP h k <;> simp
theorem simpleL_mem {base : Pat} {hs : List Pat} {h : Pat} : h ∈ simpleL base hs ↔ h ∈ metL base hs ∧ ∀ k ∈ metL base hs, withinP h k = true → k = h := by
  have hm : ∀ x, x ∈ uniqL (metL base hs) ↔ x ∈ metL base hs := fun x => uniqL_mem fun _ => metL_err
  unfold simpleL
  rw [List.mem_filter, hm, keepB_iff]
  simp only [hm]
theorem simpleL_sorted (base : Pat) (hs : List Pat) : (simpleL base hs).Pairwise ltP := (uniqL_sorted fun _ => metL_err).filter _
theorem simpleL_sub {base : Pat} {hs : List Pat} {h : Pat} (hh : h ∈ simpleL base hs) : h ∈ metL base hs := (simpleL_mem.1 hh).1
theorem simpleL_err {base : Pat} {hs : List Pat} {h : Pat} (hh : h ∈ simpleL base hs) : patErr h = 0 := metL_err (simpleL_sub hh)
theorem simpleL_within {base : Pat} {hs : List Pat} {h : Pat} (hh : h ∈ simpleL base hs) : withinP h base = true := by
  obtain ⟨x, _, hx⟩ := metL_mem.1 (simpleL_sub hh)
  exact (meetP_is hx).within.1
theorem without_lt {m : List Pat} {a : Pat} (h : a ∈ m) : (m.filter fun x => decide (x ≠ a)).length < m.length :=
  List.length_filter_lt_length_iff_exists.2 ⟨a, h, by simp⟩
theorem nodup_length {l m : List Pat} (hl : l.Nodup) (h : ∀ x ∈ l, x ∈ m) : l.length ≤ m.length := by
  induction l generalizing m with
  | nil => simp
  | cons a l ih =>
    have ham := h a (List.mem_cons_self ..)
    have hl' := List.nodup_cons.1 hl
    have := ih (m := m.filter fun x => decide (x ≠ a)) hl'.2 (fun x hx => List.mem_filter.2 ⟨h x (List.mem_cons_of_mem _ hx), by simp; rintro rfl; exact hl'.1 hx⟩)
    have := without_lt ham
    simp
    omega
theorem simpleL_length (base : Pat) (hs : List Pat) : (simpleL base hs).length ≤ hs.length := by
  have nd : (simpleL base hs).Nodup := (simpleL_sorted base hs).imp fun {a b} hab e => by subst e; exact ltP_irrefl _ hab
  exact Nat.le_trans (nodup_length nd fun x hx => simpleL_sub hx) (metL_length base hs)

/-- What lies within something lies within something that is kept. -/
theorem max_above {l : List Pat} (hl : ∀ x ∈ l, patErr x = 0) : ∀ (n : Nat) (m : List Pat) (h : Pat), m.length = n → (∀ x ∈ m, x ∈ l) → (∀ x ∈ l, withinP h x = true → x ∈ m) → h ∈ l → ∃ k ∈ l, withinP h k = true ∧ ∀ x ∈ l, withinP k x = true → x = k := by
  intro n
  induction n using Nat.strongRecOn with
  | _ n ih =>
    intro m h hn hsub hin hh
    by_cases hk : ∀ x ∈ l, withinP h x = true → x = h
    · exact ⟨h, hh, withinP_refl (hl h hh), hk⟩
    · have : ∃ x, x ∈ l ∧ withinP h x = true ∧ x ≠ h := Classical.byContradiction fun hc => hk fun x hx hw => Classical.byContradiction fun hne => hc ⟨x, hx, hw, hne⟩
      obtain ⟨x, hx, hw, hne⟩ := this
      have hhm : h ∈ m := hin h hh (withinP_refl (hl h hh))
      have hlt : (m.filter fun y => decide (y ≠ h)).length < n := by have := without_lt hhm; omega
      obtain ⟨k, hk1, hk2, hk3⟩ := ih _ hlt (m.filter fun y => decide (y ≠ h)) x rfl (fun y hy => hsub y (List.mem_filter.1 hy).1) (fun y hy hwy => by
        refine List.mem_filter.2 ⟨hin y hy (withinP_trans hw hwy), ?_⟩
        simp only [decide_eq_true_eq]
        rintro rfl
        exact hne (withinP_antisymm hwy hw)) hx
      exact ⟨k, hk1, withinP_trans hw hk2, hk3⟩
theorem simpleL_above {base : Pat} {hs : List Pat} {m : Pat} (hm : m ∈ metL base hs) : ∃ k ∈ simpleL base hs, withinP m k = true := by
  obtain ⟨k, h1, h2, h3⟩ := max_above (fun x => metL_err) _ (metL base hs) m rfl (fun _ h => h) (fun x hx _ => hx) hm
  exact ⟨k, simpleL_mem.2 ⟨h1, h3⟩, h2⟩

/-- A simplified region has the same paths. -/
theorem simpleG_hasW (base : Pat) (hs : List Pat) {ws : List ByteArray} (hc : ws.all compB = true) : hasW (simpleG base hs) ws = hasW (base, hs) ws := by
  unfold hasW simpleG
  simp only
  cases hb : pm base ws with
  | false => simp
  | true =>
    simp only [Bool.true_and]
    congr 1
    rw [Bool.eq_iff_iff, List.any_eq_true, List.any_eq_true]
    constructor
    · rintro ⟨h, hh, hp⟩
      obtain ⟨x, hx, hm⟩ := metL_mem.1 (simpleL_sub hh)
      exact ⟨x, hx, (((meetP_is hm).pm hc).1 hp).2⟩
    · rintro ⟨h, hh, hp⟩
      cases hm : meetP base h with
      | none => exact (meetP_none hm hc hb hp).elim
      | some m =>
        obtain ⟨k, hk, hw⟩ := simpleL_above (metL_mem.2 ⟨h, hh, hm⟩)
        exact ⟨k, hk, withinP_pm hw hc (((meetP_is hm).pm hc).2 ⟨hb, hp⟩)⟩

/-- It stays as it is when it is simplified again. -/
theorem meet_of_within {p q : Pat} (h : withinP p q = true) : meetP q p = some p := by
  unfold withinP at h
  rw [decide_eq_true_eq] at h
  rw [meetP_comm]
  exact h
theorem simpleL_again (base : Pat) (hs : List Pat) : simpleL base (simpleL base hs) = simpleL base hs := by
  refine sorted_uniq (simpleL_sorted _ _) (simpleL_sorted _ _) fun x => ?_
  have hm : ∀ y, y ∈ metL base (simpleL base hs) ↔ y ∈ simpleL base hs := by
    intro y
    rw [metL_mem]
    constructor
    · rintro ⟨h, hh, e⟩
      rw [meet_of_within (simpleL_within hh)] at e
      cases e
      exact hh
    · intro h
      exact ⟨y, h, meet_of_within (simpleL_within h)⟩
  rw [simpleL_mem, hm]
  simp only [hm]
  constructor
  · exact fun h => h.1
  · exact fun h => ⟨h, fun k hk hw => (simpleL_mem.1 h).2 k (simpleL_sub hk) hw⟩

/-! ### The reference's way to them -/
/-- Nothing takes the place i's pattern out, from the place j on. -/
def clearR (h : Pat) (i : Nat) : Nat → List Pat → Bool
  | _, [] => true
  | j, k :: l => !(decide (i ≠ j) && withinP h k && (decide (j < i) || decide (h ≠ k))) && clearR h i (j + 1) l
def keptR (s : List Pat) : Nat → List Pat → List Pat
  | _, [] => []
  | i, h :: l => if clearR h i 0 s = true then h :: keptR s (i + 1) l else keptR s (i + 1) l

theorem clearR_iff {h0 : Pat} {i : Nat} : ∀ {j : Nat} {l : List Pat}, clearR h0 i j l = true ↔ ∀ t k, l[t]? = some k → i ≠ j + t → withinP h0 k = true → ¬ (j + t < i ∨ h0 ≠ k)
  | j, [] => by simp [clearR]
  | j, k :: l => by
    simp only [clearR, Bool.and_eq_true, clearR_iff (j := j + 1) (l := l)]
    constructor
    · rintro ⟨h1, h2⟩ t x hx hne hw hor
      cases t with
      | zero =>
        simp only [List.getElem?_cons_zero, Option.some.injEq] at hx
        subst hx
        rw [Nat.add_zero] at hne hor
        simp only [Bool.not_eq_true', Bool.and_eq_false_iff, decide_eq_false_iff_not, Bool.or_eq_false_iff] at h1
        rcases h1 with (h1 | h1) | h1
        · exact h1 hne
        · rw [hw] at h1; cases h1
        · rcases hor with hor | hor
          · exact h1.1 hor
          · exact h1.2 hor
      | succ t => exact h2 t x (by simpa using hx) (by omega) hw (by rcases hor with h | h; exact .inl (by omega); exact .inr h)
    · intro h
      refine ⟨?_, fun t x hx hne hw hor => h (t + 1) x (by simpa using hx) (by omega) hw (by rcases hor with h | h; exact .inl (by omega); exact .inr h)⟩
      simp only [Bool.not_eq_true', Bool.and_eq_false_iff, decide_eq_false_iff_not, Bool.or_eq_false_iff]
      by_cases hne : i = j
      · exact .inl (.inl (fun hn => hn hne))
      cases hw : withinP h0 k with
      | false => exact .inl (.inr rfl)
      | true =>
        have := h 0 k rfl (by omega) hw
        rw [Nat.add_zero] at this
        exact .inr ⟨fun hh => this (.inl hh), fun hh => this (.inr hh)⟩

theorem keptR_mem {s : List Pat} {x : Pat} : ∀ {i : Nat} {l : List Pat}, x ∈ keptR s i l ↔ ∃ t, l[t]? = some x ∧ clearR x (i + t) 0 s = true
  | i, [] => by simp [keptR]
  | i, h :: l => by
    have ih := keptR_mem (s := s) (x := x) (i := i + 1) (l := l)
    have hr : x ∈ keptR s (i + 1) l ↔ ∃ t, (h :: l)[t + 1]? = some x ∧ clearR x (i + (t + 1)) 0 s = true := by
      rw [ih]
      refine exists_congr fun t => ?_
      rw [List.getElem?_cons_succ, show i + 1 + t = i + (t + 1) by omega]
    unfold keptR
    split
    · rename_i hc
      rw [List.mem_cons, hr]
      constructor
      · rintro (rfl | ⟨t, h1, h2⟩)
        · exact ⟨0, rfl, hc⟩
        · exact ⟨t + 1, h1, h2⟩
      · rintro ⟨t, h1, h2⟩
        cases t with
        | zero => simp at h1; exact .inl h1.symm
        | succ t => exact .inr ⟨t, h1, h2⟩
    · rename_i hc
      rw [hr]
      constructor
      · rintro ⟨t, h1, h2⟩
        exact ⟨t + 1, h1, h2⟩
      · rintro ⟨t, h1, h2⟩
        cases t with
        | zero => simp at h1; subst h1; exact absurd h2 hc
        | succ t => exact ⟨t, h1, h2⟩
theorem keptR_sub {s : List Pat} : ∀ (l : List Pat) (i : Nat), (keptR s i l).Sublist l
  | [], _ => .slnil
  | h :: l, i => by
    unfold keptR
    split
    · exact (keptR_sub l (i + 1)).cons_cons _
    · exact (keptR_sub l (i + 1)).cons _

/-- Rising by text, equal ones side by side. -/
def leP (p q : Pat) : Prop := ltP p q ∨ p = q
/-- The reference keeps what is kept. -/
theorem keptR_eq {base : Pat} {hs s : List Pat} (hp : s.Perm (metL base hs)) (hsd : s.Pairwise leP) : keptR s 0 s = simpleL base hs := by
  have hmem : ∀ x, x ∈ s ↔ x ∈ metL base hs := fun x => hp.mem_iff
  have herr : ∀ x ∈ s, patErr x = 0 := fun x hx => metL_err ((hmem x).1 hx)
  have hkm : ∀ x, x ∈ keptR s 0 s ↔ x ∈ simpleL base hs := by
    intro x
    rw [keptR_mem, simpleL_mem]
    constructor
    · rintro ⟨t, h1, h2⟩
      have hx : x ∈ s := List.mem_of_getElem? h1
      refine ⟨(hmem x).1 hx, fun k hk hw => ?_⟩
      obtain ⟨j, hj⟩ := List.getElem?_of_mem ((hmem k).2 hk)
      rw [clearR_iff] at h2
      refine Classical.byContradiction fun hne => ?_
      have hjt : 0 + t ≠ 0 + j := by
        intro e
        have : t = j := by omega
        subst this
        rw [h1] at hj
        cases hj
        exact hne rfl
      exact h2 j k hj hjt hw (.inr (Ne.symm hne))
    · rintro ⟨h1, h2⟩
      have hx := (hmem x).2 h1
      -- the first place where it stands
      have hex : ∃ t : Nat, s[t]? = some x ∧ ∀ j : Nat, j < t → s[j]? ≠ some x := by
        have : ∀ (l : List Pat), x ∈ l → ∃ t : Nat, l[t]? = some x ∧ ∀ j : Nat, j < t → l[j]? ≠ some x := by
          intro l
          induction l with
          | nil => intro h; cases h
          | cons a l ih =>
            intro h
            by_cases e : a = x
            · subst e
              exact ⟨0, rfl, fun j hj => by omega⟩
            · rcases List.mem_cons.1 h with rfl | h
              · exact absurd rfl e
              · obtain ⟨t, h1, h2⟩ := ih h
                refine ⟨t + 1, by simpa using h1, fun j hj => ?_⟩
                cases j with
                | zero => simp [e]
                | succ j => simpa using h2 j (by omega)
        exact this s hx
      obtain ⟨t, ht, hfirst⟩ := hex
      refine ⟨t, ht, ?_⟩
      rw [clearR_iff]
      intro j k hk hne hw hor
      have hkx := h2 k ((hmem k).1 (List.mem_of_getElem? hk)) hw
      subst hkx
      rcases hor with h | h
      · exact hfirst j (by omega) hk
      · exact h rfl
  refine sorted_uniq ?_ (simpleL_sorted _ _) hkm
  -- no pattern stands twice
  have hsub := keptR_sub (s := s) s 0
  have hle : (keptR s 0 s).Pairwise leP := hsd.sublist hsub
  have hnd : ∀ (i : Nat) (l : List Pat), (∀ t : Nat, l[t]? = s[i + t]?) → (keptR s i l).Nodup := by
    intro i l
    induction l generalizing i with
    | nil => intro _; exact .nil
    | cons h l ih =>
      intro hl
      have ih' := ih (i + 1) (fun t => by have := hl (t + 1); rw [List.getElem?_cons_succ] at this; rw [this, show i + (t + 1) = i + 1 + t by omega])
      unfold keptR
      split
      · rename_i hc
        refine List.nodup_cons.2 ⟨fun hm => ?_, ih'⟩
        obtain ⟨t, h1, h2⟩ := keptR_mem.1 hm
        have hi : s[i]? = some h := by have := hl 0; simpa using this.symm
        rw [clearR_iff] at h2
        exact h2 i h hi (by omega) (withinP_refl (herr h (List.mem_of_getElem? hi))) (.inl (by omega))
      · exact ih'
  have nd := hnd 0 s (fun t => by rw [Nat.zero_add])
  rw [List.pairwise_iff_getElem] at hle ⊢
  intro i j hi hj hij
  rcases hle i j hi hj hij with h | h
  · exact h
  · exfalso
    exact absurd h (List.pairwise_iff_getElem.1 nd i j hi hj hij)
end Go.Ai

set_option linter.unusedSimpArgs false
set_option linter.unusedVariables false
namespace Go.Ai
open Go Go.RowKit

/-! ### Sorting by insertion -/
def ltT (p q : Pat) : Bool := ltB (bts (textP p)) (bts (textP q))
/-- The element at k goes down to its place. -/
def insR : Nat → List Pat → List Pat
  | 0, l => l
  | k + 1, l => match l[k + 1]?, l[k]? with
    | some a, some b => if ltT a b = true then insR k ((l.set (k + 1) b).set k a) else l
    | _, _ => l
def insRev (a : Pat) : List Pat → List Pat
  | [] => [a]
  | b :: q => if ltT a b = true then b :: insRev a q else a :: b :: q
theorem insR_rev (a : Pat) : ∀ (q r : List Pat), insR q.length (q.reverse ++ a :: r) = (insRev a q).reverse ++ r
  | [], r => rfl
  | b :: q, r => by
    have e1 : (b :: q).reverse ++ a :: r = q.reverse ++ b :: a :: r := by simp
    have g1 : (q.reverse ++ b :: a :: r)[q.length + 1]? = some a := by
      rw [List.getElem?_append_right (by simp), List.length_reverse, show q.length + 1 - q.length = 1 by omega]
      rfl
    have g2 : (q.reverse ++ b :: a :: r)[q.length]? = some b := by
      rw [List.getElem?_append_right (by simp), List.length_reverse, Nat.sub_self]
      rfl
    rw [e1, List.length_cons, insR, g1, g2]
    simp only [insRev]
    split
    · have e2 : ((q.reverse ++ b :: a :: r).set (q.length + 1) b).set q.length a = q.reverse ++ a :: (b :: r) := by
        rw [List.set_append_right _ _ (by simp), List.length_reverse, show q.length + 1 - q.length = 1 by omega, List.set_append_right _ _ (by simp), List.length_reverse, Nat.sub_self]
        rfl
      rw [e2, insR_rev a q (b :: r)]
      simp
    · simp
/-- Falling by text. -/
def geT (p q : Pat) : Prop := ltT p q = false
theorem geT_trans {p q r : Pat} (h1 : geT p q) (h2 : geT q r) : geT p r := ltB_ntrans _ _ _ h1 h2
theorem geT_of {p q : Pat} (h : ltT p q = true) : geT q p := by
  unfold geT
  cases h2 : ltT q p with
  | false => rfl
  | true =>
    have := ltB_trans _ _ _ h h2
    rw [ltB_irrefl] at this
    cases this
theorem insRev_mem {a x : Pat} : ∀ {q : List Pat}, x ∈ insRev a q ↔ x = a ∨ x ∈ q
  | [] => by simp [insRev]
  | b :: q => by
    unfold insRev
    split
    · rw [List.mem_cons, insRev_mem (q := q), List.mem_cons]
      constructor
      · rintro (h | h | h)
        · exact .inr (.inl h)
        · exact .inl h
        · exact .inr (.inr h)
      · rintro (h | h | h)
        · exact .inr (.inl h)
        · exact .inl h
        · exact .inr (.inr h)
    · rw [List.mem_cons]
theorem insRev_perm (a : Pat) : ∀ (q : List Pat), (insRev a q).Perm (a :: q)
  | [] => .refl _
  | b :: q => by
    unfold insRev
    split
    · exact ((insRev_perm a q).cons b).trans (.swap a b q)
    · exact .refl _
theorem insRev_sorted {a : Pat} : ∀ {q : List Pat}, q.Pairwise geT → (insRev a q).Pairwise geT
  | [], _ => by simp [insRev]
  | b :: q, h => by
    rw [List.pairwise_cons] at h
    unfold insRev
    split
    · rename_i hlt
      rw [List.pairwise_cons]
      refine ⟨fun x hx => ?_, insRev_sorted h.2⟩
      rcases insRev_mem.1 hx with rfl | hx
      · exact geT_of hlt
      · exact h.1 x hx
    · rename_i hlt
      have hab : geT a b := by simpa [geT] using hlt
      rw [List.pairwise_cons, List.pairwise_cons]
      refine ⟨fun x hx => ?_, h⟩
      rcases List.mem_cons.1 hx with rfl | hx
      · exact hab
      · exact geT_trans hab (h.1 x hx)
/-- The elements from i on go down, one after the other. -/
def insAll (n : Nat) : Nat → List Pat → List Pat
  | 0, l => l
  | k + 1, l => insAll n k (insR (n - (k + 1)) l)
theorem insAll_spec : ∀ (r q : List Pat) (n : Nat), n = q.length + r.length → q.Pairwise geT → ∃ q' : List Pat, insAll n r.length (q.reverse ++ r) = q'.reverse ∧ q'.Perm (r.reverse ++ q) ∧ q'.Pairwise geT
  | [], q, n, hn, hq => ⟨q, by simp [insAll], by simp, hq⟩
  | a :: r, q, n, hn, hq => by
    rw [List.length_cons, insAll, show n - (r.length + 1) = q.length by simp at hn; omega, insR_rev a q r]
    obtain ⟨q', h1, h2, h3⟩ := insAll_spec r (insRev a q) n (by rw [(insRev_perm a q).length_eq]; simp at hn ⊢; omega) (insRev_sorted hq)
    refine ⟨q', h1, h2.trans ?_, h3⟩
    rw [List.reverse_cons, List.append_assoc]
    exact ((insRev_perm a q).append_left _)
/-- All of them: rising, and the same ones. -/
theorem insAll_all {l : List Pat} (hl : ∀ x ∈ l, patErr x = 0) : (insAll l.length l.length l).Perm l ∧ (insAll l.length l.length l).Pairwise leP := by
  obtain ⟨q, h1, h2, h3⟩ := insAll_spec l [] l.length (by simp) .nil
  rw [List.reverse_nil, List.nil_append] at h1
  rw [List.append_nil] at h2
  have hp : q.reverse.Perm l := (List.reverse_perm q).trans (h2.trans (List.reverse_perm l))
  rw [h1]
  refine ⟨hp, ?_⟩
  rw [List.pairwise_reverse]
  refine h3.imp_of_mem fun {a b} ha hb h => ?_
  have ea := hl a (hp.mem_iff.1 (List.mem_reverse.2 ha))
  have eb := hl b (hp.mem_iff.1 (List.mem_reverse.2 hb))
  unfold leP ltP
  cases hlt : ltB (bts (textP b)) (bts (textP a)) with
  | true => exact .inl rfl
  | false =>
    right
    unfold geT ltT at h
    exact textP_inj eb ea (bts_inj (ltB_total _ _ hlt h))
theorem insR_length : ∀ (k : Nat) (l : List Pat), (insR k l).length = l.length
  | 0, _ => rfl
  | k + 1, l => by
    unfold insR
    split
    · split
      · rw [insR_length k]; simp
      · rfl
    · rfl
theorem insR_mem : ∀ (k : Nat) {l : List Pat} {P : Pat → Prop}, (∀ x ∈ l, P x) → ∀ x ∈ insR k l, P x
  | 0, l, P, h => h
  | k + 1, l, P, h => by
    unfold insR
    split
    · rename_i a b ha hb
      split
      · refine insR_mem k fun x hx => ?_
        rcases List.mem_or_eq_of_mem_set hx with hx | rfl
        · rcases List.mem_or_eq_of_mem_set hx with hx | rfl
          · exact h x hx
          · exact h _ (List.mem_of_getElem? hb)
        · exact h _ (List.mem_of_getElem? ha)
      · exact h
    · exact h
end Go.Ai

set_option linter.unusedSimpArgs false
set_option linter.unusedVariables false
set_option maxRecDepth 100000
namespace Go.Ai
open Go Go.RowKit

/-! ### Intersections of regions, and what is left of one behind another -/
def zeroG : Reg := (([], false), [])
def nonE (g : Reg) : Bool := (lengthG g).isSome
def meetG (a b : Reg) : Reg × Bool × Int :=
  if regErr a ≠ 0 then (zeroG, false, regErr a) else if regErr b ≠ 0 then (zeroG, false, regErr b) else
  match meetP a.1 b.1 with
  | none => (zeroG, false, 0)
  | some m => if 64 < (simpleG m (a.2 ++ b.2)).2.length then (zeroG, false, 52) else if nonE (simpleG m (a.2 ++ b.2)) = true then (simpleG m (a.2 ++ b.2), true, 0) else (zeroG, false, 0)
def partAt (a : Reg) (s : List Pat) (k : Nat) (h : Pat) : List Reg := match meetP a.1 h with | some m => [simpleG m (a.2 ++ s.take k)] | none => []
def partsTail (a : Reg) (s : List Pat) : Nat → List Pat → List Reg
  | _, [] => []
  | k, h :: l => partAt a s k h ++ partsTail a s (k + 1) l
def partsG (a b : Reg) : List Reg := simpleG a.1 (a.2 ++ [b.1]) :: partsTail a (simpleL b.1 b.2) 0 (simpleL b.1 b.2)
def over (l : List Reg) : Bool := l.any fun g => decide (64 < g.2.length)
def minusG (a b : Reg) : List Reg × Int :=
  if regErr a ≠ 0 then ([], regErr a) else if regErr b ≠ 0 then ([], regErr b) else
  if over (partsG a b) = true then ([], 52) else ((partsG a b).filter nonE, 0)

/-- The regions one after the other, up to the first that has too many holes. -/
def limF : List Reg → List Reg → Option (List Reg)
  | out, [] => some out
  | out, g :: l => if 64 < g.2.length then none else limF (out ++ if nonE g = true then [g] else []) l
theorem limF_eq : ∀ (l out : List Reg), limF out l = if over l = true then none else some (out ++ l.filter nonE)
  | [], out => by simp [limF, over]
  | g :: l, out => by
    have e : over (g :: l) = (decide (64 < g.2.length) || over l) := by unfold over; rw [List.any_cons]
    rw [limF, limF_eq l, e, List.filter_cons]
    by_cases h : 64 < g.2.length
    · simp [h]
    · simp only [h, decide_false, Bool.false_or, if_false]
      split
      · rfl
      · cases nonE g <;> simp
theorem limF_append : ∀ (l m out : List Reg), limF out (l ++ m) = (limF out l).bind fun o => limF o m
  | [], m, out => rfl
  | g :: l, m, out => by
    rw [List.cons_append, limF, limF]
    split
    · rfl
    · exact limF_append l m _

/-! ### What they mean -/
theorem nonE_of {g : Reg} {ws : List ByteArray} (hg : regErr g = 0) (hc : ws.all compB = true) (h : hasW g ws = true) : nonE g = true := by
  obtain ⟨l, hl, _⟩ := leastG_min hg h hc
  unfold nonE
  rcases leastG_spec hg with ⟨h1, h2⟩ | ⟨n, r, h1, _⟩
  · rw [h2] at hl; cases hl
  · rw [h1]; rfl
theorem nonE_path {g : Reg} (hg : regErr g = 0) (h : nonE g = true) : ∃ ws, ws.all compB = true ∧ hasW g ws = true ∧ 2 ≤ ws.length := by
  unfold nonE at h
  rcases leastG_spec hg with ⟨h1, h2⟩ | ⟨n, r, h1, h2, _, _, h5, h6⟩
  · rw [h1] at h; cases h
  · exact ⟨r, h5, h6, leastG_length hg h2⟩
theorem simpleG_err {base : Pat} {hs : List Pat} (eb : patErr base = 0) (hl : (simpleG base hs).2.length ≤ 64) : regErr (simpleG base hs) = 0 := regErr_zero.2 ⟨eb, fun _ h => simpleL_err h, hl⟩

theorem hasW_iff {g : Reg} {ws : List ByteArray} : hasW g ws = true ↔ pm g.1 ws = true ∧ ∀ h ∈ g.2, pm h ws = false := by
  unfold hasW
  rw [Bool.and_eq_true, Bool.not_eq_true', List.any_eq_false]
  simp
theorem simpleG_has {base : Pat} {hs : List Pat} {ws : List ByteArray} (hc : ws.all compB = true) : hasW (simpleG base hs) ws = true ↔ pm base ws = true ∧ ∀ h ∈ hs, pm h ws = false := by
  rw [simpleG_hasW base hs hc, hasW_iff]
/-- The intersection's paths. -/
theorem meet_has {a b : Reg} {m : Pat} {ws : List ByteArray} (hm : meetP a.1 b.1 = some m) (hc : ws.all compB = true) : hasW (simpleG m (a.2 ++ b.2)) ws = true ↔ hasW a ws = true ∧ hasW b ws = true := by
  rw [simpleG_has hc, hasW_iff, hasW_iff, (meetP_is hm).pm hc]
  constructor
  · rintro ⟨⟨h1, h2⟩, h3⟩
    exact ⟨⟨h1, fun h hh => h3 h (List.mem_append_left _ hh)⟩, h2, fun h hh => h3 h (List.mem_append_right _ hh)⟩
  · rintro ⟨⟨h1, h2⟩, h3, h4⟩
    refine ⟨⟨h1, h3⟩, fun h hh => ?_⟩
    rcases List.mem_append.1 hh with hh | hh
    · exact h2 h hh
    · exact h4 h hh

/-- A hole of the simplified region matches exactly if a hole does, below the base. -/
theorem simple_hole {base : Pat} {hs : List Pat} {ws : List ByteArray} (hc : ws.all compB = true) (hb : pm base ws = true) : (∃ h ∈ simpleL base hs, pm h ws = true) ↔ ∃ h ∈ hs, pm h ws = true := by
  have e := simpleG_hasW base hs hc
  unfold hasW simpleG at e
  simp only [hb, Bool.true_and] at e
  have e2 : ((simpleL base hs).any fun h => pm h ws) = (hs.any fun h => pm h ws) := by
    cases h1 : (simpleL base hs).any fun h => pm h ws <;> cases h2 : hs.any fun h => pm h ws <;> rw [h1, h2] at e <;> simp at e ⊢
  rw [← List.any_eq_true, ← List.any_eq_true, e2]

/-- What one part holds. -/
theorem part0_has {a b : Reg} {ws : List ByteArray} (hc : ws.all compB = true) : hasW (simpleG a.1 (a.2 ++ [b.1])) ws = true ↔ hasW a ws = true ∧ pm b.1 ws = false := by
  rw [simpleG_has hc, hasW_iff]
  constructor
  · rintro ⟨h1, h2⟩
    exact ⟨⟨h1, fun h hh => h2 h (List.mem_append_left _ hh)⟩, h2 _ (by simp)⟩
  · rintro ⟨⟨h1, h2⟩, h3⟩
    refine ⟨h1, fun h hh => ?_⟩
    rcases List.mem_append.1 hh with hh | hh
    · exact h2 h hh
    · have : h = b.1 := by simpa using hh
      rw [this]; exact h3
theorem partAt_has {a : Reg} {s : List Pat} {k : Nat} {h : Pat} {g : Reg} {ws : List ByteArray} (hg : g ∈ partAt a s k h) (hc : ws.all compB = true) : hasW g ws = true ↔ hasW a ws = true ∧ pm h ws = true ∧ ∀ x ∈ s.take k, pm x ws = false := by
  unfold partAt at hg
  split at hg
  case h_2 => cases hg
  rename_i m hm
  have : g = simpleG m (a.2 ++ s.take k) := by simpa using hg
  subst this
  rw [simpleG_has hc, hasW_iff, (meetP_is hm).pm hc]
  constructor
  · rintro ⟨⟨h1, h2⟩, h3⟩
    exact ⟨⟨h1, fun h hh => h3 h (List.mem_append_left _ hh)⟩, h2, fun h hh => h3 h (List.mem_append_right _ hh)⟩
  · rintro ⟨⟨h1, h2⟩, h3, h4⟩
    refine ⟨⟨h1, h3⟩, fun x hh => ?_⟩
    rcases List.mem_append.1 hh with hh | hh
    · exact h2 x hh
    · exact h4 x hh
theorem partAt_exists {a : Reg} {s : List Pat} {k : Nat} {h : Pat} {ws : List ByteArray} (hc : ws.all compB = true) (ha : pm a.1 ws = true) (hh : pm h ws = true) : ∃ g, g ∈ partAt a s k h := by
  unfold partAt
  cases hm : meetP a.1 h with
  | none => exact (meetP_none hm hc ha hh).elim
  | some m => exact ⟨_, List.mem_cons_self ..⟩
theorem partAt_err {a : Reg} {s : List Pat} {k : Nat} {h : Pat} {g : Reg} (hg : g ∈ partAt a s k h) : patErr g.1 = 0 ∧ ∀ h ∈ g.2, patErr h = 0 := by
  unfold partAt at hg
  split at hg
  case h_2 => cases hg
  rename_i m hm
  have : g = simpleG m (a.2 ++ s.take k) := by simpa using hg
  subst this
  exact ⟨(meetP_is hm).err, fun _ h => simpleL_err h⟩
theorem partsTail_mem {a : Reg} {s : List Pat} {g : Reg} : ∀ {l : List Pat} {k : Nat}, g ∈ partsTail a s k l ↔ ∃ t h, l[t]? = some h ∧ g ∈ partAt a s (k + t) h
  | [], k => by simp [partsTail]
  | h :: l, k => by
    rw [partsTail, List.mem_append, partsTail_mem]
    constructor
    · rintro (h1 | ⟨t, x, h1, h2⟩)
      · exact ⟨0, h, rfl, h1⟩
      · exact ⟨t + 1, x, by simpa using h1, by rw [show k + (t + 1) = k + 1 + t by omega]; exact h2⟩
    · rintro ⟨t, x, h1, h2⟩
      cases t with
      | zero => simp at h1; subst h1; exact .inl h2
      | succ t => exact .inr ⟨t, x, by simpa using h1, by rw [show k + 1 + t = k + (t + 1) by omega]; exact h2⟩
def disjG (g h : Reg) : Prop := ∀ ws : List ByteArray, ws.all compB = true → hasW g ws = true → hasW h ws = true → False
theorem partsTail_disj {a : Reg} {s : List Pat} : ∀ {l : List Pat} {k : Nat}, (∀ t : Nat, l[t]? = s[k + t]?) → (partsTail a s k l).Pairwise disjG
  | [], k, _ => .nil
  | h :: l, k, hl => by
    rw [partsTail, List.pairwise_append]
    refine ⟨?_, partsTail_disj fun t => by have := hl (t + 1); rw [List.getElem?_cons_succ] at this; rw [this, show k + (t + 1) = k + 1 + t by omega], fun g hg g' hg' ws hc h1 h2 => ?_⟩
    · unfold partAt
      split
      · exact List.pairwise_singleton _ _
      · exact .nil
    · obtain ⟨t, x, hx, hg''⟩ := partsTail_mem.1 hg'
      have p1 := ((partAt_has hg hc).1 h1).2.1
      have p2 := ((partAt_has hg'' hc).1 h2).2.2
      have hk : s[k]? = some h := by have := hl 0; simpa using this.symm
      have : h ∈ s.take (k + 1 + t) := List.mem_of_getElem? (i := k) (by rw [List.getElem?_take, if_pos (by omega)]; exact hk)
      rw [p2 h this] at p1
      cases p1
theorem partsG_disj (a b : Reg) : (partsG a b).Pairwise disjG := by
  unfold partsG
  rw [List.pairwise_cons]
  refine ⟨fun g hg ws hc h1 h2 => ?_, partsTail_disj fun t => by rw [Nat.zero_add]⟩
  obtain ⟨t, x, hx, hg'⟩ := partsTail_mem.1 hg
  have p1 := ((part0_has (a := a) (b := b) hc).1 h1).2
  have p2 := ((partAt_has hg' hc).1 h2).2.1
  have := withinP_pm (simpleL_within (List.mem_of_getElem? hx)) hc p2
  rw [this] at p1
  cases p1
/-- A path lies in a part exactly if it lies in the first region and not in the second one. -/
theorem partsG_has {a b : Reg} {ws : List ByteArray} (hc : ws.all compB = true) : (∃ g ∈ partsG a b, hasW g ws = true) ↔ hasW a ws = true ∧ hasW b ws = false := by
  constructor
  · rintro ⟨g, hg, hw⟩
    rcases List.mem_cons.1 hg with rfl | hg
    · obtain ⟨h1, h2⟩ := (part0_has (a := a) (b := b) hc).1 hw
      refine ⟨h1, ?_⟩
      unfold hasW
      rw [h2, Bool.false_and]
    · obtain ⟨t, x, hx, hg'⟩ := partsTail_mem.1 hg
      obtain ⟨h1, h2, h3⟩ := (partAt_has hg' hc).1 hw
      refine ⟨h1, ?_⟩
      have hxm := List.mem_of_getElem? hx
      have hb := withinP_pm (simpleL_within hxm) hc h2
      obtain ⟨y, hy, hyp⟩ := (simple_hole hc hb).1 ⟨x, hxm, h2⟩
      cases hbw : hasW b ws with
      | false => rfl
      | true => have := (hasW_iff.1 hbw).2 y hy; rw [hyp] at this; cases this
  · rintro ⟨h1, h2⟩
    cases hb : pm b.1 ws with
    | false => exact ⟨_, List.mem_cons_self .., (part0_has (a := a) (b := b) hc).2 ⟨h1, hb⟩⟩
    | true =>
      have hex : ∃ h ∈ b.2, pm h ws = true := by
        refine Classical.byContradiction fun hn => ?_
        have : hasW b ws = true := hasW_iff.2 ⟨hb, fun h hh => by
          cases hp : pm h ws with
          | false => rfl
          | true => exact absurd ⟨h, hh, hp⟩ hn⟩
        rw [h2] at this
        cases this
      obtain ⟨x, hx, hxp⟩ := (simple_hole hc hb).2 hex
      -- the first such hole
      have first : ∀ (l : List Pat), (∃ x ∈ l, pm x ws = true) → ∃ t h, l[t]? = some h ∧ pm h ws = true ∧ ∀ x ∈ l.take t, pm x ws = false := by
        intro l
        induction l with
        | nil => rintro ⟨x, hx, _⟩; cases hx
        | cons y l ih =>
          rintro ⟨x, hx, hp⟩
          cases hy : pm y ws with
          | true => exact ⟨0, y, rfl, hy, fun x hx => by simp at hx⟩
          | false =>
            rcases List.mem_cons.1 hx with rfl | hx
            · rw [hy] at hp; cases hp
            · obtain ⟨t, h, h1, h2, h3⟩ := ih ⟨x, hx, hp⟩
              refine ⟨t + 1, h, by simpa using h1, h2, fun z hz => ?_⟩
              rw [List.take_succ_cons] at hz
              rcases List.mem_cons.1 hz with rfl | hz
              · exact hy
              · exact h3 z hz
      obtain ⟨t, h, ht, hp, hlow⟩ := first _ ⟨x, hx, hxp⟩
      obtain ⟨g, hg⟩ := partAt_exists (s := simpleL b.1 b.2) (k := 0 + t) hc (hasW_iff.1 h1).1 hp
      exact ⟨g, List.mem_cons_of_mem _ (partsTail_mem.2 ⟨t, h, ht, hg⟩), (partAt_has hg hc).2 ⟨h1, hp, by rw [Nat.zero_add]; exact hlow⟩⟩
theorem partsG_ok {a b : Reg} (ea : patErr a.1 = 0) {g : Reg} (hg : g ∈ partsG a b) : patErr g.1 = 0 ∧ ∀ h ∈ g.2, patErr h = 0 := by
  rcases List.mem_cons.1 hg with rfl | hg
  · exact ⟨ea, fun _ h => simpleL_err h⟩
  · obtain ⟨t, x, _, hg'⟩ := partsTail_mem.1 hg
    exact partAt_err hg'
theorem over_mem {l : List Reg} (h : ¬ over l = true) {g : Reg} (hg : g ∈ l) : g.2.length ≤ 64 := by
  unfold over at h
  rw [List.any_eq_true] at h
  exact Nat.le_of_not_lt fun hlt => h ⟨g, hg, by simpa using hlt⟩
/-- What is left, when no limit is exceeded. -/
theorem minusG_parts {a b : Reg} (h : (minusG a b).2 = 0) : regErr a = 0 ∧ regErr b = 0 ∧ ¬ over (partsG a b) = true ∧ (minusG a b).1 = (partsG a b).filter nonE ∧ ∀ g ∈ partsG a b, regErr g = 0 := by
  unfold minusG at h ⊢
  split at h
  · rename_i h1; exact absurd h h1
  rename_i h1
  split at h
  · rename_i h2; exact absurd h h2
  rename_i h2
  split at h
  · cases h
  rename_i h3
  have ea : regErr a = 0 := Decidable.byContradiction h1
  have eb : regErr b = 0 := Decidable.byContradiction h2
  rw [if_neg h1, if_neg h2, if_neg h3]
  refine ⟨ea, eb, h3, rfl, fun g hg => ?_⟩
  obtain ⟨o1, o2⟩ := partsG_ok (regErr_zero.1 ea).1 hg
  exact regErr_zero.2 ⟨o1, o2, over_mem h3 hg⟩
/-- An intersection that is not empty. -/
theorem meetG_some {a b : Reg} (h : (meetG a b).2.1 = true) : regErr a = 0 ∧ regErr b = 0 ∧ (meetG a b).2.2 = 0 ∧ ∃ m, meetP a.1 b.1 = some m ∧ (meetG a b).1 = simpleG m (a.2 ++ b.2) ∧ regErr (simpleG m (a.2 ++ b.2)) = 0 ∧ nonE (simpleG m (a.2 ++ b.2)) = true := by
  unfold meetG at h ⊢
  split at h
  · cases h
  rename_i h1
  split at h
  · cases h
  rename_i h2
  rw [if_neg h1, if_neg h2]
  split at h
  · cases h
  rename_i m hm
  split at h
  · cases h
  rename_i h3
  split at h
  case isFalse => cases h
  rename_i h4
  simp only [hm, if_neg h3, if_pos h4]
  exact ⟨Decidable.byContradiction h1, Decidable.byContradiction h2, trivial, m, rfl, rfl, simpleG_err (meetP_is hm).err (by omega), h4⟩
/-- .. or that is empty. -/
theorem meetG_none {a b : Reg} (h : (meetG a b).2.1 = false) (h0 : (meetG a b).2.2 = 0) : regErr a = 0 ∧ regErr b = 0 ∧ (meetG a b).1 = zeroG ∧ ∀ ws : List ByteArray, ws.all compB = true → hasW a ws = true → hasW b ws = true → False := by
  unfold meetG at h h0 ⊢
  split at h0
  · rename_i h1; exact absurd h0 h1
  rename_i h1
  split at h0
  · rename_i h2; exact absurd h0 h2
  rename_i h2
  rw [if_neg h1, if_neg h2] at h ⊢
  refine ⟨Decidable.byContradiction h1, Decidable.byContradiction h2, ?_⟩
  split at h0
  · rename_i hm
    simp only [hm]
    refine ⟨trivial, fun ws hc ha hb => meetP_none hm hc (hasW_iff.1 ha).1 (hasW_iff.1 hb).1⟩
  rename_i m hm
  simp only [hm] at h ⊢
  split at h0
  · cases h0
  rename_i h3
  rw [if_neg h3] at h ⊢
  split at h
  · cases h
  rename_i h4
  rw [if_neg h4]
  refine ⟨rfl, fun ws hc ha hb => h4 (nonE_of (simpleG_err (meetP_is hm).err (by omega)) hc ((meet_has hm hc).2 ⟨ha, hb⟩))⟩
theorem meet_disj {g h : Reg} (hd : disjG g h) : (meetG g h).2.1 = false := by
  cases hm : (meetG g h).2.1 with
  | false => rfl
  | true =>
    obtain ⟨_, _, _, m, h1, _, h3, h4⟩ := meetG_some hm
    obtain ⟨ws, hc, hw, _⟩ := nonE_path h3 h4
    obtain ⟨ha, hb⟩ := (meet_has h1 hc).1 hw
    exact (hd ws hc ha hb).elim
/-- Two orders of holes, one simplified region. -/
theorem regErr_congr {base : Pat} {hs hs' : List Pat} (h : ∀ x, x ∈ hs ↔ x ∈ hs') (h1 : hs.length ≤ 64) (h2 : hs'.length ≤ 64) : regErr (base, hs) = regErr (base, hs') := by
  unfold regErr
  have e : (hs.any fun h => decide (patErr h ≠ 0)) = (hs'.any fun h => decide (patErr h ≠ 0)) := by
    rw [Bool.eq_iff_iff, List.any_eq_true, List.any_eq_true]
    simp only [h]
  simp only [e]
  rw [if_neg (show ¬ 64 < hs.length by omega), if_neg (show ¬ 64 < hs'.length by omega)]
end Go.Ai
