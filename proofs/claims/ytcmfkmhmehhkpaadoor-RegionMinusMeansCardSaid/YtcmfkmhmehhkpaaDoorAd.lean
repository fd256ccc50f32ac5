/- A part of the proof of a law of this seat (AiRowW, AiReg, AiLeast, AiMeet, AiBits, AiOrd). -/
import Derived.Test.YtcmfkmhmehhkpaaDoorAc
import Derived.Lib.Strings
set_option linter.unusedSimpArgs false
set_option linter.unusedVariables false
namespace Go.Ai
open Go Go.RowKit

/-- Nothing in it is larger than `R` bytes. -/
def Ty.wOK (R : Nat) : (t : Ty) → t.den → Prop
  | .int _, _ => True
  | .bool, _ => True
  | .str, s => ByteArray.size s ≤ R
  | .list t, xs => List.length (α := t.den) xs * 8 ≤ R ∧ ∀ x : t.den, @List.Mem t.den x xs → t.wOK R x
  | .prod a b, x => a.wOK R x.1 ∧ b.wOK R x.2

/-- A type, as data, with elements of eight bytes or more. -/
def okTyW (P : Program) : Nat → TypeId → Ty → Bool
  | 0, _, _ => false
  | n + 1, t, ty =>
    match P.underlying t with
    | some .bool => ty == .bool
    | some (.int k) => ty == .int k
    | some .string => ty == .str
    | some (.slice e) => match ty with
      | .list u => okTyW P n e u && (P.cellsOf e == u.sz && decide (8 ≤ P.bytesOf e))
      | _ => false
    | some (.struct fs) => fieldsTy P (okTyW P n) fs.toList 0 ty && P.cellsOf t == ty.sz
    | _ => false

theorem fields_opensW {H : Type} {P : Program} {w : World} {ok : TypeId → Ty → Bool} {f : TypeId → List Value → Option (DataW H × List MemPlace)}
    (ih : ∀ t ty cs d ps, ok t ty = true → f t cs = some (d, ps) → ∃ x : ty.den, Opens w ty cs x ∧ ∀ R, (∀ m ∈ d.weights P t, m ≤ R) → ty.wOK R x) :
    ∀ (fs : List Field) (off : Nat) (ty : Ty) (cs : List Value) (xs : List (DataW H × List MemPlace)), fieldsTy P ok fs off ty = true → cs.length = off + ty.sz →
      fs.mapM (fun g => f g.type ((cs.drop g.offset).take (P.cellsOf g.type))) = some xs → ∃ x : ty.den, Opens w ty (cs.drop off) x ∧ ∀ R, (∀ m ∈ DataW.weightsEach P (fs.map (·.type)) (xs.map (·.1)), m ≤ R) → ty.wOK R x
  | [], off, ty, cs, xs, h, _, _ => by simp [fieldsTy] at h
  | [g], off, ty, cs, xs, h, hl, hm => by
    simp only [fieldsTy, Bool.and_eq_true, beq_iff_eq] at h
    obtain ⟨⟨h1, h2⟩, h3⟩ := h
    simp only [List.mapM_cons, List.mapM_nil, Option.bind_eq_bind, Option.bind_eq_some_iff, Option.pure_def] at hm
    obtain ⟨r, hr, bs, hbs, hm⟩ := hm
    cases hbs
    cases hm
    obtain ⟨d, ps⟩ := r
    rw [h1, h3, List.take_of_length_le (by simp; omega)] at hr
    obtain ⟨x, hx, hb⟩ := ih _ _ _ _ _ h2 hr
    exact ⟨x, hx, fun R hR => hb R fun m hm => hR m (by simp [DataW.weightsEach, hm])⟩
  | g :: g' :: fs, off, ty, cs, xs, h, hl, hm => by
    cases ty <;> simp only [fieldsTy, Bool.false_eq_true] at h
    rename_i a b
    simp only [Bool.and_eq_true, beq_iff_eq] at h
    obtain ⟨⟨⟨h1, h2⟩, h3⟩, h4⟩ := h
    rw [List.mapM_cons] at hm
    simp only [Option.bind_eq_bind, Option.bind_eq_some_iff, Option.pure_def] at hm
    obtain ⟨r, hr, bs, hbs, hm⟩ := hm
    cases hm
    obtain ⟨d, ps⟩ := r
    rw [h1, h3] at hr
    obtain ⟨x, hx, hb⟩ := ih _ _ _ _ _ h2 hr
    have hl' : cs.length = off + a.sz + b.sz := by rw [hl]; simp only [Ty.sz]; omega
    obtain ⟨y, hy, hb'⟩ := fields_opensW ih (g' :: fs) (off + a.sz) b cs bs h4 hl' hbs
    refine ⟨(x, y), ?_, ?_⟩
    · have := hx.append hy
      rwa [← List.drop_drop, List.take_append_drop] at this
    · intro R hR
      exact ⟨hb R fun m hm => hR m (by simp only [List.map_cons, DataW.weightsEach, List.mem_append]; exact .inl hm), hb' R fun m hm => hR m (by simp only [List.map_cons, DataW.weightsEach, List.mem_append]; exact .inr hm)⟩

/-- A datum that is read is opened, and nothing in it is larger than the reach. -/
theorem trod_opensW {H : Type} {enc : TypeId × Value → H} {P : Program} {w : World} : ∀ (n : Nat) (t : TypeId) (ty : Ty), okTyW P n t ty = true → ∀ (fuel base : Nat) (spare : Nat → Bool) (held : Bool) (cs : List Value) (d : DataW H) (ps : List MemPlace),
    DataW.trod enc P w base spare held fuel t cs = some (d, ps) → ∃ x : ty.den, Opens w ty cs x ∧ ∀ R, (∀ m ∈ d.weights P t, m ≤ R) → ty.wOK R x
  | 0, t, ty, h => by simp [okTyW] at h
  | n + 1, t, ty, h => by
    intro fuel base spare held cs d ps hd
    cases fuel with
    | zero => simp [DataW.trod] at hd
    | succ fuel =>
    unfold okTyW at h
    cases hu : P.underlying t with
    | none => simp [hu] at h
    | some desc =>
    cases desc <;> simp [hu] at h
    case bool =>
      subst h
      match cs, hd with
      | [c], hd =>
        cases c <;> simp [DataW.trod, hu] at hd
        rename_i b
        refine ⟨b, ⟨rfl, fun j c u hc hu' => ?_⟩, fun _ _ => trivial⟩
        cases j with
        | zero => simp [emb, lget] at hc; simp at hu'; subst hc; subst hu'; exact ⟨rfl, .bool _ _⟩
        | succ j => simp [emb, lget] at hc
      | [], hd => simp [DataW.trod, hu] at hd
      | _ :: _ :: _, hd => simp [DataW.trod, hu] at hd
    case int k =>
      subst h
      match cs, hd with
      | [c], hd =>
        cases c <;> simp [DataW.trod, hu] at hd
        rename_i k' m
        obtain ⟨⟨rfl, _⟩, hd, _⟩ := hd
        refine ⟨m, ⟨rfl, fun j c u hc hu' => ?_⟩, fun _ _ => trivial⟩
        cases j with
        | zero => simp [emb, lget] at hc; simp at hu'; subst hc; subst hu'; exact ⟨rfl, .int _ _ _⟩
        | succ j => simp [emb, lget] at hc
      | [], hd => simp [DataW.trod, hu] at hd
      | _ :: _ :: _, hd => simp [DataW.trod, hu] at hd
    case string =>
      subst h
      match cs, hd with
      | [c], hd =>
        cases c <;> simp [DataW.trod, hu] at hd
        rename_i s
        obtain ⟨_, hd, _⟩ := hd
        refine ⟨s, ⟨rfl, fun j c u hc hu' => ?_⟩, ?_⟩
        · cases j with
          | zero => simp [emb, lget] at hc; simp at hu'; subst hc; subst hu'; exact ⟨rfl, .str _ _⟩
          | succ j => simp [emb, lget] at hc
        · intro R hR
          rw [← hd] at hR
          have := hR s.data.toList.length (by simp [DataW.weights])
          show s.size ≤ R
          rw [Array.length_toList] at this
          exact this
      | [], hd => simp [DataW.trod, hu] at hd
      | _ :: _ :: _, hd => simp [DataW.trod, hu] at hd
    case slice e =>
      cases ty <;> simp at h
      rename_i u
      obtain ⟨h1, h2, h8⟩ := h
      match cs, hd with
      | [], hd => simp [DataW.trod, hu] at hd
      | _ :: _ :: _, hd => simp [DataW.trod, hu] at hd
      | [c], hd =>
        cases c <;> (try (simp [DataW.trod, hu] at hd; done))
        rename_i a len cap
        cases a with
        | none =>
          have hz : len = 0 ∧ cap = 0 ∧ DataW.nil = d := by
            cases len <;> cases cap <;> simp [DataW.trod, hu] at hd
            exact ⟨rfl, rfl, hd.1⟩
          obtain ⟨rfl, rfl, rfl⟩ := hz
          refine ⟨([] : List u.den), ⟨rfl, fun j c u' hc hu' => ?_⟩, fun R _ => ⟨by show 0 * 8 ≤ R; omega, fun x hx => by cases hx⟩⟩
          cases j with
          | zero =>
            simp [emb, lget] at hc
            simp at hu'
            subst hc; subst hu'
            exact ⟨rfl, .tl _ _ [] none 0 0 0 (fun _ _ => undef) (Nat.le_refl _) (fun h => absurd rfl h) (fun i x j c h => by simp at h) fun i x j c h => by simp at h⟩
          | succ j => simp [emb, lget] at hc
        | some ad =>
          simp only [DataW.trod, hu] at hd
          split at hd
          case isFalse => cases hd
          rename_i hcond
          simp only [Option.bind_eq_some_iff, Option.map_eq_some_iff] at hd
          obtain ⟨elems, helems, rest, _, hd⟩ := hd
          simp only [Prod.mk.injEq] at hd
          obtain ⟨hd, _⟩ := hd
          obtain ⟨hlen, hel⟩ := mapM_some helems
          rw [List.length_range] at hlen
          have hrow : ∀ i, i < len → ∃ x : u.den, ∃ ci : List Value, w.cells? base (ad.add (i * P.cellsOf e)) (P.cellsOf e) = some ci ∧ Opens w u ci x ∧ ∀ di, (elems.map (·.1))[i]? = some di → ∀ R, (∀ m ∈ di.weights P e, m ≤ R) → u.wOK R x := by
            intro i hi
            obtain ⟨r, hr, hr'⟩ := hel i i (by simp [hi])
            obtain ⟨ci, hci, hti⟩ := Option.bind_eq_some_iff.1 hr'
            obtain ⟨di, pi⟩ := r
            obtain ⟨x, hx, hb⟩ := trod_opensW n e u h1 fuel base spare held ci di pi hti
            refine ⟨x, ci, hci, hx, fun di' hdi' => ?_⟩
            simp [hr] at hdi'
            rw [← hdi']
            exact hb
          obtain ⟨xs, hxl, hxs⟩ := choose_list len hrow
          have hsz := u.sz_pos
          refine ⟨xs, ⟨rfl, fun j c u' hc hu' => ?_⟩, ?_⟩
          · cases j with
            | succ j => simp [emb, lget] at hc
            | zero =>
            simp [emb, lget] at hc
            simp at hu'
            subst hc; subst hu'
            refine ⟨rfl, ?_⟩
            have hcell : ∀ i x jj cc, xs[i]? = some x → lget (emb u x) jj = some cc → ∃ v, w.cell? ⟨ad.block, ad.off + (i * u.sz + jj), none⟩ = some v ∧ v.oneCell' = true ∧ Rel w (Eall w) cc v := by
              intro i x jj cc hx hcc
              obtain ⟨ci, hci, hop, _⟩ := hxs i x hx
              have hjj : jj < u.sz := by have := (List.getElem?_eq_some_iff.1 (lget_eq _ _ ▸ hcc)).1; rwa [emb_length] at this
              have hjl : jj < ci.length := by rw [hop.1]; exact hjj
              have hv : ci[jj]? = some ci[jj] := List.getElem?_eq_getElem hjl
              have hw := (cells_some hci).2 jj _ hv
              obtain ⟨g1, g2⟩ := hop.2 jj cc _ hcc hv
              have hsp : ad.spot = none ∨ i * P.cellsOf e ≠ 0 := by
                by_cases hz : i * P.cellsOf e = 0
                · left
                  have h0 := (cells_some hci).2 0 _ (List.getElem?_eq_getElem (by omega : 0 < ci.length))
                  rw [hz] at h0
                  exact (cell_block (by simpa [Addr.add] using h0)).2
                · exact .inr hz
              have hadd : (ad.add (i * P.cellsOf e)).add jj = ⟨ad.block, ad.off + (i * u.sz + jj), none⟩ := by
                rw [h2] at hsp ⊢
                obtain ⟨bb, oo, sp⟩ := ad
                by_cases hz : i * u.sz = 0
                · have hsp' : sp = none := by
                    rcases hsp with h | h
                    · exact h
                    · exact absurd hz h
                  subst hsp'
                  simp [Addr.add_eq, hz]
                · have : (⟨bb, oo, sp⟩ : Addr).add (i * u.sz) = ⟨bb, oo + i * u.sz, none⟩ := by simp [Addr.add, hz]
                  rw [this, Addr.add_eq, Nat.add_assoc]
              rw [hadd] at hw
              exact ⟨_, hw, g1, g2⟩
            have hsp : xs ≠ [] → ad = ⟨ad.block, ad.off, none⟩ := by
              intro hne
              obtain ⟨x, hx⟩ : ∃ x, xs[0]? = some x := by
                cases hxx : xs with
                | nil => exact absurd hxx hne
                | cons y l => exact ⟨y, rfl⟩
              obtain ⟨ci, hci, hop, _⟩ := hxs 0 x hx
              have hjl : 0 < ci.length := by rw [hop.1]; exact hsz
              have hw := (cells_some hci).2 0 _ (List.getElem?_eq_getElem hjl)
              have := (cell_block (by simpa [Addr.add] using hw)).2
              obtain ⟨bb, oo, sp⟩ := ad
              simp only at this
              subst this
              rfl
            have key : Rel w (Eall w) (.tl u xs) (.slice (some ad) xs.length cap) := by
              refine .tl _ _ _ _ ad.block ad.off cap (fun i jj => (w.cell? ⟨ad.block, ad.off + (i * u.sz + jj), none⟩).getD undef) (by rw [hxl]; exact hcond.2.1) (fun h => congrArg some (hsp h)) (fun i x jj cc hx hcc => ?_) fun i x jj cc hx hcc => ?_
              · obtain ⟨v, k1, k2, k3⟩ := hcell i x jj cc hx hcc
                refine ⟨by rw [k1]; rfl, by rw [k1]; exact k2, (cell_block k1).1⟩
              · obtain ⟨v, k1, k2, k3⟩ := hcell i x jj cc hx hcc
                rw [k1]
                exact k3.closed (clL_get (emb_cl u x) hcc)
            rw [hxl] at key
            exact key
          · intro R hR
            rw [← hd] at hR
            have hall : ∀ (l : List (DataW H)) (x : DataW H) (m : Nat), x ∈ l → m ∈ x.weights P e → m ∈ DataW.weightsAll P e l := by
              intro l
              induction l with
              | nil => intro x m hx; cases hx
              | cons y l ih =>
                intro x m hx hm
                simp only [DataW.weightsAll, List.mem_append]
                rcases List.mem_cons.1 hx with rfl | hx
                · exact .inl hm
                · exact .inr (ih x m hx hm)
            have hw0 : ∀ m ∈ (DataW.slice (elems.map (·.1)) (rest.map (·.1))).weights P t, m ≤ R := hR
            simp only [DataW.weights, hu] at hw0
            refine ⟨?_, fun x hx => ?_⟩
            · have := hw0 _ (List.mem_cons_self ..)
              have h9 : xs.length * 8 ≤ ((elems.map (·.1)).length + (rest.map (·.1)).length) * P.bytesOf e := Nat.mul_le_mul (by rw [hxl, List.length_map, hlen]; omega) h8
              exact Nat.le_trans h9 this
            · obtain ⟨i, hi⟩ := List.getElem?_of_mem hx
              obtain ⟨ci, hci, hop, hbb⟩ := hxs i x hi
              have hil : i < elems.length := by have := (List.getElem?_eq_some_iff.1 hi).1; omega
              have hei : (elems.map (·.1))[i]? = some (elems[i].1) := by simp [hil]
              exact hbb _ hei R fun m hm => hw0 m (by
                refine List.mem_cons_of_mem _ (List.mem_append.2 (.inl ?_))
                exact hall _ _ m (List.mem_of_getElem? hei) hm)
    case struct fs =>
      obtain ⟨h1, h2⟩ := h
      simp only [DataW.trod, hu] at hd
      split at hd
      case isFalse => cases hd
      rename_i hlen
      simp only [Option.map_eq_some_iff] at hd
      obtain ⟨xs, hxs, hd⟩ := hd
      simp only [Prod.mk.injEq] at hd
      obtain ⟨hd, _⟩ := hd
      obtain ⟨x, hx, hb⟩ := fields_opensW (w := w) (fun t ty cs d ps h h' => trod_opensW n t ty h fuel base spare held cs d ps h') fs.toList 0 ty cs xs h1 (by rw [hlen, h2]; omega) hxs
      refine ⟨x, by simpa using hx, ?_⟩
      intro R hR
      rw [← hd] at hR
      exact hb R fun m hm => hR m (by simp only [DataW.weights, hu]; exact hm)

end Go.Ai

set_option linter.unusedSimpArgs false
set_option linter.unusedVariables false
set_option maxRecDepth 100000
namespace Go.Ai
open Go Go.RowKit

/-! ### Parts within parts -/
/-- All words of the part `s` are words of the part `t`. -/
def pInside (s t : ByteArray) : Bool :=
  match star? (bts t) with
  | none => decide (s = t)
  | some t' => match star? (bts s) with
    | some s' => decide (t' <:+ s')
    | none => (capt (bts s) t').isSome

/-- A word matches a part. -/
def mt (p w : ByteArray) : Bool := (mpart p w).isSome
theorem mt_star {p w : ByteArray} {s : List UInt8} (h : star? (bts p) = some s) : mt p w = (capt (bts w) s).isSome := by
  simp [mt, mpart, h]
theorem mt_lit {p w : ByteArray} (h : star? (bts p) = none) : mt p w = decide (w = p) := by
  simp only [mt, mpart, h]
  by_cases e : w = p <;> simp [e]
def mtAll : List ByteArray → List ByteArray → Bool
  | [], _ => true
  | _ :: _, [] => false
  | p :: ps, w :: ws => mt p w && mtAll ps ws
theorem mparts_isSome : ∀ (ps ws : List ByteArray), (mparts ps ws).isSome = mtAll ps ws
  | [], _ => rfl
  | _ :: _, [] => rfl
  | p :: ps, w :: ws => by
    have ih := mparts_isSome ps ws
    simp only [mparts, mtAll, mt]
    cases mpart p w with
    | none => rfl
    | some a =>
      rw [← ih]
      cases mparts ps ws <;> rfl
theorem pm_eq (p : Pat) (ws : List ByteArray) : pm p ws = (decide (patErr p = 0) && lenOK p ws.length && mtAll p.1 ws) := by
  unfold pm mwords
  rw [← mparts_isSome]
  by_cases h1 : patErr p = 0
  · cases h2 : lenOK p ws.length <;> simp [h1]
  · simp [h1]

theorem capt_isSome {w s : List UInt8} : (capt w s).isSome = true ↔ ∃ x, x ≠ [] ∧ w = x ++ s := by
  constructor
  · intro h
    obtain ⟨x, hx⟩ := Option.isSome_iff_exists.1 h
    obtain ⟨h1, h2⟩ := capt_some hx
    exact ⟨x, h2, h1⟩
  · rintro ⟨x, h1, rfl⟩
    rw [capt_append h1]
    rfl

theorem pInside_mt {s t w : ByteArray} (h : pInside s t = true) (hw : mt s w = true) : mt t w = true := by
  unfold pInside at h
  cases ht : star? (bts t) with
  | none =>
    rw [ht] at h
    simp only [decide_eq_true_eq] at h
    rw [← h]
    exact hw
  | some t' =>
    rw [ht] at h
    rw [mt_star ht, capt_isSome]
    cases hs : star? (bts s) with
    | none =>
      rw [hs] at h
      simp only at h
      rw [mt_lit hs, decide_eq_true_eq] at hw
      rw [hw]
      exact capt_isSome.1 h
    | some s' =>
      rw [hs] at h
      simp only [decide_eq_true_eq] at h
      rw [mt_star hs, capt_isSome] at hw
      obtain ⟨x, h1, h2⟩ := hw
      obtain ⟨y, rfl⟩ := h
      exact ⟨x ++ y, by simp [h1], by rw [h2]; simp⟩
/-- For words, to be within a part is to match it. -/
theorem pInside_word {w t : ByteArray} (hw : compB w = true) : pInside w t = mt t w := by
  have hn : star? (bts w) = none := star_comp hw
  unfold pInside
  cases ht : star? (bts t) with
  | none => rw [mt_lit ht]
  | some t' => rw [mt_star ht, hn]
theorem pInside_refl (s : ByteArray) : pInside s s = true := by
  unfold pInside
  cases h : star? (bts s) with
  | none => simp
  | some s' => simp

abbrev starB : ByteArray := ByteArray.mk #[42]
theorem star_starB : star? (bts starB) = some [] := by decide
/-- The part at a place: any word behind the parts. -/
def ptAt (p : Pat) (i : Nat) : ByteArray := (p.1[i]?).getD starB
theorem pInside_star {s : ByteArray} (h : isPart (bts s) = true) : pInside s starB = true := by
  unfold pInside
  rw [star_starB]
  simp only
  cases hs : star? (bts s) with
  | some s' => simp
  | none =>
    unfold isPart at h
    rw [hs] at h
    have hc : comp (bts s) = true := by simpa using h
    rw [capt_isSome]
    exact ⟨bts s, comp_ne hc, by simp⟩
theorem ptAt_part {p : Pat} (h : patErr p = 0) (i : Nat) : isPart (bts (ptAt p i)) = true := by
  unfold ptAt
  cases hi : p.1[i]? with
  | none => decide
  | some x => exact shapeOK_parts (patErr_zero.1 h).2.2.1 x (List.mem_of_getElem? hi)
theorem isPart_lit {s : ByteArray} (h : isPart (bts s) = true) (hs : star? (bts s) = none) : compB s = true := by
  unfold isPart at h
  rw [hs] at h
  simpa using h

/-! ### Lengths -/
def covA (h base : Pat) : Nat → Nat → Bool
  | _, 0 => true
  | i, k + 1 => pInside (ptAt base i) (ptAt h i) && covA h base (i + 1) k
/-- The hole is matched by all paths of the base with n words, from the word i on. -/
def covers (h base : Pat) (n i : Nat) : Bool := lenOK h n && covA h base i (n - i)
def fullB (g : Reg) (n : Nat) : Bool := g.2.any fun h => covers h g.1 n 0
def mostOf (g : Reg) : Nat := g.2.foldl (fun m h => max m h.1.length) g.1.1.length
def lenFrom (g : Reg) : Nat → Nat → Option Nat
  | 0, _ => none
  | k + 1, n => if lenOK g.1 n = true ∧ fullB g n = false then some n else lenFrom g k (n + 1)
def lengthG (g : Reg) : Option Nat := lenFrom g (mostOf g + 2 - g.1.1.length) g.1.1.length

def regErr (g : Reg) : Int := if patErr g.1 ≠ 0 then 50 else if (g.2.any fun h => decide (patErr h ≠ 0)) = true then 51 else if 64 < g.2.length then 52 else 0
def hasW (g : Reg) (ws : List ByteArray) : Bool := pm g.1 ws && !g.2.any fun h => pm h ws

theorem regErr_zero {g : Reg} : regErr g = 0 ↔ patErr g.1 = 0 ∧ (∀ h ∈ g.2, patErr h = 0) ∧ g.2.length ≤ 64 := by
  unfold regErr
  split
  · rename_i h; constructor
    · intro h; cases h
    · rintro ⟨h1, _⟩; exact absurd h1 h
  · rename_i h1
    split
    · rename_i h; constructor
      · intro h; cases h
      · rintro ⟨_, h2, _⟩
        obtain ⟨x, hx, hx'⟩ := List.any_eq_true.1 h
        simp only [decide_eq_true_eq] at hx'
        exact absurd (h2 x hx) hx'
    · rename_i h
      have hall : ∀ x ∈ g.2, patErr x = 0 := by
        intro x hx
        apply Classical.byContradiction
        intro hn
        exact h (List.any_eq_true.2 ⟨x, hx, by simpa using hn⟩)
      split
      · rename_i h3; constructor
        · intro h; cases h
        · rintro ⟨_, _, h4⟩; omega
      · rename_i h3
        exact ⟨fun _ => ⟨Classical.not_not.1 h1, hall, by omega⟩, fun _ => rfl⟩

theorem foldl_max_le (l : List Pat) : ∀ (m : Nat), m ≤ l.foldl (fun m h => max m h.1.length) m ∧ ∀ h ∈ l, h.1.length ≤ l.foldl (fun m h => max m h.1.length) m := by
  induction l with
  | nil => intro m; simp
  | cons x l ih =>
    intro m
    obtain ⟨h1, h2⟩ := ih (max m x.1.length)
    simp only [List.foldl_cons]
    refine ⟨by omega, fun h hh => ?_⟩
    rcases List.mem_cons.1 hh with rfl | hh
    · omega
    · exact h2 h hh
theorem mostOf_base (g : Reg) : g.1.1.length ≤ mostOf g := (foldl_max_le g.2 _).1
theorem mostOf_hole (g : Reg) {h : Pat} (hh : h ∈ g.2) : h.1.length ≤ mostOf g := (foldl_max_le g.2 _).2 h hh

theorem lenFrom_some {g : Reg} : ∀ {k n m : Nat}, lenFrom g k n = some m → n ≤ m ∧ m < n + k ∧ lenOK g.1 m = true ∧ fullB g m = false
  | 0, _, _, h => by cases h
  | k + 1, n, m, h => by
    unfold lenFrom at h
    split at h
    · rename_i hc; cases h; exact ⟨Nat.le_refl _, by omega, hc⟩
    · obtain ⟨h1, h2, h3⟩ := lenFrom_some h
      exact ⟨by omega, by omega, h3⟩
theorem lenFrom_least {g : Reg} : ∀ {k n m : Nat}, n ≤ m → m < n + k → lenOK g.1 m = true → fullB g m = false → ∃ m', lenFrom g k n = some m' ∧ m' ≤ m
  | 0, _, _, h1, h2, _, _ => by omega
  | k + 1, n, m, h1, h2, h3, h4 => by
    unfold lenFrom
    split
    · exact ⟨n, rfl, h1⟩
    · rename_i hc
      have : n ≠ m := fun e => by subst e; exact hc ⟨h3, h4⟩
      exact lenFrom_least (by omega) (by omega) h3 h4
theorem lenOK_le {p : Pat} {n : Nat} (h : lenOK p n = true) : p.1.length ≤ n := by
  unfold lenOK at h
  split at h <;> simp at h <;> omega
theorem lengthG_some {g : Reg} {n : Nat} (h : lengthG g = some n) : lenOK g.1 n = true ∧ fullB g n = false := (lenFrom_some h).2.2

theorem covA_true {h base : Pat} : ∀ {i k : Nat}, covA h base i k = true ↔ ∀ j, i ≤ j → j < i + k → pInside (ptAt base j) (ptAt h j) = true
  | i, 0 => by simp [covA]; omega
  | i, k + 1 => by
    rw [covA, Bool.and_eq_true, covA_true]
    constructor
    · rintro ⟨h1, h2⟩ j hj hj'
      by_cases e : j = i
      · subst e; exact h1
      · exact h2 j (by omega) (by omega)
    · intro h
      exact ⟨h i (Nat.le_refl _) (by omega), fun j hj hj' => h j (by omega) (by omega)⟩

/-- A length that is not covered is found, or a lesser one. -/
theorem lengthG_least {g : Reg} {N : Nat} (h1 : lenOK g.1 N = true) (h2 : fullB g N = false) : ∃ n, lengthG g = some n ∧ n ≤ N := by
  have hb := mostOf_base g
  have hle := lenOK_le h1
  by_cases h : N ≤ mostOf g + 1
  · exact lenFrom_least hle (by omega) h1 h2
  · have hr : g.1.2 = true := by
      unfold lenOK at h1
      split at h1
      · assumption
      · simp at h1; omega
    have h3 : lenOK g.1 (mostOf g + 1) = true := by
      unfold lenOK
      rw [if_pos hr]
      simp; omega
    have h4 : fullB g (mostOf g + 1) = false := by
      cases hf : fullB g (mostOf g + 1) with
      | false => rfl
      | true =>
        obtain ⟨x, hx, hc⟩ := List.any_eq_true.1 hf
        have hxl := mostOf_hole g hx
        unfold covers at hc
        rw [Bool.and_eq_true] at hc
        have hxr : x.2 = true := by
          have := hc.1
          unfold lenOK at this
          split at this
          · assumption
          · simp at this; omega
        have : covers x g.1 N 0 = true := by
          unfold covers
          rw [Bool.and_eq_true]
          refine ⟨by unfold lenOK; rw [if_pos hxr]; simp; omega, covA_true.2 fun j _ hj => ?_⟩
          by_cases hj' : j < mostOf g + 1
          · exact covA_true.1 hc.2 j (Nat.zero_le _) (by omega)
          · have e1 : ptAt g.1 j = starB := by
              unfold ptAt
              rw [List.getElem?_eq_none (by omega)]
              rfl
            have e2 : ptAt x j = starB := by
              unfold ptAt
              rw [List.getElem?_eq_none (by omega)]
              rfl
            rw [e1, e2]
            exact pInside_refl _
        have hcon : fullB g N = true := List.any_eq_true.2 ⟨x, hx, this⟩
        rw [h2] at hcon
        cases hcon
    obtain ⟨n, hn, hn'⟩ := lenFrom_least (k := mostOf g + 2 - g.1.1.length) (n := g.1.1.length) (by omega) (by omega) h3 h4
    exact ⟨n, hn, by omega⟩

theorem mtAll_get : ∀ {ps ws : List ByteArray}, mtAll ps ws = true ↔ ps.length ≤ ws.length ∧ ∀ (i : Nat) p w, ps[i]? = some p → ws[i]? = some w → mt p w = true
  | [], ws => by simp [mtAll]
  | p :: ps, [] => by simp [mtAll]
  | p :: ps, w :: ws => by
    rw [mtAll, Bool.and_eq_true, mtAll_get]
    constructor
    · rintro ⟨h1, h2, h3⟩
      refine ⟨by simp; omega, fun i q v hq hv => ?_⟩
      cases i with
      | zero => simp at hq hv; subst hq; subst hv; exact h1
      | succ i => exact h3 i q v (by simpa using hq) (by simpa using hv)
    · rintro ⟨h2, h3⟩
      exact ⟨h3 0 p w rfl rfl, by simpa using h2, fun i q v hq hv => h3 (i + 1) q v (by simpa using hq) (by simpa using hv)⟩

theorem mt_starB {w : ByteArray} (h : compB w = true) : mt starB w = true := by
  rw [mt_star star_starB, capt_isSome]
  exact ⟨bts w, comp_ne h, by simp⟩
/-- A path matches, place by place. -/
theorem pm_at {p : Pat} {ws : List ByteArray} (hp : patErr p = 0) (hc : ws.all compB = true) : pm p ws = true ↔ lenOK p ws.length = true ∧ ∀ (i : Nat) w, ws[i]? = some w → mt (ptAt p i) w = true := by
  rw [pm_eq, Bool.and_eq_true, Bool.and_eq_true, decide_eq_true_eq, mtAll_get]
  constructor
  · rintro ⟨⟨_, h2⟩, h3, h4⟩
    refine ⟨h2, fun i w hw => ?_⟩
    unfold ptAt
    cases hi : p.1[i]? with
    | none => exact mt_starB (List.all_eq_true.1 hc w (List.mem_of_getElem? hw))
    | some q => exact h4 i q w hi hw
  · rintro ⟨h1, h2⟩
    refine ⟨⟨hp, h1⟩, lenOK_le h1, fun i q w hq hw => ?_⟩
    have := h2 i w hw
    unfold ptAt at this
    rw [hq] at this
    exact this

/-- What is covered is matched. -/
theorem covers_pm {h base : Pat} {ws : List ByteArray} (hh : patErr h = 0) (hc : ws.all compB = true) {i : Nat} (hcov : covers h base ws.length i = true) (hlow : ∀ (j : Nat) w, j < i → ws[j]? = some w → mt (ptAt h j) w = true)
    (hb : ∀ (j : Nat) w, ws[j]? = some w → mt (ptAt base j) w = true) : pm h ws = true := by
  unfold covers at hcov
  rw [Bool.and_eq_true, covA_true] at hcov
  refine (pm_at hh hc).2 ⟨hcov.1, fun j w hw => ?_⟩
  by_cases hj : j < i
  · exact hlow j w hj hw
  · have hlt := (List.getElem?_eq_some_iff.1 hw).1
    exact pInside_mt (hcov.2 j (by omega) (by omega)) (hb j w hw)

theorem has_length {g : Reg} {ws : List ByteArray} (hg : regErr g = 0) (hc : ws.all compB = true) (h : hasW g ws = true) : lenOK g.1 ws.length = true ∧ fullB g ws.length = false := by
  unfold hasW at h
  rw [Bool.and_eq_true] at h
  obtain ⟨g1, g2, g3⟩ := regErr_zero.1 hg
  have hb := (pm_at g1 hc).1 h.1
  refine ⟨hb.1, ?_⟩
  cases hf : fullB g ws.length with
  | false => rfl
  | true =>
    obtain ⟨x, hx, hcov⟩ := List.any_eq_true.1 hf
    have := covers_pm (g2 x hx) hc hcov (fun j w hj _ => absurd hj (Nat.not_lt_zero _)) hb.2
    have h2 := h.2
    rw [Bool.not_eq_true', List.any_eq_false] at h2
    exact absurd this (by simpa using h2 x hx)
end Go.Ai

set_option linter.unusedSimpArgs false
set_option linter.unusedVariables false
set_option maxRecDepth 100000
namespace Go.Ai
open Go Go.RowKit

/-! ### The least path -/
/-- The bytes with which words begin, rising. -/
def firsts : List UInt8 := [43, 45, 48, 49, 50, 51, 52, 53, 54, 55, 56, 57, 65, 66, 67, 68, 69, 70, 71, 72, 73, 74, 75, 76, 77, 78, 79, 80, 81, 82, 83, 84, 85, 86, 87, 88, 89, 90, 95, 97, 98, 99, 100, 101, 102, 103, 104, 105, 106, 107, 108, 109, 110, 111, 112, 113, 114, 115, 116, 117, 118, 119, 120, 121, 122]
theorem firsts_nodup : firsts.Nodup := by decide
theorem firsts_mem (c : UInt8) : c ∈ firsts ↔ okByte c = true ∧ c ≠ 46 := by
  have h : ∀ c : Fin 256, decide ((UInt8.ofNat c.val) ∈ firsts) = (okByte (UInt8.ofNat c.val) && decide (UInt8.ofNat c.val ≠ 46)) := by decide +kernel
  have h1 := h ⟨c.toNat, c.toNat_lt⟩
  simp only [UInt8.ofNat_toNat] at h1
  constructor
  · intro hm
    rw [decide_eq_true hm] at h1
    simpa using h1.symm
  · rintro ⟨h2, h3⟩
    rw [h2, decide_eq_true h3] at h1
    exact of_decide_eq_true h1

/-- The words so far match the hole's parts. -/
def aliveFrom (h : Pat) : Nat → List ByteArray → Bool
  | _, [] => true
  | i, w :: l => pInside w (ptAt h i) && aliveFrom h (i + 1) l
def aliveH (h : Pat) (n : Nat) (l : List ByteArray) : Bool := lenOK h n && aliveFrom h 0 l
/-- No hole that is alive takes all that may follow. -/
def freeW (g : Reg) (n : Nat) (l : List ByteArray) (w : ByteArray) : Bool := !g.2.any fun h => aliveH h n l && covers h g.1 n (l.length + 1) && pInside w (ptAt h l.length)
def leastAt (g : Reg) (n : Nat) (l : List ByteArray) : Option ByteArray :=
  match star? (bts (ptAt g.1 l.length)) with
  | none => if freeW g n l (ptAt g.1 l.length) = true then some (ptAt g.1 l.length) else none
  | some s => (firsts.map fun c => ofB (c :: s)).find? (freeW g n l)
def leastW (g : Reg) (n : Nat) : Nat → List ByteArray → Option (List ByteArray)
  | 0, l => some l
  | k + 1, l => (leastAt g n l).bind fun w => leastW g n k (l ++ [w])
def leastG (g : Reg) : Option (List ByteArray) := (lengthG g).bind fun n => leastW g n n []

theorem aliveFrom_snoc (h : Pat) (w : ByteArray) : ∀ (l : List ByteArray) (i : Nat), aliveFrom h i (l ++ [w]) = (aliveFrom h i l && pInside w (ptAt h (i + l.length)))
  | [], i => by simp [aliveFrom]
  | v :: l, i => by
    rw [List.cons_append, aliveFrom, aliveFrom_snoc h w l (i + 1), aliveFrom, Bool.and_assoc, List.length_cons, show i + 1 + l.length = i + (l.length + 1) by omega]
theorem aliveH_snoc (h : Pat) (n : Nat) (l : List ByteArray) (w : ByteArray) : aliveH h n (l ++ [w]) = (aliveH h n l && pInside w (ptAt h l.length)) := by
  unfold aliveH
  rw [aliveFrom_snoc, Nat.zero_add, Bool.and_assoc]

/-- Something may follow. -/
def invL (g : Reg) (n : Nat) (l : List ByteArray) : Prop := ∀ h ∈ g.2, (aliveH h n l && covers h g.1 n l.length) = false

theorem freeW_inv {g : Reg} {n : Nat} {l : List ByteArray} {w : ByteArray} (h : freeW g n l w = true) : invL g n (l ++ [w]) := by
  intro x hx
  unfold freeW at h
  rw [Bool.not_eq_true', List.any_eq_false] at h
  have := h x hx
  rw [aliveH_snoc, List.length_append, List.length_singleton]
  cases h1 : aliveH x n l <;> cases h2 : covers x g.1 n (l.length + 1) <;> cases h3 : pInside w (ptAt x l.length) <;> simp [h1, h2, h3] at this ⊢

theorem covers_step {h base : Pat} {n i : Nat} (hi : i < n) : covers h base n i = (covers h base n (i + 1) && pInside (ptAt base i) (ptAt h i)) := by
  unfold covers
  have e : n - i = (n - (i + 1)) + 1 := by omega
  rw [e, covA]
  cases lenOK h n <;> cases pInside (ptAt base i) (ptAt h i) <;> simp

/-- More of the one than of the other: two have the same. -/
theorem pigeon {α β : Type} (R : β → α → Prop) : ∀ (m : List β) (l : List α), l.Nodup → (∀ a ∈ l, ∃ b ∈ m, R b a) → (∀ b ∈ m, ∀ a ∈ l, ∀ a' ∈ l, R b a → R b a' → a = a') → l.length ≤ m.length
  | [], l, _, h, _ => by
    cases l with
    | nil => simp
    | cons a l => obtain ⟨b, hb, _⟩ := h a (by simp); cases hb
  | b :: m, l, hn, h, hu => by
    by_cases hex : ∃ a ∈ l, R b a
    · obtain ⟨a, ha, hra⟩ := hex
      obtain ⟨s, t, hst⟩ := List.append_of_mem ha
      subst hst
      have hn' : (s ++ t).Nodup := (List.nodup_append.1 hn).elim fun h1 h2 => by
        rw [List.nodup_append] at hn ⊢
        refine ⟨hn.1, (List.nodup_cons.1 hn.2.1).2, fun x hx y hy => hn.2.2 x hx y (by simp [hy])⟩
      have hna : ∀ x ∈ s ++ t, x ≠ a := by
        intro x hx e
        subst e
        rw [List.nodup_append] at hn
        rcases List.mem_append.1 hx with hx | hx
        · exact hn.2.2 x hx x (by simp) rfl
        · exact (List.nodup_cons.1 hn.2.1).1 hx
      have ih := pigeon R m (s ++ t) hn' (fun x hx => by
        have hx' : x ∈ s ++ a :: t := by
          rcases List.mem_append.1 hx with hx | hx
          · simp [hx]
          · simp [hx]
        obtain ⟨y, hy, hr⟩ := h x hx'
        rcases List.mem_cons.1 hy with rfl | hy
        · exact absurd (hu y (by simp) x hx' a ha hr hra) (hna x hx)
        · exact ⟨y, hy, hr⟩) (fun y hy x hx x' hx' => hu y (by simp [hy]) x (by rcases List.mem_append.1 hx with hx | hx <;> simp [hx]) x' (by rcases List.mem_append.1 hx' with hx' | hx' <;> simp [hx']))
      simp only [List.length_append, List.length_cons] at ih ⊢
      omega
    · have ih := pigeon R m l hn (fun x hx => by
        obtain ⟨y, hy, hr⟩ := h x hx
        rcases List.mem_cons.1 hy with rfl | hy
        · exact absurd ⟨x, hx, hr⟩ hex
        · exact ⟨y, hy, hr⟩) (fun y hy => hu y (by simp [hy]))
      simp only [List.length_cons]
      omega

theorem mt_cons {c c' : UInt8} {s : List UInt8} {t : ByteArray} (hs : ∀ t', star? (bts t) = some t' → ¬ t' <:+ s) (h : mt t (ofB (c :: s)) = true) (h' : mt t (ofB (c' :: s)) = true) : c = c' := by
  cases ht : star? (bts t) with
  | none =>
    rw [mt_lit ht, decide_eq_true_eq] at h h'
    have := ofB_inj (h.trans h'.symm)
    injection this
  | some t' =>
    rw [mt_star ht, bts_ofB, capt_isSome] at h
    obtain ⟨x, hx, he⟩ := h
    exfalso
    apply hs t' ht
    cases x with
    | nil => exact absurd rfl hx
    | cons y x =>
      rw [List.cons_append] at he
      injection he with _ he
      exact ⟨x, he.symm⟩

theorem comp_first {c : UInt8} {s : List UInt8} (hc : c ∈ firsts) (hs : s.all okByte = true) : comp (c :: s) = true := by
  rw [comp_cons]
  have := (firsts_mem c).1 hc
  exact ⟨this.2, this.1, hs⟩

theorem leastAt_exists {g : Reg} {n : Nat} {l : List ByteArray} (hg : regErr g = 0) (hl : l.length < n) (hi : invL g n l) : ∃ w, leastAt g n l = some w ∧ freeW g n l w = true ∧ compB w = true ∧ mt (ptAt g.1 l.length) w = true := by
  obtain ⟨g1, g2, g3⟩ := regErr_zero.1 hg
  unfold leastAt
  cases hs : star? (bts (ptAt g.1 l.length)) with
  | none =>
    have hf : freeW g n l (ptAt g.1 l.length) = true := by
      unfold freeW
      rw [Bool.not_eq_true', List.any_eq_false]
      intro h hh hc
      have := hi h hh
      rw [covers_step hl] at this
      rw [← Bool.and_assoc] at this
      rw [this] at hc
      cases hc
    have hc := isPart_lit (ptAt_part g1 l.length) hs
    exact ⟨_, by simp [hf], hf, hc, by rw [mt_lit hs]; simp⟩
  | some s =>
    have hsok := (star_all hs).2
    cases hf : (firsts.map fun c => ofB (c :: s)).find? (freeW g n l) with
    | some w =>
      have hm := List.mem_of_find?_eq_some hf
      obtain ⟨c, hc, rfl⟩ := List.mem_map.1 hm
      refine ⟨_, hf, List.find?_some hf, by show comp (bts (ofB _)) = true; rw [bts_ofB]; exact comp_first hc hsok, ?_⟩
      rw [mt_star hs, bts_ofB, capt_isSome]
      exact ⟨[c], by simp, rfl⟩
    | none =>
      exfalso
      have hall := List.find?_eq_none.1 hf
      have hlen : firsts.length ≤ g.2.length := by
        refine pigeon (fun (h : Pat) (c : UInt8) => (aliveH h n l && covers h g.1 n (l.length + 1) && pInside (ofB (c :: s)) (ptAt h l.length)) = true) g.2 firsts firsts_nodup (fun c hc => ?_) (fun h hh c hc c' hc' h1 h2 => ?_)
        · have := hall _ (List.mem_map.2 ⟨c, hc, rfl⟩)
          unfold freeW at this
          rw [Bool.not_eq_true', Bool.not_eq_false] at this
          exact List.any_eq_true.1 this
        · rw [Bool.and_eq_true] at h1 h2
          have hw : compB (ofB (c :: s)) = true := by show comp (bts (ofB _)) = true; rw [bts_ofB]; exact comp_first hc hsok
          have hw' : compB (ofB (c' :: s)) = true := by show comp (bts (ofB _)) = true; rw [bts_ofB]; exact comp_first hc' hsok
          rw [pInside_word hw] at h1
          rw [pInside_word hw'] at h2
          refine mt_cons (fun t' ht hsuf => ?_) h1.2 h2.2
          have hin : pInside (ptAt g.1 l.length) (ptAt h l.length) = true := by
            unfold pInside
            rw [ht, hs]
            simpa using hsuf
          have := hi h hh
          rw [covers_step hl, hin, Bool.and_true, h1.1] at this
          cases this
      have : firsts.length = 65 := rfl
      omega

theorem leastW_spec {g : Reg} {n : Nat} (hg : regErr g = 0) : ∀ (k : Nat) (l : List ByteArray), l.length + k = n → invL g n l → l.all compB = true → (∀ (i : Nat) w, l[i]? = some w → mt (ptAt g.1 i) w = true) →
    ∃ r, leastW g n k l = some r ∧ r.length = n ∧ invL g n r ∧ r.all compB = true ∧ (∀ (i : Nat) w, r[i]? = some w → mt (ptAt g.1 i) w = true) ∧ ∃ t, r = l ++ t
  | 0, l, hl, hi, hc, hm => ⟨l, rfl, by omega, hi, hc, hm, [], by simp⟩
  | k + 1, l, hl, hi, hc, hm => by
    obtain ⟨w, h1, h2, h3, h4⟩ := leastAt_exists hg (by omega) hi
    obtain ⟨r, g1, g2, g3, g4, g5, t, g6⟩ := leastW_spec hg k (l ++ [w]) (by simp; omega) (freeW_inv h2) (by rw [List.all_append, hc]; simp [h3]) (fun i v hv => by
      rw [List.getElem?_append] at hv
      split at hv
      · exact hm i v hv
      · rename_i hge
        have : i = l.length := by
          have := (List.getElem?_eq_some_iff.1 hv).1
          simp at this
          omega
        subst this
        simp at hv
        subst hv
        exact h4)
    refine ⟨r, ?_, g2, g3, g4, g5, [w] ++ t, by rw [g6]; simp⟩
    unfold leastW
    rw [h1, Option.bind_some, g1]

theorem aliveFrom_iff {h : Pat} : ∀ {l : List ByteArray} {i : Nat}, l.all compB = true → (aliveFrom h i l = true ↔ ∀ (j : Nat) w, l[j]? = some w → mt (ptAt h (i + j)) w = true)
  | [], i, _ => by simp [aliveFrom]
  | w :: l, i, hc => by
    rw [List.all_cons, Bool.and_eq_true] at hc
    rw [aliveFrom, Bool.and_eq_true, pInside_word hc.1, aliveFrom_iff hc.2]
    constructor
    · rintro ⟨h1, h2⟩ j v hv
      cases j with
      | zero => simp at hv; subst hv; exact h1
      | succ j =>
        have := h2 j v (by simpa using hv)
        rwa [show i + 1 + j = i + (j + 1) by omega] at this
    · intro h1
      refine ⟨h1 0 w rfl, fun j v hv => ?_⟩
      have := h1 (j + 1) v (by simpa using hv)
      rwa [show i + (j + 1) = i + 1 + j by omega] at this
theorem aliveH_pm {h : Pat} {l : List ByteArray} (hh : patErr h = 0) (hc : l.all compB = true) : aliveH h l.length l = pm h l := by
  have e := pm_at hh hc
  have e2 := aliveFrom_iff (h := h) (i := 0) hc
  simp only [Nat.zero_add] at e2
  unfold aliveH
  cases hp : pm h l with
  | true =>
    obtain ⟨h1, h2⟩ := e.1 hp
    rw [h1, e2.2 h2]
    rfl
  | false =>
    cases h1 : lenOK h l.length with
    | false => rfl
    | true =>
      cases h2 : aliveFrom h 0 l with
      | false => rfl
      | true =>
        rw [e.2 ⟨h1, e2.1 h2⟩] at hp
        cases hp

theorem invL_nil {g : Reg} {n : Nat} (h : fullB g n = false) : invL g n [] := by
  intro x hx
  have := List.any_eq_false.1 h x hx
  cases hc : covers x g.1 n 0 with
  | false => simp [hc]
  | true => exact absurd hc this

/-- The least path is one. -/
theorem leastG_spec {g : Reg} (hg : regErr g = 0) : (lengthG g = none ∧ leastG g = none) ∨ ∃ n l, lengthG g = some n ∧ leastG g = some l ∧ leastW g n n [] = some l ∧ l.length = n ∧ l.all compB = true ∧ hasW g l = true := by
  obtain ⟨g1, g2, g3⟩ := regErr_zero.1 hg
  unfold leastG
  cases hn : lengthG g with
  | none => exact .inl ⟨rfl, rfl⟩
  | some n =>
    right
    obtain ⟨h1, h2⟩ := lengthG_some hn
    obtain ⟨r, k1, k2, k3, k4, k5, _⟩ := leastW_spec hg n [] (by simp) (invL_nil h2) rfl (fun i w h => by simp at h)
    refine ⟨n, r, rfl, k1, k1, k2, k4, ?_⟩
    subst k2
    unfold hasW
    rw [Bool.and_eq_true]
    refine ⟨(pm_at g1 k4).2 ⟨h1, k5⟩, ?_⟩
    rw [Bool.not_eq_true', List.any_eq_false]
    intro x hx hp
    have := k3 x hx
    rw [aliveH_pm (g2 x hx) k4, hp] at this
    have hc : covers x g.1 r.length r.length = true := by
      unfold covers
      rw [Nat.sub_self, covA, Bool.and_true]
      have := (pm_at (g2 x hx) k4).1 hp
      exact this.1
    rw [hc] at this
    cases this
theorem leastG_length {g : Reg} {l : List ByteArray} (hg : regErr g = 0) (h : leastG g = some l) : 2 ≤ l.length := by
  rcases leastG_spec hg with ⟨_, h2⟩ | ⟨n, r, h1, h2, _, h3, h4, h5⟩
  · rw [h2] at h; cases h
  · rw [h2] at h
    cases h
    obtain ⟨g1, _⟩ := regErr_zero.1 hg
    unfold hasW at h5
    rw [Bool.and_eq_true] at h5
    have hb := (pm_at g1 h4).1 h5.1
    obtain ⟨p1, p2, _⟩ := patErr_zero.1 g1
    have := hb.1
    unfold lenOK at this
    split at this
    · simp at this; omega
    · rename_i hr
      simp at this
      by_cases h1 : g.1.1.length = 1
      · exact absurd (p2 h1) hr
      · omega

/-! ### The order of paths -/
def cmpB (a b : ByteArray) : Int := Lib.compareBytes (bts a) (bts b)
def ordW : List ByteArray → List ByteArray → Int
  | a :: as', b :: bs => if a.size ≠ b.size then (a.size : Int) - b.size else if cmpB a b ≠ 0 then cmpB a b else ordW as' bs
  | _, _ => 0
def orderW (a b : List ByteArray) : Int := if a.length ≠ b.length then (a.length : Int) - b.length else ordW a b

theorem firsts_sorted : firsts.Pairwise (fun a b => a.toNat < b.toNat) := by decide
theorem toList_bts (s : ByteArray) : s.toList = bts s := Lib.toList_data s

theorem cmpB_self (a : ByteArray) : cmpB a a = 0 := by
  have h : ∀ l : List UInt8, Lib.compareBytes l l = 0 := by
    intro l
    induction l with
    | nil => rfl
    | cons x l ih =>
      have hx : ¬ x < x := by simp [UInt8.lt_iff_toNat_lt]
      unfold Lib.compareBytes
      rw [if_neg hx, if_neg hx, ih]
  exact h _
theorem cmpB_lt {c c' : UInt8} {s : List UInt8} (h : c.toNat < c'.toNat) : cmpB (ofB (c :: s)) (ofB (c' :: s)) = -1 := by
  unfold cmpB
  rw [bts_ofB, bts_ofB]
  have hlt : c < c' := h
  unfold Lib.compareBytes
  rw [if_pos hlt]

theorem find_first {p : UInt8 → Bool} {c c' : UInt8} (h : firsts.find? p = some c) (hc : c' ∈ firsts) (hp : p c' = true) : c = c' ∨ c.toNat < c'.toNat := by
  obtain ⟨_, xs, ys, hxy, hno⟩ := List.find?_eq_some_iff_append.1 h
  rw [hxy] at hc
  rcases List.mem_append.1 hc with hc | hc
  · have := hno c' hc
    rw [hp] at this
    cases this
  · rcases List.mem_cons.1 hc with hc | hc
    · exact .inl hc.symm
    · right
      have := firsts_sorted
      rw [hxy, List.pairwise_append] at this
      exact (List.pairwise_cons.1 this.2.1).1 c' hc

theorem leastW_min {g : Reg} {n : Nat} (hg : regErr g = 0) {p : List ByteArray} (hp : hasW g p = true) (hc : p.all compB = true) (hn : p.length = n) : ∀ (k : Nat) (l q r : List ByteArray), l.length + k = n → p = l ++ q → leastW g n k l = some r → ∃ t, r = l ++ t ∧ ordW t q ≤ 0
  | 0, l, q, r, hl, hpq, h => by
    cases h
    refine ⟨[], by simp, ?_⟩
    simp [ordW]
  | k + 1, l, q, r, hl, hpq, h => by
    obtain ⟨g1, g2, g3⟩ := regErr_zero.1 hg
    unfold leastW at h
    obtain ⟨w, hw, h⟩ := Option.bind_eq_some_iff.1 h
    have hql : q.length = k + 1 := by
      have := congrArg List.length hpq
      rw [List.length_append] at this
      omega
    match q, hql, hpq with
    | v :: q', hql, hpq =>
    have hget : p[l.length]? = some v := by rw [hpq]; simp
    have hcv : compB v = true := List.all_eq_true.1 hc v (List.mem_of_getElem? hget)
    have hpp := hp
    unfold hasW at hpp
    rw [Bool.and_eq_true] at hpp
    have hb := (pm_at g1 hc).1 hpp.1
    have hmv := hb.2 _ _ hget
    have hfree : freeW g n l v = true := by
      unfold freeW
      rw [Bool.not_eq_true', List.any_eq_false]
      intro x hx hcon
      rw [Bool.and_eq_true, Bool.and_eq_true, pInside_word hcv] at hcon
      obtain ⟨⟨h1, h2⟩, h3⟩ := hcon
      have hlc : l.all compB = true := by
        rw [hpq, List.all_append, Bool.and_eq_true] at hc
        exact hc.1
      unfold aliveH at h1
      rw [Bool.and_eq_true] at h1
      have ha := (aliveFrom_iff (i := 0) hlc).1 h1.2
      have hpm : pm x p = true := by
        rw [← hn] at h2
        refine covers_pm (g2 x hx) hc h2 (fun j u hj hu => ?_) hb.2
        by_cases hjl : j < l.length
        · have : l[j]? = some u := by rw [hpq, List.getElem?_append, if_pos hjl] at hu; exact hu
          have := ha j u this
          rwa [Nat.zero_add] at this
        · have : j = l.length := by omega
          subst this
          rw [hget] at hu
          cases hu
          exact h3
      have hno := hpp.2
      rw [Bool.not_eq_true', List.any_eq_false] at hno
      exact absurd hpm (by simpa using hno x hx)
    have hcont : w = v → ∃ t, r = l ++ t ∧ ordW t (v :: q') ≤ 0 := by
      intro e
      subst e
      obtain ⟨t, ht, ht'⟩ := leastW_min hg hp hc hn k (l ++ [w]) q' r (by simp; omega) (by rw [hpq]; simp) h
      refine ⟨w :: t, by rw [ht]; simp, ?_⟩
      rw [ordW, if_neg (fun hh => hh rfl), if_neg (fun hh => hh (cmpB_self w))]
      exact ht'
    have htl : ∃ t, r = l ++ w :: t := by
      have key : ∀ (k : Nat) (l r : List ByteArray), leastW g n k l = some r → ∃ t, r = l ++ t := by
        intro k
        induction k with
        | zero => intro l r h; cases h; exact ⟨[], by simp⟩
        | succ k ih =>
          intro l r h
          unfold leastW at h
          obtain ⟨w, _, h⟩ := Option.bind_eq_some_iff.1 h
          obtain ⟨t, ht⟩ := ih _ _ h
          exact ⟨[w] ++ t, by rw [ht]; simp⟩
      obtain ⟨t, ht⟩ := key k _ _ h
      exact ⟨t, by rw [ht]; simp⟩
    unfold leastAt at hw
    cases hs : star? (bts (ptAt g.1 l.length)) with
    | none =>
      rw [hs] at hw
      simp only at hw
      split at hw
      · cases hw
        rw [mt_lit hs, decide_eq_true_eq] at hmv
        exact hcont hmv.symm
      · cases hw
    | some s =>
      rw [hs] at hw
      simp only [List.find?_map] at hw
      obtain ⟨c, hfc, rfl⟩ := Option.map_eq_some_iff.1 hw
      rw [mt_star hs, capt_isSome] at hmv
      obtain ⟨x, hx, hvx⟩ := hmv
      obtain ⟨t, ht⟩ := htl
      by_cases hxl : x.length = 1
      · match x, hxl with
        | [c'], _ =>
        have hv' : v = ofB (c' :: s) := by rw [← ofB_bts v, hvx]; rfl
        have hc'm : c' ∈ firsts := by
          rw [firsts_mem]
          have : comp (bts v) = true := hcv
          rw [hvx] at this
          have := comp_cons.1 (show comp (c' :: s) = true from this)
          exact ⟨this.2.1, this.1⟩
        rcases find_first hfc hc'm (by show freeW g n l (ofB (c' :: s)) = true; rw [← hv']; exact hfree) with e | e
        · subst e
          exact hcont hv'.symm
        · refine ⟨ofB (c :: s) :: t, ht, ?_⟩
          rw [hv', ordW, if_neg (by rw [size_ofB, size_ofB]; simp), if_pos (by rw [cmpB_lt e]; decide), cmpB_lt e]
          decide
      · refine ⟨ofB (c :: s) :: t, ht, ?_⟩
        have hvs : v.size = x.length + s.length := by rw [size_bts, hvx, List.length_append]
        have hx1 : 0 < x.length := List.length_pos_iff.2 hx
        rw [ordW, if_pos (by rw [size_ofB, List.length_cons]; omega), size_ofB, List.length_cons]
        omega

/-- No path of the region comes ahead of the least. -/
theorem leastG_min {g : Reg} (hg : regErr g = 0) {p : List ByteArray} (hp : hasW g p = true) (hc : p.all compB = true) : ∃ l, leastG g = some l ∧ orderW l p ≤ 0 := by
  obtain ⟨h1, h2⟩ := has_length hg hc hp
  obtain ⟨n, hn, hle⟩ := lengthG_least h1 h2
  rcases leastG_spec hg with ⟨h3, _⟩ | ⟨n', l, h3, h4, h5, h6, h7, h8⟩
  · rw [hn] at h3; cases h3
  · rw [hn] at h3
    cases h3
    refine ⟨l, h4, ?_⟩
    unfold orderW
    by_cases he : l.length = p.length
    · rw [if_neg (fun h => h he)]
      obtain ⟨t, ht, hto⟩ := leastW_min hg hp hc (by omega) n [] p l (by simp) (by simp) h5
      rw [List.nil_append] at ht
      subst ht
      exact hto
    · rw [if_pos he]
      omega
end Go.Ai

set_option linter.unusedSimpArgs false
set_option linter.unusedVariables false
set_option maxRecDepth 100000
namespace Go.Ai
open Go Go.RowKit

/-! ### Parts and patterns that say what both say -/
def narrow (a b : ByteArray) : Option ByteArray := if pInside a b = true then some a else if pInside b a = true then some b else none
def meetL : List ByteArray → List ByteArray → Option (List ByteArray)
  | [], _ => some []
  | _ :: _, [] => none
  | a :: l, b :: m => (narrow a b).bind fun c => (meetL l m).map fun r => c :: r
/-- Of two patterns, the first with no more parts. -/
def meetS (p q : Pat) : Option Pat :=
  if p.1.length < q.1.length ∧ p.2 = false then none else if p.1.length = q.1.length ∧ p.2 ≠ q.2 then none else (meetL p.1 q.1).map fun l => (l ++ q.1.drop p.1.length, q.2)
def meetP (p q : Pat) : Option Pat :=
  if patErr p ≠ 0 ∨ patErr q ≠ 0 then none else if q.1.length < p.1.length then meetS q p else meetS p q
def withinP (p q : Pat) : Bool := decide (meetP p q = some p)

theorem narrow_eq {a b : ByteArray} : narrow a b = some a ↔ pInside a b = true := by
  unfold narrow
  split
  · simp [*]
  · rename_i h
    constructor
    · intro h2
      split at h2
      · cases h2
        exact absurd (pInside_refl _) h
      · cases h2
    · intro h2; exact absurd h2 h
theorem narrow_some {a b c : ByteArray} (h : narrow a b = some c) : c = a ∨ c = b := by
  unfold narrow at h
  split at h
  · cases h; exact .inl rfl
  · split at h
    · cases h; exact .inr rfl
    · cases h
theorem narrow_part {a b c : ByteArray} (ha : isPart (bts a) = true) (hb : isPart (bts b) = true) (h : narrow a b = some c) : isPart (bts c) = true := by
  rcases narrow_some h with rfl | rfl
  · exact ha
  · exact hb

theorem meetL_length : ∀ {l m r : List ByteArray}, meetL l m = some r → r.length = l.length ∧ l.length ≤ m.length
  | [], _, _, h => by cases h; simp
  | _ :: _, [], _, h => by cases h
  | a :: l, b :: m, r, h => by
    simp only [meetL, Option.bind_eq_some_iff, Option.map_eq_some_iff] at h
    obtain ⟨c, _, r', hr, rfl⟩ := h
    obtain ⟨h1, h2⟩ := meetL_length hr
    simp; omega

theorem form_a : form (bts (ByteArray.mk #[97])) = 1 := by decide
theorem comp_litA : comp (bts (ByteArray.mk #[97])) = true := by decide
/-- The pattern of one part behind a word. -/
theorem patErr_two {s : ByteArray} (h : isPart (bts s) = true) : patErr ([ByteArray.mk #[97], s], false) = 0 := by
  rw [patErr_zero]
  refine ⟨by simp, by simp, ?_, by simp⟩
  simp [shapeOK, comp_litA, h]
theorem within_two {s t : ByteArray} (hs : isPart (bts s) = true) (ht : isPart (bts t) = true) : withinP ([ByteArray.mk #[97], s], false) ([ByteArray.mk #[97], t], false) = pInside s t := by
  have hmp : meetP ([ByteArray.mk #[97], s], false) ([ByteArray.mk #[97], t], false) = (narrow s t).map fun c => ([ByteArray.mk #[97], c], false) := by
    have hn : narrow (ByteArray.mk #[97]) (ByteArray.mk #[97]) = some (ByteArray.mk #[97]) := narrow_eq.2 (pInside_refl _)
    unfold meetP meetS
    rw [if_neg (by rw [patErr_two hs, patErr_two ht]; simp), if_neg (by simp), if_neg (by simp), if_neg (by simp)]
    simp only [meetL, hn, Option.bind_some]
    cases narrow s t <;> simp
  unfold withinP
  rw [hmp]
  cases h : pInside s t with
  | true =>
    rw [narrow_eq.2 h]
    simp
  | false =>
    apply decide_eq_false
    intro hc
    obtain ⟨c, h1, h2⟩ := Option.map_eq_some_iff.1 hc
    have hcs : c = s := by
      injection h2 with h2 _
      injection h2 with _ h2
      injection h2
    rw [hcs, narrow_eq, h] at h1
    cases h1
end Go.Ai

set_option linter.unusedSimpArgs false
set_option linter.unusedVariables false
namespace Go.Ai
open Go Go.RowKit

/-! ### Bits -/
theorem wrap_u64' (n : Int) : IntKind.wrap .u64 n = n % 18446744073709551616 := by
  unfold IntKind.wrap
  rfl
theorem ofInt_toNat (a : BitVec 64) : BitVec.ofInt (IntKind.bits .u64) (a.toNat : Int) = a := by
  show BitVec.ofInt 64 (a.toNat : Int) = a
  apply BitVec.eq_of_toNat_eq
  rw [BitVec.toNat_ofInt]
  have := a.isLt
  omega
theorem wrap_toNat (a : BitVec 64) : IntKind.wrap .u64 (a.toNat : Int) = (a.toNat : Int) := by
  rw [wrap_u64']
  have := a.isLt
  omega
theorem one_shift {k : Nat} (hk : k < 64) : BitVec.ofInt (IntKind.bits .u64) (IntKind.wrap .u64 (1 * 2 ^ (min (Int.toNat (k : Int)) (IntKind.bits .u64)))) = BitVec.twoPow 64 k := by
  have h1 : min (Int.toNat (k : Int)) (IntKind.bits .u64) = k := by
    rw [Int.toNat_natCast]; exact Nat.min_eq_left (Nat.le_of_lt hk)
  rw [h1, Int.one_mul]
  have h2 : (2 : Int) ^ k = ((2 ^ k : Nat) : Int) := by simp
  have h3 : 2 ^ k < 2 ^ 64 := Nat.pow_lt_pow_right (by omega) hk
  rw [wrap_u64', h2]
  have h4 : ((2 ^ k : Nat) : Int) % 18446744073709551616 = ((2 ^ k : Nat) : Int) := by
    generalize 2 ^ k = m at h3
    omega
  rw [h4]
  show BitVec.ofInt 64 ((2 ^ k : Nat) : Int) = _
  apply BitVec.eq_of_toNat_eq
  rw [BitVec.toNat_ofInt, BitVec.toNat_twoPow]
  generalize 2 ^ k = m at h3
  omega
theorem bit_set (a : BitVec 64) {k : Nat} (hk : k < 64) : IntKind.wrap .u64 ((BitVec.ofInt (IntKind.bits .u64) (a.toNat : Int) ||| BitVec.ofInt (IntKind.bits .u64) (IntKind.wrap .u64 (1 * 2 ^ (min (Int.toNat (k : Int)) (IntKind.bits .u64))))).toNat : Int) = ((a ||| BitVec.twoPow 64 k).toNat : Int) := by
  rw [ofInt_toNat, one_shift hk]
  exact wrap_toNat _
theorem bit_clear (a : BitVec 64) {k : Nat} (hk : k < 64) : IntKind.wrap .u64 ((BitVec.ofInt (IntKind.bits .u64) (a.toNat : Int) &&& ~~~ BitVec.ofInt (IntKind.bits .u64) (IntKind.wrap .u64 (1 * 2 ^ (min (Int.toNat (k : Int)) (IntKind.bits .u64))))).toNat : Int) = ((a &&& ~~~ BitVec.twoPow 64 k).toNat : Int) := by
  rw [ofInt_toNat, one_shift hk]
  exact wrap_toNat _
theorem bit_test (a : BitVec 64) {k : Nat} (hk : k < 64) : (IntKind.wrap .u64 ((BitVec.ofInt (IntKind.bits .u64) (Int.fdiv (a.toNat : Int) (2 ^ (min (Int.toNat (k : Int)) (IntKind.bits .u64)))) &&& BitVec.ofInt (IntKind.bits .u64) 1).toNat : Int) : Int) = 1 ↔ a.getLsbD k = true := by
  have h1 : min (Int.toNat (k : Int)) (IntKind.bits .u64) = k := by
    rw [Int.toNat_natCast]; exact Nat.min_eq_left (Nat.le_of_lt hk)
  rw [h1]
  have h2 : (2 : Int) ^ k = ((2 ^ k : Nat) : Int) := by simp
  have h3 : Int.fdiv (a.toNat : Int) (2 ^ k) = ((a >>> k).toNat : Int) := by
    rw [h2, BitVec.toNat_ushiftRight, Nat.shiftRight_eq_div_pow, Int.fdiv_eq_ediv_of_nonneg _ (Int.natCast_nonneg _)]
    rfl
  rw [h3, ofInt_toNat]
  have h4 : BitVec.ofInt (IntKind.bits .u64) 1 = 1#64 := rfl
  rw [h4]
  have h5 : (a >>> k &&& 1#64).toNat = if a.getLsbD k = true then 1 else 0 := by
    rw [BitVec.toNat_and, BitVec.toNat_ushiftRight]
    have : (1#64).toNat = 1 := rfl
    rw [this, Nat.and_one_is_mod, Nat.shiftRight_eq_div_pow]
    have h6 : a.getLsbD k = Nat.testBit a.toNat k := rfl
    rw [h6, Nat.testBit_eq_decide_div_mod_eq]
    have : a.toNat / 2 ^ k % 2 < 2 := Nat.mod_lt _ (by omega)
    by_cases h : a.toNat / 2 ^ k % 2 = 1
    · simp [h]
    · simp [h]; omega
  show IntKind.wrap .u64 (((a >>> k &&& 1#64).toNat : Nat) : Int) = 1 ↔ _
  generalize (a >>> k &&& 1#64).toNat = m at h5
  rw [h5, wrap_u64']
  cases a.getLsbD k <;> decide
theorem get_set (a : BitVec 64) {k j : Nat} (hk : k < 64) (hj : j < 64) : (a ||| BitVec.twoPow 64 k).getLsbD j = (a.getLsbD j || decide (k = j)) := by
  rw [BitVec.getLsbD_or, BitVec.getLsbD_twoPow]
  simp [hj, hk]
theorem get_clear (a : BitVec 64) {k j : Nat} (hk : k < 64) (hj : j < 64) : (a &&& ~~~ BitVec.twoPow 64 k).getLsbD j = (a.getLsbD j && !decide (k = j)) := by
  rw [BitVec.getLsbD_and, BitVec.getLsbD_not, BitVec.getLsbD_twoPow]
  simp [hj, hk]

theorem any_same {α : Type} {p q : α → Bool} : ∀ {l : List α}, (∀ x ∈ l, p x = q x) → l.any p = l.any q
  | [], _ => rfl
  | x :: l, h => by rw [List.any_cons, List.any_cons, h x (by simp), any_same fun y hy => h y (by simp [hy])]

theorem idx_loop {S O α : Type} {F : Nat → S → Option O} {B : (S → Option O) → S → Option O} (hF : ∀ n st, F (n + 1) st = B (F n) st) (xs : List α)
    (mk : Nat → S) (p : α → Bool) (r : Nat → O) (fin : O)
    (hB : ∀ (rec : S → Option O) i (h : i < xs.length), B rec (mk i) = if p xs[i] = true then some (r i) else rec (mk (i + 1)))
    (hE : ∀ rec : S → Option O, B rec (mk xs.length) = some fin) :
    ∀ (k i fuel : Nat), i + k = xs.length → k < fuel → (∃ j, F fuel (mk i) = some (r j) ∧ (xs.drop i).any p = true ∧ j < xs.length) ∨ (F fuel (mk i) = some fin ∧ (xs.drop i).any p = false)
  | 0, i, fuel + 1, h, _ => by
    have h' : i = xs.length := by omega
    subst h'
    right
    rw [List.drop_length, hF, hE]
    exact ⟨rfl, rfl⟩
  | k + 1, i, fuel + 1, h, hf => by
    have hlt : i < xs.length := by omega
    rw [List.drop_eq_getElem_cons hlt, hF, hB _ _ hlt, List.any_cons]
    cases p xs[i] with
    | true => exact .inl ⟨i, rfl, rfl, hlt⟩
    | false =>
      simp only [Bool.false_eq_true, if_false, Bool.false_or]
      exact idx_loop hF xs mk p r fin hB hE k (i + 1) fuel (by omega) (by omega)
end Go.Ai

set_option linter.unusedVariables false
set_option linter.unusedSimpArgs false
namespace Go.Ai
open Go Go.RowKit

/-! ### The order of bytes -/
def ltB : List UInt8 → List UInt8 → Bool
  | [], [] => false
  | [], _ :: _ => true
  | _ :: _, [] => false
  | a :: l, b :: m => if a.toNat < b.toNat then true else if b.toNat < a.toNat then false else ltB l m

theorem ltB_irrefl : ∀ l, ltB l l = false
  | [] => rfl
  | a :: l => by simp [ltB, ltB_irrefl l]
theorem ltB_trans : ∀ l m n, ltB l m = true → ltB m n = true → ltB l n = true
  | [], m, [], h1, h2 => by cases m <;> simp [ltB] at h1 h2
  | [], m, _ :: _, h1, h2 => rfl
  | a :: l, [], n, h1, h2 => by simp [ltB] at h1
  | a :: l, b :: m, [], h1, h2 => by simp [ltB] at h2
  | a :: l, b :: m, c :: n, h1, h2 => by
    simp only [ltB] at h1 h2 ⊢
    by_cases e1 : a.toNat < b.toNat
    · by_cases e2 : b.toNat < c.toNat
      · rw [if_pos (by omega)]
      · rw [if_neg e2] at h2
        by_cases e3 : c.toNat < b.toNat
        · rw [if_pos e3] at h2; cases h2
        · rw [if_pos (by omega)]
    · rw [if_neg e1] at h1
      by_cases e3 : b.toNat < a.toNat
      · rw [if_pos e3] at h1; cases h1
      · rw [if_neg e3] at h1
        by_cases e2 : b.toNat < c.toNat
        · rw [if_pos (by omega)]
        · rw [if_neg e2] at h2
          by_cases e4 : c.toNat < b.toNat
          · rw [if_pos e4] at h2; cases h2
          · rw [if_neg e4] at h2
            rw [if_neg (by omega), if_neg (by omega)]
            exact ltB_trans l m n h1 h2
theorem ltB_total : ∀ l m, ltB l m = false → ltB m l = false → l = m
  | [], [], _, _ => rfl
  | [], _ :: _, h, _ => by simp [ltB] at h
  | _ :: _, [], _, h => by simp [ltB] at h
  | a :: l, b :: m, h1, h2 => by
    simp only [ltB] at h1 h2
    by_cases e1 : a.toNat < b.toNat
    · rw [if_pos e1] at h1; cases h1
    · by_cases e2 : b.toNat < a.toNat
      · rw [if_pos e2] at h2; cases h2
      · rw [if_neg e1, if_neg e2] at h1
        rw [if_neg e2, if_neg e1] at h2
        have : a = b := UInt8.toNat_inj.1 (by omega)
        rw [this, ltB_total l m h1 h2]
theorem ltB_cmp : ∀ l m, decide (Lib.compareBytes l m < 0) = ltB l m
  | [], [] => rfl
  | [], _ :: _ => rfl
  | _ :: _, [] => rfl
  | a :: l, b :: m => by
    unfold Lib.compareBytes ltB
    by_cases e1 : a < b
    · rw [if_pos e1, if_pos (UInt8.lt_iff_toNat_lt.1 e1)]; rfl
    · rw [if_neg e1, if_neg fun h => e1 (UInt8.lt_iff_toNat_lt.2 h)]
      by_cases e2 : b < a
      · rw [if_pos e2, if_pos (UInt8.lt_iff_toNat_lt.1 e2)]; rfl
      · rw [if_neg e2, if_neg fun h => e2 (UInt8.lt_iff_toNat_lt.2 h)]
        exact ltB_cmp l m
theorem ltB_ntrans (l m n : List UInt8) (h1 : ltB l m = false) (h2 : ltB m n = false) : ltB l n = false := by
  cases h : ltB l n with
  | false => rfl
  | true =>
    cases h3 : ltB m l with
    | true => rw [ltB_trans m l n h3 h] at h2; cases h2
    | false =>
      have := ltB_total l m h1 h3
      subst this
      rw [h] at h2; cases h2
theorem less_ltB : ∀ l m, Op.bytesLess l m = ltB l m
  | [], [] => rfl
  | [], _ :: _ => rfl
  | _ :: _, [] => rfl
  | a :: l, b :: m => by
    unfold Op.bytesLess ltB
    by_cases e1 : a < b
    · rw [if_pos (UInt8.lt_iff_toNat_lt.1 e1)]; simp [e1]
    · rw [if_neg fun h => e1 (UInt8.lt_iff_toNat_lt.2 h)]
      by_cases e2 : b < a
      · rw [if_pos (UInt8.lt_iff_toNat_lt.1 e2)]
        have hne : (a == b) = false := by
          refine beq_eq_false_iff_ne.2 fun h => ?_
          subst h
          exact e1 e2
        simp [e1, hne]
      · rw [if_neg fun h => e2 (UInt8.lt_iff_toNat_lt.2 h)]
        have heq : a = b := by
          have h1 : ¬ a.toNat < b.toNat := fun h => e1 (UInt8.lt_iff_toNat_lt.2 h)
          have h2 : ¬ b.toNat < a.toNat := fun h => e2 (UInt8.lt_iff_toNat_lt.2 h)
          exact UInt8.toNat_inj.1 (by omega)
        simp only [e1, heq, beq_self_eq_true, decide_false, Bool.false_or, Bool.true_and]
        subst heq
        simp
        exact less_ltB l m
end Go.Ai
