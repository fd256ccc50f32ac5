/- A part of the proof of a law of this seat (AiStep, AiDraw, AiRegion, AiCode, AiShape, AiLoop, AiK, AiRun). -/
import Derived.Test.YtcmfkmhmehhkpaaDoorAa
import Derived.Laws.CopyRow
set_option linter.unusedSimpArgs false
set_option linter.unusedVariables false
namespace Go.Ai
open Go Go.RowKit

def Sim (GL : World → Prop) (B0 : Nat) (ok0 : Bool → Nat → Nat → Prop) (w0 : World) (used : Nat → Prop) (fr : List AV) (dead : Nat → Bool) (a : Act) (w : World) : Prop :=
  ∃ E : Env, E.dead = dead ∧ Inv GL B0 ok0 w0 w E used ∧ RelL w E fr a.tmps

section
variable {P : Program} {GL : World → Prop} {B0 : Nat} {ok0 : Bool → Nat → Nat → Prop} {w0 w : World} {E : Env} {used : Nat → Prop} {id : Nat} {o : Oper} {a : Act} {r : AV} {dead' : Nat → Bool}
variable {T : Nat → Option TI} {O : Nat → List AV → Option AV}

theorem RelL.mono {w' : World} {E' : Env} {as : List AV} {vs : Array Value} (h : RelL w E as vs) (m : Mono w E w' E') : RelL w' E' as vs := ⟨h.1, fun i a v ha hv => (h.2 i a v ha hv).mono m⟩

theorem lset_length {α : Type} (l : List α) (i : Nat) (v : α) : (lset l i v).length = l.length := by simp [lset_eq]

theorem RelL.put {fr : List AV} {d : Option Nat} {v : Value} (h : RelL w E fr a.tmps) (hr : Rel w E r v) : RelL w E (aput fr d r) (a.put d v).tmps := by
  cases d with
  | none => exact h
  | some d =>
    simp only [aput, Act.put]
    refine ⟨by simp [lset_length, h.1], fun i x u hx hu => ?_⟩
    rw [lget_eq, lset_eq, List.getElem?_set] at hx
    rw [Array.getElem?_setIfInBounds] at hu
    by_cases e : d = i
    · subst e
      simp only [if_true] at hx hu
      split at hx
      · rename_i hlt
        rw [if_pos (by rw [h.1]; exact hlt)] at hu
        cases hx; cases hu; exact hr
      · cases hx
    · rw [if_neg e] at hx hu
      exact h.2 i x u (by rw [lget_eq]; exact hx) hu

theorem awanted_sound {ops : Array Oper} {fr : List AV} {b : Bool} (hf : RelL w E fr a.tmps) (h : awanted ops.toList o fr = some b) : Region.wanted o (yielded ops a.tmps) = b := by
  unfold awanted at h
  unfold Region.wanted
  split at h
  · rename_i hg
    rw [hg]
    cases h; rfl
  · rename_i j want hg
    rw [hg]
    simp only [Option.bind_eq_some_iff] at h
    obtain ⟨p, hp, d, hd, x, hx, h⟩ := h
    have hp' : ops[j]? = some p := by rw [lget_eq] at hp; simpa using hp
    have hlt : d < a.tmps.size := by rw [hf.1]; rw [lget_eq] at hx; exact (List.getElem?_eq_some_iff.1 hx).1
    have hget : a.tmps[d]? = some a.tmps[d] := by simp [hlt]
    have hr := hf.2 d x _ hx hget
    generalize a.tmps[d] = v at hr hget
    split at h
    · cases h
      cases hr
      simp [yielded, hp', hd, hget]
    · cases h
      cases hr with
      | tup _ _ vs hs _ =>
      simp [yielded, hp', hd, hget]
    · cases h

/-- Without variables. -/
def Env.nobox (E : Env) : Env := { E with lv := fun k i => E.lv k i ∧ k = false }

theorem Rel.nobox {a : AV} {v : Value} (h : Rel w E a v) (hnb : a.nb = true) : Rel w E.nobox a v := by
  induction h with
  | bot => exact .bot _ _
  | int => exact .int _ _ _
  | bool => exact .bool _ _
  | str => exact .str _ _
  | snil => exact .snil _
  | agg E cs vs hs h1 h ih => exact .agg _ _ _ hs h1 fun i a v ha hv => ih i a v ha hv (nbL_get hnb ha)
  | tup E cs vs hs h ih => exact .tup _ _ _ hs fun i a v ha hv => ih i a v ha hv (nbL_get hnb ha)
  | tl E t xs a b o cap cv hcap ha hc hr ih => exact (Rel.tl E t xs a b o cap cv hcap ha hc hr).ofClosed rfl fun _ _ _ h => h
  | clip E t xs a h ih => exact .clip _ _ _ _ h
  | own E id e t xs v h ho ih =>
    refine .own _ _ _ _ _ _ h fun hd => ?_
    rcases ho hd with hn | ⟨h1, h2⟩
    · exact .inl hn
    · exact .inr ⟨⟨h1, rfl⟩, h2⟩
  | box => simp [AV.nb] at hnb
  | eptr E cs b o cv hcl' hc hr ih => exact (Rel.eptr E cs b o cv hcl' hc hr).ofClosed rfl fun _ _ _ h => h
  | fn E f caps vs hs h ih => exact .fn _ _ _ _ hs fun i a v ha hv => ih i a v ha hv (nbL_get hnb ha)

theorem ocell_nb {a : AV} (h : a.ocell = true) : a.nb = true := by
  cases a <;> simp [AV.ocell, AV.nb] at h ⊢
  exact h

/-- A store into a variable leaves what leads to no variable. -/
theorem Rel.keep_nb {q : Nat} {w' : World} {a : AV} {v : Value} (h : Rel w E a v) (hnb : a.nb = true) (hi : Inv GL B0 ok0 w0 w E used) (hl : E.lv true q) (hother : ∀ b, b ≠ E.σ q → w'.heap[b]? = w.heap[b]?) : Rel w' E a v := by
  have hne : ∀ i, E.lv false i → E.σ i ≠ E.σ q := fun i h e => by have := (hi.inj _ _ _ _ h hl e).1; cases this
  have m : Mono w E.nobox w' E.nobox := by
    refine ⟨fun _ _ _ h => h, fun k b o h => cell_other (hother b ?_), fun _ h => h, fun i h => (by cases h.2), fun i _ h => ⟨h, rfl, hother _ (hne i h.1), fun _ _ h => h⟩⟩
    rintro rfl
    exact hi.box q hl _ _ h
  have m2 : Mono w' E.nobox w' E := ⟨fun _ _ _ h => h, fun _ _ _ _ => rfl, fun _ h => h, fun i h => (by cases h.2), fun i _ h => ⟨h.1, rfl, rfl, fun _ _ h => h⟩⟩
  exact ((h.nobox hnb).mono m).mono m2

theorem Inv.setRow {g : Nat} (hi : Inv GL B0 ok0 w0 w E used) (hg : B0 ≤ g) (cs : Array Value) : Inv GL B0 ok0 w0 (w.setRow g cs) E used := by
  refine { hi with below := hi.below.trans ⟨rfl, rfl, rfl, by simp, fun k hk => setRow_other w g k cs (by omega)⟩, base := by simpa using hi.base, okB := fun k b o h => by simpa using hi.okB k b o h, lvb := fun k i h => by simpa using hi.lvb k i h }

/-- A store into a variable. -/
theorem sim_store (hT : TOK P T) {t : TypeId} {x y : Operand} {ti : TI} {q off : Nat} {cs : List AV} {v : AV} {fr : List AV} (hti : T t = some ti)
    (hx : Rel w E (.box q off cs) (a.eval x)) (hy : Rel w E v (a.eval y)) (ho : ocells v.cells = true) (hoc : ocells cs = true) (hl : v.cells.length = ti.sz) (hle : off + ti.sz ≤ cs.length) (hi : Inv GL B0 ok0 w0 w E used) (hf : RelL w E fr a.tmps) :
    ∃ w', (Instr.storeAt t (a.eval x) (a.eval y)).run P w = .ok () w' ∧ Inv GL B0 ok0 w0 w' E used ∧ RelL w' E (updL q (cs.take off ++ v.cells ++ cs.drop (off + ti.sz)) fr) a.tmps := by
  have hc := CellsRel.of_cells hy ho
  generalize hxv : a.eval x = vx at hx
  generalize hyv : a.eval y = vy at hy hc
  cases hx with
  | box _ _ _ _ arr TT hlv hh hs h1 hok hr =>
  have hsz := run_sizeOf (hT.facts hti) w
  have hcsz : vy.cells.size = ti.sz := by have := hc.1; simp at this; omega
  have hst := run_storeCells_at (P := P) (E.σ q) off TT vy.cells.toList 0 arr w hh (by simp; omega) (fun u hu => by
    obtain ⟨j, hj⟩ := List.getElem?_of_mem hu
    exact hc.2.1 j u hj)
  let new : List AV := cs.take off ++ v.cells ++ cs.drop (off + ti.sz)
  let arr' : Array Value := (arr.toList.take off ++ vy.cells.toList ++ arr.toList.drop (off + ti.sz)).toArray
  have hCR : CellsRel w E cs arr.toList := ⟨by simpa using hs, fun j u hu => h1 j u (by simpa using hu), fun j c u hj hu => hr j c u hj (by simpa using hu)⟩
  have hnew : CellsRel w E new arr'.toList := ((hCR.take off).app hc).app (hCR.drop (off + ti.sz))
  have e1 : w.setRow (E.σ q) (arr.toList.take (off + 0) ++ vy.cells.toList ++ arr.toList.drop (off + 0 + vy.cells.toList.length)).toArray = w.setRow (E.σ q) arr' := by
    simp [arr', hcsz]
  have hheap : (w.setRow (E.σ q) arr').heap[E.σ q]? = some (.cells arr' TT (0, 0)) := setRow_heap w _ _ _ _ _ hh
  have hw : Inv GL B0 ok0 w0 (w.setRow (E.σ q) arr') E used := hi.setRow (hi.lvb _ _ hlv).1 _
  have hsz' : arr'.size = new.length := by have := hnew.1; simpa using this
  refine ⟨w.setRow (E.σ q) arr', ?_, hw, by rw [updL_length]; exact hf.1, fun i z u hz hu => ?_⟩
  · rw [e1] at hst
    simp [Instr.storeAt, Instr.sureAddr, storeVar, hsz, hcsz, hst]
  · rw [lget_updL] at hz
    obtain ⟨z', hz', rfl⟩ := Option.map_eq_some_iff.1 hz
    have hinj : ∀ k i, E.lv k i → E.σ i = E.σ q → k = true ∧ i = q := fun k i h e => by
      obtain ⟨h2, h3⟩ := hi.inj k i true q h hlv e
      exact ⟨h2, h3⟩
    have hother : ∀ b, b ≠ E.σ q → (w.setRow (E.σ q) arr').heap[b]? = w.heap[b]? := fun b hb => setRow_other w _ b _ hb
    have h1' : ∀ (i : Nat) (v : Value), arr'[i]? = some v → v.oneCell' = true := fun i v hv => hnew.2.1 i v (by simpa using hv)
    have hocn : ocells new = true := by
      have app : ∀ l m : List AV, ocells l = true → ocells m = true → ocells (l ++ m) = true := by
        intro l m h h'
        induction l with
        | nil => exact h'
        | cons x l ih => simp [ocells] at h ⊢; exact ⟨h.1, ih h.2⟩
      have tk : ∀ (l : List AV) (n : Nat), ocells l = true → ocells (l.take n) = true := by
        intro l
        induction l with
        | nil => intro n h; simp [ocells]
        | cons x l ih => intro n h; cases n <;> simp [ocells] at h ⊢; exact ⟨h.1, ih _ h.2⟩
      have dr : ∀ (l : List AV) (n : Nat), ocells l = true → ocells (l.drop n) = true := by
        intro l
        induction l with
        | nil => intro n h; simp [ocells]
        | cons x l ih => intro n h; cases n <;> simp [ocells] at h ⊢ <;> first | exact h | exact ih _ h.2
      exact app _ _ (app _ _ (tk _ _ hoc) ho) (dr _ _ hoc)
    have hnr : ∀ i c u, lget new i = some c → arr'[i]? = some u → Rel (w.setRow (E.σ q) arr') E c u := fun i c u hc' hu' =>
      (hnew.2.2 i c u hc' (by simpa using hu')).keep_nb (ocell_nb (ocells_get hocn hc')) hi hlv hother
    exact Rel.upd hlv hother hheap hsz' h1' hok hinj hnr (hf.2 i z' u hz' hu)

/-- One operation. -/
theorem astep_sound (hT : TOK P T) (hO : OOK P GL O) {ops : Array Oper} {i : Nat} {s s' : AS} {Q : Exit → Act → World → Prop} {K : Act → World → Prop} (hs : Sim GL B0 ok0 w0 used s.fr s.dead a w) (hid : ¬ used id) (ho : ops[i]? = some o)
    (h : astep T O ops.toList id o s = some s') (hK : ∀ a' w', Sim GL B0 ok0 w0 (fun i => used i ∨ i = id) s'.fr s'.dead a' w' → a'.defers = a.defers → K a' w') : wpOp P ops Q i K a w := by
  obtain ⟨E, hd, hi, hf⟩ := hs
  unfold wpOp
  rw [ho]
  simp only [astep, Option.bind_eq_some_iff] at h
  obtain ⟨b, hb, h⟩ := h
  simp only [awanted_sound hf hb]
  have hput : ∀ (d : Option Nat) (v : Value), (a.put d v).defers = a.defers := by
    intro d v
    cases d <;> rfl
  split at h
  · rename_i hfalse
    subst hfalse
    cases h
    simp only [Bool.false_eq_true, if_false]
    exact hK _ _ ⟨E, hd, hi.mono fun i h => .inl h, hf.put (.tup _ _ _ rfl fun i a v h => by simp [lget] at h)⟩ (hput _ _)
  · rename_i hne
    have hbt : b = true := by simpa using hne
    simp only [hbt, if_true]
    refine .inl ?_
    split at h
    · rename_i t x y hop
      split at h
      · cases h
      rename_i hdst
      have hdst : o.dst = none := by
        cases hh : o.dst
        · rfl
        · simp [hh] at hdst
      simp only [Option.bind_eq_some_iff] at h
      obtain ⟨ti, hti, p, hp, v, hv, h⟩ := h
      split at h
      case h_2 => cases h
      rename_i q off cs
      split at h
      · cases h
      rename_i hcond
      cases h
      have h1 : ocells v.cells = true := by
        cases hh : ocells v.cells
        · exact absurd (.inl hh) hcond
        · rfl
      have h2 : ocells cs = true := by
        cases hh : ocells cs
        · exact absurd (.inr (.inl hh)) hcond
        · rfl
      have h3 : v.cells.length = ti.sz := Decidable.byContradiction fun hh => hcond (.inr (.inr (.inl hh)))
      have h4 : off + ti.sz ≤ cs.length := Decidable.byContradiction fun hh => hcond (.inr (.inr (.inr (by omega))))
      obtain ⟨w', hr, hi', hf'⟩ := sim_store hT hti (aget_rel hf hp) (aget_rel hf hv) h1 h2 h3 h4 hi hf
      have hrun : (execOp a.eval o).run P w = .ok .skip w' := by
        simp [execOp, hop, hr]
      unfold Oper.wp
      rw [hrun, Oper.upon_skip, hdst]
      exact hK _ _ ⟨E, hd, hi'.mono fun i h => .inl h, hf'⟩ rfl
    · simp only [Option.bind_eq_some_iff] at h
      obtain ⟨r, hr, d, hk, h⟩ := h
      cases h
      rw [← hd] at hk
      refine aval_sound hT hO hf hi hid hr hk K Q fun v w' E' hE' m hinv hrel => ?_
      exact hK _ _ ⟨E', hE', hinv, (hf.mono m).put hrel⟩ (hput _ _)
end
end Go.Ai

set_option linter.unusedSimpArgs false
set_option linter.unusedVariables false
namespace Go.Ai
open Go Go.RowKit
section
variable {T : Nat → Option TI} {O : Nat → List AV → Option AV} {ops : List Oper} {id id' : Nat} {o x y : Oper}

theorem agets_congr {fr fr' : List AV} : ∀ {xs : List Operand}, (∀ x ∈ xs, aget fr x = aget fr' x) → agets fr xs = agets fr' xs
  | [], _ => rfl
  | x :: l, h => by
    simp only [agets]
    rw [h x (by simp), agets_congr (xs := l) fun y hy => h y (by simp [hy])]

theorem aparts_congr {fr fr' : List AV} : ∀ {xs : List (Nat × Operand)}, (∀ x ∈ xs, aget fr x.2 = aget fr' x.2) → aparts fr xs = aparts fr' xs
  | [], _ => rfl
  | (i, x) :: l, h => by
    simp only [aparts]
    rw [h (i, x) (by simp), aparts_congr (xs := l) fun y hy => h y (by simp [hy])]

theorem agetO_congr {fr fr' : List AV} {x : Option Operand} (h : ∀ y, x = some y → aget fr y = aget fr' y) : agetO fr x = agetO fr' x := by
  cases x with
  | none => rfl
  | some y => simp only [agetO]; rw [h y rfl]

theorem aval_congr {fr fr' : List AV} (h : ∀ x ∈ o.op.operands.toList, aget fr x = aget fr' x) : aval T O id o fr = aval T O id o fr' := by
  obtain ⟨dst, op, type, pos, after, guard⟩ := o
  cases op <;> simp only [Op.operands] at h <;> simp only [aval]
  case move x => rw [h x (by simp)]
  case assign x => rw [h x (by simp)]
  case pick c a b => rw [h c (by simp), h a (by simp), h b (by simp)]
  case box t x => rw [h x (by simp)]
  case load t x => rw [h x (by simp)]
  case nilCheck x => rw [h x (by simp)]
  case unOp op t x => cases op <;> simp only [aval] <;> rw [h x (by simp)]
  case convert s t x => rw [h x (by simp)]
  case fieldAddr t x f => rw [h x (by simp)]
  case field t x f => rw [h x (by simp)]
  case extract x i => rw [h x (by simp)]
  case build t ps => rw [aparts_congr fun p hp => h p.2 (by simp; exact ⟨p.1, by simpa using hp⟩)]
  case buildSlice t n ps => rw [aparts_congr fun p hp => h p.2 (by simp; exact ⟨p.1, by simpa using hp⟩)]
  case binOp op t x y t' => rw [h x (by simp), h y (by simp)]
  case indexAddr t x y => rw [h x (by simp), h y (by simp)]
  case index t x y => rw [h x (by simp), h y (by simp)]
  case makeSlice t x y => rw [h x (by simp), h y (by simp)]
  case makeFunc fn first caps =>
    cases fn <;> simp only [aval]
    rw [agets_congr fun x hx => h x (by simp [Array.mem_toList_iff.1 hx])]
  case slice t x lo hi mx =>
    rw [h x (by simp), agetO_congr (x := lo) fun y e => h y (by simp [e]), agetO_congr (x := hi) fun y e => h y (by simp [e]), agetO_congr (x := mx) fun y e => h y (by simp [e])]
  case call c =>
    obtain ⟨cal, xs, ts⟩ := c
    have hx : agets fr xs.toList = agets fr' xs.toList := agets_congr fun x hx => h x (by simp [Call.operands]; exact .inr (by simpa using hx))
    cases cal <;> simp only [hx]
    rename_i f
    rw [h f (by simp [Call.operands])]

/-- An operation that stores nothing. -/
def astepV (T : Nat → Option TI) (O : Nat → List AV → Option AV) (ops : List Oper) (id : Nat) (o : Oper) (fr : List AV) : Option (AV × Option Nat) :=
  (awanted ops o fr).bind fun b => if b = false then some (.tup [], none) else aval T O id o fr

theorem astep_form (hl : local? o = true) (s : AS) : astep T O ops id o s = (astepV T O ops id o s.fr).bind fun r => (akill r.2 s.dead).bind fun d => some { s with fr := aput s.fr o.dst r.1, dead := d } := by
  unfold astep astepV
  cases hw : awanted ops o s.fr with
  | none => rfl
  | some b =>
    simp only [Option.bind_some]
    cases b with
    | false => simp [akill]
    | true =>
      simp only [Bool.true_eq_false, if_false]
      split
      · rename_i h
        simp [local?, h] at hl
      · rfl

theorem aget_put {fr : List AV} {d : Option Nat} {v : AV} {x : Operand} (h : ∀ t, d = some t → x ≠ .tmp t) : aget (aput fr d v) x = aget fr x := by
  cases d with
  | none => rfl
  | some d =>
    cases x with
    | tmp t =>
      have hne : d ≠ t := fun e => h d rfl (by rw [e])
      simp [aget, aput, lget_eq, lset_eq, List.getElem?_set_ne hne]
    | _ => rfl

theorem astepV_put {fr : List AV} {d : Option Nat} {v : AV} (ops' : Array Oper) (hops : ops = ops'.toList) (h : ∀ t, d = some t → t ∉ o.looksAt ops') : astepV T O ops id o (aput fr d v) = astepV T O ops id o fr := by
  have h1 : awanted ops o (aput fr d v) = awanted ops o fr := by
    unfold awanted
    cases hg : o.guard with
    | none => rfl
    | some g =>
      obtain ⟨j, want⟩ := g
      simp only
      cases hp : lget ops j with
      | none => rfl
      | some p =>
        simp only [Option.bind_some]
        cases hd : p.dst with
        | none => rfl
        | some t =>
          simp only [Option.bind_some]
          have : lget (aput fr d v) t = lget fr t := by
            have := aget_put (fr := fr) (d := d) (v := v) (x := .tmp t) (fun t' e => by
              rintro e2
              injection e2 with e2
              subst e2
              refine h _ e ?_
              simp only [Oper.looksAt, hg, List.mem_append]
              refine .inr ?_
              have : ops'[j]? = some p := by rw [lget_eq, hops] at hp; simpa using hp
              simp [this, hd])
            simpa [aget] using this
          rw [this]
  have h2 : aval T O id o (aput fr d v) = aval T O id o fr := by
    apply aval_congr
    intro x hx
    refine aget_put fun t e e2 => h t e ?_
    subst e2
    simp only [Oper.looksAt, List.mem_append]
    exact .inl (List.mem_filterMap.2 ⟨.tmp t, hx, rfl⟩)
  unfold astepV
  rw [h1, h2]

theorem akill_comm (a b : Option Nat) (d : Nat → Bool) : ((akill a d).bind fun d => akill b d) = (akill b d).bind fun d => akill a d := by
  cases a with
  | none =>
    show akill b d = _
    cases akill b d <;> rfl
  | some i =>
  cases b with
  | none =>
    show _ = akill (some i) d
    cases akill (some i) d <;> rfl
  | some j =>
  by_cases hi : d i = true <;> by_cases hj : d j = true <;> by_cases e : i = j
  all_goals first | (subst e; simp [akill, hi]; done) | (simp [akill, hi, hj, e, Ne.symm e]; done) | simp [akill, hi, hj, e, Ne.symm e]
  funext q
  by_cases h1 : q = i <;> by_cases h2 : q = j <;> simp [h1, h2]

theorem aput_comm (fr : List AV) {x y : Option Nat} (v u : AV) (h : ∀ d, x = some d → y ≠ some d) : aput (aput fr x v) y u = aput (aput fr y u) x v := by
  cases x with
  | none => rfl
  | some d =>
    cases y with
    | none => rfl
    | some e =>
      have hne : d ≠ e := fun he => h d rfl (he ▸ rfl)
      simp [aput, lset_eq, List.set_comm _ _ hne]

/-- Two operations that do not meet may change places. -/
theorem astep_comm (ops' : Array Oper) (hops : ops = ops'.toList) (hx : local? x = true) (hy : local? y = true) (ha : x.apart ops' y = true) (s : AS) :
    ((astep T O ops id x s).bind fun s => astep T O ops id' y s) = (astep T O ops id' y s).bind fun s => astep T O ops id x s := by
  obtain ⟨h1, h2, h3⟩ := Oper.apart_spec ha
  have e1 : ∀ s : AS, astep T O ops id x s = (astepV T O ops id x s.fr).bind fun r => (akill r.2 s.dead).bind fun d => some { s with fr := aput s.fr x.dst r.1, dead := d } := astep_form hx
  have e2 : ∀ s : AS, astep T O ops id' y s = (astepV T O ops id' y s.fr).bind fun r => (akill r.2 s.dead).bind fun d => some { s with fr := aput s.fr y.dst r.1, dead := d } := astep_form hy
  simp only [e1, e2]
  simp only [Option.bind_assoc, Option.bind_some, Option.bind_fun_some]
  have f1 : ∀ v, astepV T O ops id x (aput s.fr y.dst v) = astepV T O ops id x s.fr := fun v => astepV_put ops' hops fun t e => h3 t e
  have f2 : ∀ v, astepV T O ops id' y (aput s.fr x.dst v) = astepV T O ops id' y s.fr := fun v => astepV_put ops' hops fun t e => h1 t e
  simp only [f1, f2]
  cases hA : astepV T O ops id x s.fr with
  | none => cases astepV T O ops id' y s.fr <;> simp
  | some r =>
    cases hB : astepV T O ops id' y s.fr with
    | none => simp
    | some q =>
      simp only [Option.bind_some]
      have hk := akill_comm r.2 q.2 s.dead
      cases hr : akill r.2 s.dead with
      | none =>
        rw [hr] at hk
        cases hq : akill q.2 s.dead with
        | none => rfl
        | some d2 =>
          rw [hq] at hk
          simp only [Option.bind_some, Option.bind_none] at hk ⊢
          rw [← hk]; rfl
      | some d1 =>
        rw [hr] at hk
        cases hq : akill q.2 s.dead with
        | none =>
          rw [hq] at hk
          simp only [Option.bind_some, Option.bind_none] at hk ⊢
          rw [hk]; rfl
        | some d2 =>
          rw [hq] at hk
          simp only [Option.bind_some] at hk ⊢
          rw [hk]
          cases akill r.2 d2 with
          | none => rfl
          | some d3 => simp only [Option.bind_some]; rw [aput_comm _ _ _ fun d e => h2 d e]
end
end Go.Ai

set_option linter.unusedSimpArgs false
set_option linter.unusedVariables false
namespace Go.Ai
open Go Go.RowKit
section
variable {P : Program} {GL : World → Prop} {B0 : Nat} {ok0 : Bool → Nat → Nat → Prop} {w0 w : World} {a : Act} {Q : Exit → Act → World → Prop}
variable {T : Nat → Option TI} {O : Nat → List AV → Option AV} {ops : Array Oper} {base : Nat}

def stepIx (T : Nat → Option TI) (O : Nat → List AV → Option AV) (ops : Array Oper) (base i : Nat) (s : AS) : Option AS :=
  match lget ops.toList i with
  | some o => astep T O ops.toList (base + i) o s
  | none => some s

def runIx (T : Nat → Option TI) (O : Nat → List AV → Option AV) (ops : Array Oper) (base : Nat) : List Nat → AS → Option AS
  | [], s => some s
  | i :: l, s => (stepIx T O ops base i s).bind fun s => runIx T O ops base l s

theorem asteps_runIx : ∀ (l : List Oper) (i : Nat) (s : AS), ops.toList.drop i = l → asteps T O ops.toList base i l s = runIx T O ops base (List.range' i l.length) s
  | [], i, s, h => rfl
  | o :: l, i, s, h => by
    have ho : lget ops.toList i = some o := by
      rw [lget_eq]
      have : (ops.toList.drop i)[0]? = some o := by rw [h]; rfl
      simpa using this
    have hl : ops.toList.drop (i + 1) = l := by
      have : (ops.toList.drop i).drop 1 = l := by rw [h]; rfl
      rw [← this, List.drop_drop]
    simp only [asteps, List.length_cons, List.range'_succ, runIx, stepIx, ho]
    congr 1
    funext s
    exact asteps_runIx l (i + 1) s hl

theorem Sim.mono {used used' : Nat → Prop} {fr : List AV} {dead : Nat → Bool} (h : Sim GL B0 ok0 w0 used fr dead a w) (hu : ∀ i, used i → used' i) : Sim GL B0 ok0 w0 used' fr dead a w :=
  let ⟨E, h1, h2, h3⟩ := h; ⟨E, h1, h2.mono hu, h3⟩

theorem stepIx_sound (hT : TOK P T) (hO : OOK P GL O) {i : Nat} {s s' : AS} {used : Nat → Prop} {K : Act → World → Prop} (hs : Sim GL B0 ok0 w0 used s.fr s.dead a w) (hid : ¬ used (base + i))
    (h : stepIx T O ops base i s = some s') (hK : ∀ a' w', Sim GL B0 ok0 w0 (fun q => used q ∨ q = base + i) s'.fr s'.dead a' w' → a'.defers = a.defers → K a' w') : wpOp P ops Q i K a w := by
  unfold stepIx at h
  cases ho : ops[i]? with
  | none =>
    have : lget ops.toList i = none := by rw [lget_eq]; simpa using ho
    rw [this] at h
    cases h
    unfold wpOp
    rw [ho]
    exact hK _ _ (hs.mono fun q h => .inl h) rfl
  | some o =>
    have : lget ops.toList i = some o := by rw [lget_eq]; simpa using ho
    rw [this] at h
    exact astep_sound hT hO hs hid ho h hK

theorem runIx_sound (hT : TOK P T) (hO : OOK P GL O) : ∀ (l : List Nat) (s s' : AS) (used : Nat → Prop) (a : Act) (w : World), l.Nodup → (∀ i ∈ l, ¬ used (base + i)) → Sim GL B0 ok0 w0 used s.fr s.dead a w → runIx T O ops base l s = some s' →
    (∀ a' w', Sim GL B0 ok0 w0 (fun q => used q ∨ ∃ i ∈ l, q = base + i) s'.fr s'.dead a' w' → a'.defers = a.defers → Q .normal a' w') → wpOps P ops Q l a w
  | [], s, s', used, a, w, _, _, hs, h, hK => by
    cases h
    exact hK a w (hs.mono fun q h => .inl h) rfl
  | i :: l, s, s', used, a, w, hn, hu, hs, h, hK => by
    simp only [runIx, Option.bind_eq_some_iff] at h
    obtain ⟨s1, h1, h2⟩ := h
    rw [wpOps_cons]
    refine stepIx_sound hT hO hs (hu i (by simp)) h1 fun a' w' hs' hd => ?_
    refine runIx_sound hT hO l s1 s' _ a' w' (List.nodup_cons.1 hn).2 (fun j hj => ?_) hs' h2 fun a'' w'' hs'' hd' => hK a'' w'' (hs''.mono fun q hq => ?_) (hd'.trans hd)
    · rintro (hx | hx)
      · exact hu j (by simp [hj]) hx
      · have : j = i := by omega
        subst this
        exact (List.nodup_cons.1 hn).1 hj
    · rcases hq with (hq | hq) | ⟨j, hj, hq⟩
      · exact .inl hq
      · exact .inr ⟨i, by simp, hq⟩
      · exact .inr ⟨j, by simp [hj], hq⟩

/-! ### An order that is drawn -/
def unl (listed : Array Bool) (n : Nat) : List Nat := (List.range n).filter fun i => !(listed.getD i false)

theorem runIx_front {i : Nat} : ∀ (l1 l2 : List Nat) (s : AS), (∀ j ∈ l1, ∀ s : AS, ((stepIx T O ops base j s).bind fun s => stepIx T O ops base i s) = (stepIx T O ops base i s).bind fun s => stepIx T O ops base j s) →
    runIx T O ops base (l1 ++ i :: l2) s = (stepIx T O ops base i s).bind fun s => runIx T O ops base (l1 ++ l2) s
  | [], l2, s, _ => rfl
  | j :: l1, l2, s, h => by
    simp only [List.cons_append, runIx]
    have ih := fun s => runIx_front l1 l2 s fun k hk => h k (by simp [hk])
    simp only [ih]
    have hc := h j (by simp) s
    rw [← Option.bind_assoc, hc, Option.bind_assoc]

theorem befB_listed {listed : Array Bool} (hdown : ∀ k o, listed.getD k false = true → lget ops.toList k = some o → ∀ e ∈ o.after, Region.binds .any e = true → listed.getD e.on false = true) :
    ∀ (f j k : Nat), (listed.getD k false = true ∨ ∀ o, lget ops.toList k = some o → ∀ e ∈ o.after, Region.binds .any e = true → listed.getD e.on false = true) → befB ops.toList f j k = true → listed.getD j false = true
  | 0, j, k, _, h => by simp [befB] at h
  | f + 1, j, k, hk, h => by
    have hk' : ∀ o, lget ops.toList k = some o → ∀ e ∈ o.after, Region.binds .any e = true → listed.getD e.on false = true := by
      rcases hk with hk | hk
      · exact fun o ho => hdown k o hk ho
      · exact hk
    simp only [befB, Bool.or_eq_true, edge] at h
    cases ho : lget ops.toList k with
    | none => simp [ho] at h
    | some o =>
      simp only [ho, Option.map_some, Option.getD_some] at h
      rcases h with h | h
      · obtain ⟨i, hi, h⟩ := Array.any_eq_true.1 h
        simp only [Bool.and_eq_true, beq_iff_eq] at h
        rw [← h.2]
        exact hk' o ho _ (Array.getElem_mem hi) h.1
      · obtain ⟨i, hi, h⟩ := Array.any_eq_true.1 h
        simp only [Bool.and_eq_true] at h
        exact befB_listed hdown f j _ (.inl (hk' o ho _ (Array.getElem_mem hi) h.1)) h.2

theorem wpAny_runIx (hT : TOK P T) (hO : OOK P GL O) (hok : drawOK ops.toList = true) : ∀ (fuel : Nat) (listed : Array Bool) (s s' : AS) (a : Act) (w : World), listed.size = ops.size → (unl listed ops.size).length = fuel →
    (∀ k o, listed.getD k false = true → lget ops.toList k = some o → ∀ e ∈ o.after, Region.binds .any e = true → listed.getD e.on false = true) →
    Sim GL B0 ok0 w0 (fun q => q < base ∨ ∃ i, listed.getD i false = true ∧ q = base + i) s.fr s.dead a w → runIx T O ops base (unl listed ops.size) s = some s' →
    (∀ a' w', Sim GL B0 ok0 w0 (fun q => q < base + ops.size) s'.fr s'.dead a' w' → a'.defers = a.defers → Q .normal a' w') → wpAny P .any ops Q fuel listed a w := by
  intro fuel
  simp only [drawOK, Bool.and_eq_true, List.all_eq_true, List.mem_range, Bool.or_eq_true] at hok
  obtain ⟨hok1, hok2⟩ := hok
  have hgetD : ∀ (listed : Array Bool) (i : Nat), listed.size = ops.size → i < ops.size → listed.getD i true = listed.getD i false := by
    intro listed i h1 h2
    simp [Array.getD, h1, h2]
  have hready : ∀ (listed : Array Bool) (i : Nat), listed.size = ops.size → (i ∈ Region.ready .any ops listed ↔ i < ops.size ∧ listed.getD i false = false ∧ ∀ o, lget ops.toList i = some o → ∀ e ∈ o.after, Region.binds .any e = true → listed.getD e.on false = true) := by
    intro listed i hsz
    simp only [Region.ready, List.mem_filter, List.mem_range, Bool.and_eq_true]
    constructor
    · rintro ⟨h1, h2, h3⟩
      refine ⟨h1, by rw [hgetD listed i hsz h1] at h2; simpa using h2, fun o ho e he hb => ?_⟩
      have ho' : ops[i]? = some o := by rw [lget_eq] at ho; simpa using ho
      rw [ho'] at h3
      simp only [Option.map_some, Option.getD_some, Array.all_eq_true] at h3
      obtain ⟨q, hq, rfl⟩ := Array.mem_iff_getElem.1 he
      have := h3 q hq
      rw [hb] at this
      simpa using this
    · rintro ⟨h1, h2, h3⟩
      refine ⟨h1, by rw [hgetD listed i hsz h1]; simpa using h2, ?_⟩
      have ho' : ops[i]? = some ops[i] := by simp [h1]
      rw [ho']
      simp only [Option.map_some, Option.getD_some, Array.all_eq_true]
      intro q hq
      cases hb : Region.binds .any ops[i].after[q] with
      | false => simp
      | true =>
        have := h3 ops[i] (by rw [lget_eq]; simp [h1]) _ (Array.getElem_mem hq) hb
        simpa using this
  induction fuel with
  | zero =>
    intro listed s s' a w hsz hlen hdown hs hrun hK
    have hnil : unl listed ops.size = [] := List.eq_nil_of_length_eq_zero hlen
    have hall : ∀ i, i < ops.size → listed.getD i false = true := by
      intro i hi
      cases h : listed.getD i false with
      | false =>
        have : i ∈ unl listed ops.size := List.mem_filter.2 ⟨List.mem_range.2 hi, by simp only [h]; rfl⟩
        rw [hnil] at this; cases this
      | true => rfl
    refine ⟨?_, ?_⟩
    · cases hr : Region.ready .any ops listed with
      | nil => rfl
      | cons i l =>
        have hi : i ∈ Region.ready .any ops listed := by rw [hr]; simp
        obtain ⟨h1, h2, _⟩ := (hready listed i hsz).1 hi
        rw [hall i h1] at h2; cases h2
    · rw [hnil] at hrun
      cases hrun
      refine hK a w (hs.mono fun q hq => ?_) rfl
      rcases hq with hq | ⟨i, hi, rfl⟩
      · omega
      · have : i < listed.size := by
          refine Decidable.byContradiction fun hge => ?_
          simp [Array.getD, hge] at hi
        omega
  | succ fuel ih =>
    intro listed s s' a w hsz hlen hdown hs hrun hK
    have hmem : ∀ j, j ∈ unl listed ops.size → j < ops.size ∧ listed.getD j false = false := by
      intro j hj
      obtain ⟨h1, h2⟩ := List.mem_filter.1 hj
      exact ⟨List.mem_range.1 h1, by simpa only [Bool.not_eq_true'] using h2⟩
    refine ⟨fun hnil => ?_, fun i hi => ?_⟩
    · exfalso
      cases hu : unl listed ops.size with
      | nil => rw [hu] at hlen; simp at hlen
      | cons m rest =>
        have hm : m ∈ unl listed ops.size := by rw [hu]; simp
        have hm' : m < ops.size ∧ listed.getD m false = false := hmem m hm
        have hsort : (unl listed ops.size).Pairwise (· < ·) := List.Pairwise.filter _ List.pairwise_lt_range
        rw [hu] at hsort
        have : m ∈ Region.ready .any ops listed := (hready listed m hsz).2 ⟨hm'.1, hm'.2, fun o ho e he hb => by
          have h1 := hok1 m (by simpa using hm'.1)
          rw [ho] at h1
          simp only [Option.map_some, Option.getD_some, Array.all_eq_true] at h1
          obtain ⟨q, hq, rfl⟩ := Array.mem_iff_getElem.1 he
          have := h1 q hq
          rw [hb] at this
          have hlt : o.after[q].on < m := by simpa using this
          cases hx : listed.getD o.after[q].on false with
          | true => rfl
          | false =>
            have hmem : o.after[q].on ∈ unl listed ops.size := List.mem_filter.2 ⟨List.mem_range.2 (by omega), by simp only [hx]; rfl⟩
            rw [hu] at hmem
            rcases List.mem_cons.1 hmem with h | h
            · omega
            · have := List.rel_of_pairwise_cons hsort h
              omega⟩
        rw [hnil] at this
        cases this
    · obtain ⟨h1, h2, h3⟩ := (hready listed i hsz).1 hi
      have hmemi : i ∈ unl listed ops.size := List.mem_filter.2 ⟨List.mem_range.2 h1, by simp only [h2]; rfl⟩
      obtain ⟨l1, l2, hu⟩ := List.append_of_mem hmemi
      have hsort : (unl listed ops.size).Pairwise (· < ·) := List.Pairwise.filter _ List.pairwise_lt_range
      rw [hu] at hsort
      have hl1 : ∀ j ∈ l1, j < i := fun j hj => (List.pairwise_append.1 hsort).2.2 j hj i (by simp)
      have hl2 : ∀ j ∈ l2, i < j := fun j hj => List.rel_of_pairwise_cons (List.pairwise_append.1 hsort).2.1 hj
      have hl1u : ∀ j ∈ l1, j < ops.size ∧ listed.getD j false = false := fun j hj => by
        have : j ∈ unl listed ops.size := by rw [hu]; simp [hj]
        exact hmem j this
      have hcomm : ∀ j ∈ l1, ∀ s : AS, ((stepIx T O ops base j s).bind fun s => stepIx T O ops base i s) = (stepIx T O ops base i s).bind fun s => stepIx T O ops base j s := by
        intro j hj s
        have hb := hok2 i (by simpa using h1) j (hl1 j hj)
        rcases hb with hb | hb
        · have := befB_listed hdown _ j i (.inr h3) hb
          rw [(hl1u j hj).2] at this
          cases this
        · have hjlt : j < ops.size := (hl1u j hj).1
          have e1 : lget ops.toList j = some ops[j] := by rw [lget_eq]; simp [hjlt]
          have e2 : lget ops.toList i = some ops[i] := by rw [lget_eq]; simp [h1]
          rw [e1, e2] at hb
          simp only [Bool.and_eq_true] at hb
          simp only [stepIx, e1, e2]
          exact astep_comm ops rfl hb.1.1 hb.1.2 hb.2 s
      rw [hu, runIx_front l1 l2 s hcomm] at hrun
      simp only [Option.bind_eq_some_iff] at hrun
      obtain ⟨s1, hs1, hrun⟩ := hrun
      have hget : ∀ q, (listed.setIfInBounds i true).getD q false = if q = i then true else listed.getD q false := by
        intro q
        simp only [Array.getD_eq_getD_getElem?, Array.getElem?_setIfInBounds]
        by_cases e : q = i
        · subst e; simp [hsz, h1]
        · rw [if_neg (Ne.symm e), if_neg e]
      have hu' : unl (listed.setIfInBounds i true) ops.size = l1 ++ l2 := by
        have : unl (listed.setIfInBounds i true) ops.size = (unl listed ops.size).filter (fun q => q != i) := by
          simp only [unl, List.filter_filter]
          congr 1
          funext q
          rw [hget]
          by_cases e : q = i <;> simp [e]
        rw [this, hu, List.filter_append, List.filter_cons]
        simp only [bne_self_eq_false, Bool.false_eq_true, if_false]
        rw [List.filter_eq_self.2, List.filter_eq_self.2]
        · intro q hq; have := hl2 q hq; simp; omega
        · intro q hq; have := hl1 q hq; simp; omega
      refine stepIx_sound hT hO hs ?_ hs1 fun a' w' hs' hd => ?_
      · rintro (hx | ⟨q, hq, hx⟩)
        · omega
        · have : q = i := by omega
          subst this
          rw [h2] at hq; cases hq
      · refine ih (listed.setIfInBounds i true) s1 s' a' w' (by simpa using hsz) ?_ (fun k o hk ho e he hb => ?_) (hs'.mono fun q hq => ?_) (by rw [hu']; exact hrun) fun a'' w'' hs'' hd' => hK a'' w'' hs'' (hd'.trans hd)
        · rw [hu']
          rw [hu] at hlen
          simp at hlen ⊢
          omega
        · rw [hget] at hk ⊢
          split
          · rfl
          · split at hk
            · rename_i e'
              subst e'
              exact h3 o ho e he hb
            · exact hdown k o hk ho e he hb
        · rcases hq with (hq | ⟨k, hk, hq⟩) | hq
          · exact .inl hq
          · exact .inr ⟨k, by rw [hget]; split <;> first | rfl | exact hk, hq⟩
          · exact .inr ⟨i, by rw [hget]; simp, hq⟩

/-- A region. -/
theorem aregion_sound (hT : TOK P T) (hO : OOK P GL O) (hm : P.follows .mixedOrders = true) {rid : Nat} {draw : Bool} {s s' : AS} (hs : Sim GL B0 ok0 w0 (fun q => q < s.next) s.fr s.dead a w)
    (hdr : ¬ (draw = true ∧ drawOK ops.toList = false)) (h : aregion T O ops.toList s = some s') (hK : ∀ a' w', Sim GL B0 ok0 w0 (fun q => q < s'.next) s'.fr s'.dead a' w' → a'.defers = a.defers → Q .normal a' w') :
    (Code.region rid ops draw).wp P Q a w := by
  simp only [aregion, Option.bind_eq_some_iff] at h
  obtain ⟨s1, h1, h⟩ := h
  cases h
  rw [asteps_runIx ops.toList 0 s rfl] at h1
  have hlen : ops.toList.length = ops.size := by simp
  have hrange : List.range' 0 ops.toList.length = List.range ops.size := by rw [hlen, List.range_eq_range']
  rw [hrange] at h1
  simp only [hlen] at hK
  cases draw with
  | false =>
    refine wp_region (runIx_sound hT hO _ s s1 _ a w List.nodup_range (fun i _ => by omega) hs h1 fun a' w' hs' hd => hK a' w' (hs'.mono fun q hq => ?_) hd)
    rcases hq with hq | ⟨i, hi, rfl⟩
    · omega
    · have := List.mem_range.1 hi; omega
  | true =>
    have hok : drawOK ops.toList = true := by
      cases hh : drawOK ops.toList
      · exact absurd ⟨rfl, hh⟩ hdr
      · rfl
    have hu : unl (Array.replicate ops.size false) ops.size = List.range ops.size := by
      unfold unl
      refine List.filter_eq_self.2 fun i hi => ?_
      have := List.mem_range.1 hi
      simp [Array.getD, this]
    have hno : ∀ i, ¬ (Array.replicate ops.size false).getD i false = true := by
      intro i h
      simp [Array.getD] at h
    refine wp_region_any hm (wpAny_runIx hT hO hok ops.size _ s s1 a _ (by simp) (by rw [hu]; simp) (fun k o hk => absurd hk (hno k)) ?_ (by rw [hu]; exact h1) fun a' w' hs' hd => hK a' w' hs' hd)
    obtain ⟨E, e1, e2, e3⟩ := hs
    exact ⟨E, e1, e2.drew.mono fun q h => .inl h, e3.mono (Mono.drew w E)⟩
end
end Go.Ai

set_option linter.unusedSimpArgs false
set_option linter.unusedVariables false
namespace Go.Ai
open Go Go.RowKit

def AX.exit' : AX → Exit
  | .normal => .normal
  | .exit id => .exit id
  | .ret => .ret

section
variable {P : Program} {GL : World → Prop} {B0 : Nat} {ok0 : Bool → Nat → Nat → Prop} {w0 w : World} {a : Act} {Q : Exit → Act → World → Prop}
variable {T : Nat → Option TI} {O : Nat → List AV → Option AV} {L : Nat → AS → Option (AX × AS)}

def SimS (GL : World → Prop) (B0 : Nat) (ok0 : Bool → Nat → Nat → Prop) (w0 : World) (s : AS) (a : Act) (w : World) : Prop := Sim GL B0 ok0 w0 (fun q => q < s.next) s.fr s.dead a w

/-- What runs from `s` ends as `r` says. -/
def Runs (P : Program) (GL : World → Prop) (c : Code) (s : AS) (r : AX × AS) : Prop :=
  ∀ (B0 : Nat) (ok0 : Bool → Nat → Nat → Prop) (w0 : World) (a : Act) (w : World) (Q : Exit → Act → World → Prop), SimS GL B0 ok0 w0 s a w →
    (∀ a' w', SimS GL B0 ok0 w0 r.2 a' w' → a'.defers = a.defers → Q r.1.exit' a' w') → c.wp P Q a w

/-- The oracle is right at every loop of the code. -/
def LoopsOK (P : Program) (GL : World → Prop) (L : Nat → AS → Option (AX × AS)) : Code → Prop
  | .seq a b => LoopsOK P GL L a ∧ LoopsOK P GL L b
  | .cond _ a b => LoopsOK P GL L a ∧ LoopsOK P GL L b
  | .block _ a => LoopsOK P GL L a
  | .loop a => ∀ s r, L (firstRegion a) s = some r → Runs P GL (.loop a) s r
  | _ => True

theorem aexec_sound (hT : TOK P T) (hO : OOK P GL O) (hm : P.follows .mixedOrders = true) : ∀ (c : Code), LoopsOK P GL L c → ∀ (s : AS) (r : AX × AS), aexec T O L c s = some r → Runs P GL c s r
  | .skip, _, s, r, h => by
    cases h
    exact fun B0 ok0 w0 a w Q hs hK => wp_skip (hK a w hs rfl)
  | .region id ops d, _, s, r, h => by
    simp only [aexec] at h
    split at h
    · cases h
    rename_i hdr
    simp only [Option.bind_eq_some_iff] at h
    obtain ⟨s1, h1, h⟩ := h
    cases h
    exact fun B0 ok0 w0 a w Q hs hK => aregion_sound hT hO hm hs hdr h1 hK
  | .seq x y, hl, s, r, h => by
    simp only [aexec, Option.bind_eq_some_iff] at h
    obtain ⟨r1, h1, h⟩ := h
    have ih := aexec_sound hT hO hm x hl.1 s r1 h1
    obtain ⟨x1, s1⟩ := r1
    intro B0 ok0 w0 a w Q hs hK
    refine wp_seq (ih B0 ok0 w0 a w _ hs fun a' w' hs' hd => ?_)
    cases x1 with
    | normal => exact aexec_sound hT hO hm y hl.2 s1 r h B0 ok0 w0 a' w' Q hs' fun a'' w'' hs'' hd' => hK a'' w'' hs'' (hd'.trans hd)
    | exit id => cases h; exact hK a' w' hs' hd
    | ret => cases h; exact hK a' w' hs' hd
  | .cond c x y, hl, s, r, h => by
    simp only [aexec, Option.bind_eq_some_iff] at h
    obtain ⟨t, ht, h⟩ := h
    split at h
    case h_2 => cases h
    rename_i t
    intro B0 ok0 w0 a w Q hs hK
    obtain ⟨E, e1, e2, e3⟩ := hs
    have hr := aget_rel e3 ht
    have hc : a.eval c = .bool t := by
      generalize a.eval c = v at hr
      cases hr; rfl
    refine wp_cond hc ?_
    split at h
    · rename_i e
      subst e
      exact aexec_sound hT hO hm x hl.1 s r h B0 ok0 w0 a w Q ⟨E, e1, e2, e3⟩ hK
    · rename_i e
      have e : t = false := by simpa using e
      subst e
      exact aexec_sound hT hO hm y hl.2 s r h B0 ok0 w0 a w Q ⟨E, e1, e2, e3⟩ hK
  | .block id c, hl, s, r, h => by
    simp only [aexec, Option.bind_eq_some_iff] at h
    obtain ⟨r1, h1, h⟩ := h
    have ih := aexec_sound hT hO hm c hl s r1 h1
    obtain ⟨x1, s1⟩ := r1
    intro B0 ok0 w0 a w Q hs hK
    refine wp_block (ih B0 ok0 w0 a w _ hs fun a' w' hs' hd => ?_)
    cases x1 with
    | normal => cases h; exact hK a' w' hs' hd
    | exit j =>
      simp only at h
      simp only [AX.exit', Exit.inBlock]
      split at h
      · rename_i e
        cases h
        rw [if_pos e]
        exact hK a' w' hs' hd
      · rename_i e
        cases h
        rw [if_neg e]
        exact hK a' w' hs' hd
    | ret => cases h; exact hK a' w' hs' hd
  | .loop c, hl, s, r, h => hl s r h
  | .exit id, _, s, r, h => by
    cases h
    exact fun B0 ok0 w0 a w Q hs hK => wp_exit (hK a w hs rfl)
  | .ret, _, s, r, h => by
    cases h
    exact fun B0 ok0 w0 a w Q hs hK => wp_ret (hK a w hs rfl)
  | .label _, _, s, r, h => by simp [aexec] at h
  | .goto _, _, s, r, h => by simp [aexec] at h
  | .rangeFunc .., _, s, r, h => by simp [aexec] at h

/-- A loop, by rounds that are counted. -/
theorem wp_loop_fuel {c : Code} (I : Nat → Act → World → Prop) (round : ∀ n a w, I n a w → c.wp P (Exit.then (fun a' w' => ∃ m, m < n ∧ I m a' w') Q) a w) {n : Nat} (h : I n a w) : (Code.loop c).wp P Q a w := by
  intro b k cs
  have key : ∀ n a w, I n a w → ∃ e a' w', Q e a' w' ∧ Arrives P (lone (b.at a (.code c :: .inLoop c :: k)) cs w) b k cs e a' w' := by
    intro n
    induction n using Nat.strongRecOn with
    | _ n ih =>
      intro a w hI
      obtain ⟨e, a₁, w₁, hq, harr⟩ := round n a w hI b (.inLoop c :: k) cs
      cases e with
      | normal =>
        obtain ⟨m, hlt, hI₁⟩ := hq
        obtain ⟨e₂, a₂, w₂, hq₂, harr₂⟩ := ih m hlt a₁ w₁ hI₁
        exact ⟨e₂, a₂, w₂, hq₂, .of_steps (Steps.trans harr (.one step_inLoop)) harr₂⟩
      | exit id => exact ⟨_, a₁, w₁, hq, .pass (x := .inLoop c) rfl (fun _ _ => .inl (by simp)) harr⟩
      | goto l => exact ⟨_, a₁, w₁, hq, .pass (x := .inLoop c) rfl (fun _ _ => .inl (by simp)) harr⟩
      | ret => exact ⟨_, a₁, w₁, hq, .pass (x := .inLoop c) rfl (fun _ _ => .inl (by simp)) harr⟩
      | panic ch => exact ⟨_, a₁, w₁, hq, .pass (x := .inLoop c) rfl (fun _ _ => .inl (by simp)) harr⟩
      | outgrown => exact ⟨_, a₁, w₁, hq, .pass (x := .inLoop c) rfl (fun _ _ => .inl (by simp)) harr⟩
  obtain ⟨e, a', w', hq, harr⟩ := key _ a w h
  exact ⟨e, a', w', hq, .of_steps (.one step_loop) harr⟩

/-! ### Results -/
theorem aresults_sound (hT : TOK P T) {E : Env} {fr : List AV} {used : Nat → Prop} (hf : RelL w E fr a.tmps) : ∀ {l : List ResultVar} {rs : List AV}, aresults T fr l = some rs →
    ∃ vs : List Value, (l.mapM (m := Sem) fun
      | .tmp t => pure (a.tmps.getD t undef)
      | .cell q t => do loadVar t (← asAddr (a.tmps.getD q undef))).run P w = .ok vs w ∧ vs.length = rs.length ∧ ∀ i x v, lget rs i = some x → vs[i]? = some v → Rel w E.call x v
  | [], rs, h => by
    cases h
    exact ⟨[], rfl, rfl, fun i x v h => by simp [lget] at h⟩
  | .tmp t :: l, rs, h => by
    simp only [aresults, Option.bind_eq_some_iff] at h
    obtain ⟨x, hx, xs, hxs, h⟩ := h
    cases h
    obtain ⟨vs, h1, h2, h3⟩ := aresults_sound hT (used := used) hf hxs
    have hlt : t < a.tmps.size := by rw [hf.1]; rw [lget_eq] at hx; exact (List.getElem?_eq_some_iff.1 hx).1
    have hr : Rel w E x (a.tmps.getD t undef) := hf.2 t x _ hx (by simp [hlt])
    refine ⟨a.tmps.getD t undef :: vs, ?_, by simp [h2], fun i y v hy hv => ?_⟩
    · simp only [List.mapM_cons, Sem.run_bind, Sem.run_pure, Result.andThen_ok, h1]
    · cases i with
      | zero =>
        have e1 : x.esc = y := by simpa [lget] using hy
        have e2 : a.tmps.getD t undef = v := Option.some.inj hv
        rw [← e1, ← e2]
        exact hr.esc
      | succ n => exact h3 n y v (by simpa [lget] using hy) (by simpa using hv)
  | .cell q t :: l, rs, h => by
    simp only [aresults, Option.bind_eq_some_iff] at h
    obtain ⟨i, hi, p, hp, h⟩ := h
    split at h
    case h_2 => cases h
    rename_i qid off cs
    simp only [Option.bind_eq_some_iff] at h
    obtain ⟨x, hx, xs, hxs, h⟩ := h
    cases h
    obtain ⟨vs, h1, h2, h3⟩ := aresults_sound hT (used := used) hf hxs
    have hlt : q < a.tmps.size := by rw [hf.1]; rw [lget_eq] at hp; exact (List.getElem?_eq_some_iff.1 hp).1
    have hr : Rel w E (.box qid off cs) (a.tmps.getD q undef) := hf.2 q _ _ hp (by simp [hlt])
    obtain ⟨b, hb, hc⟩ := (place_cells hr).1 _ _ _ rfl
    obtain ⟨u, h4, h5⟩ := run_load_part (hT.facts hi) hc hx
    refine ⟨u :: vs, ?_, by simp [h2], fun i y v hy hv => ?_⟩
    · have ha : (asAddr (a.tmps.getD q undef)).run P w = .ok ⟨b, off, none⟩ w := by rw [hb]; rfl
      rw [Nat.zero_add] at h4
      simp only [List.mapM_cons, Sem.run_bind, ha, Sem.run_pure, Result.andThen_ok, h4, h1]
    · cases i with
      | zero => simp [lget] at hy hv; subst hy; subst hv; exact h5.esc
      | succ n => exact h3 n y v (by simpa [lget] using hy) (by simpa using hv)

/-- What a body gives, the function gives. -/
theorem contract_of_body (hT : TOK P T) (hO : OOK P GL O) (hm : P.follows .mixedOrders = true) {g : FuncId} {fn : Func} {c : Code} {args : List AV} {r : AV} (hf : P.funcs[g]? = some fn) (hname : (fn.name == "runtime.NumGoroutine") = false)
    (hb : fn.body = some c) (hl : LoopsOK P GL L c) (hcl : clL args = true) (h : abody T O L fn args = some r) : Contract P GL g args r := by
  intro w ok vs hglo hok hokm hargs
  refine .inr ⟨?_, ?_⟩
  · have h1 : fn.name ≠ "runtime.NumGoroutine" := by simpa using hname
    simp [callFunc, hf, h1, hb]
  simp only [abody, hb, Option.bind_some, Option.bind_eq_some_iff] at h
  obtain ⟨⟨x, s'⟩, hx, h⟩ := h
  refine calls_of_wp hf hb ?_
  let E0 : Env := ⟨ok, fun i => i, fun _ _ => False, fun _ => false⟩
  have hsim : SimS GL w.heap.size ok w { fr := startFrame fn args, dead := fun _ => false, next := 0 } { tmps := vs ++ Array.replicate (fn.ntmps - vs.size) undef, defers := [] } w := by
    refine ⟨E0, rfl, ⟨Below.refl _ _, Nat.le_refl _, hok, hokm, fun _ _ h => h.elim, fun _ _ h => h.elim, fun _ _ _ _ h => h.elim, fun _ h => h.elim, fun _ _ _ h => h, fun _ _ _ h => .inl h, hglo⟩, ?_⟩
    have h1 : RelL w E0 args vs := ⟨hargs.1, fun i y v hy hv => (hargs.2 i y v hy hv).ofClosed (clL_get hcl hy) fun _ _ _ h => h⟩
    have h2 : RelL w E0 (List.replicate (fn.ntmps - args.length) (.tup [])) (Array.replicate (fn.ntmps - vs.size) undef) := by
      refine ⟨by simp [hargs.1], fun i y v hy hv => ?_⟩
      rw [lget_eq, List.getElem?_replicate] at hy
      rw [Array.getElem?_replicate] at hv
      split at hy
      · split at hv
        · cases hy; cases hv
          exact .tup _ _ _ rfl fun i a v h => by simp [lget] at h
        · cases hv
      · cases hy
    exact h1.append h2
  refine aexec_sound hT hO hm c hl _ _ hx w.heap.size ok w _ w _ hsim fun a' w' hs' hd => ?_
  obtain ⟨E, _, hinv, hrel⟩ := hs'
  have hres : ∀ rs, aresults T s'.fr fn.results.toList = some rs → r = tupled rs → ∃ v, (results fn a'.tmps).run P w' = .ok v w' ∧ Rel w' E.call r v := by
    intro rs hrs hr
    obtain ⟨us, h1, h2, h3⟩ := aresults_sound hT (used := fun _ => True) hrel hrs
    have hmap : (fn.results.mapM (m := Sem) fun
        | .tmp t => pure (a'.tmps.getD t undef)
        | .cell q t => do loadVar t (← asAddr (a'.tmps.getD q undef))).run P w' = .ok us.toArray w' := by
      rw [← Array.toArray_toList (xs := fn.results), List.mapM_toArray]
      rw [Sem.run_map, h1]
      rfl
    have hrun : (results fn a'.tmps).run P w' = .ok (if h : us.toArray.size = 1 then us.toArray[0] else .tuple us.toArray) w' := by
      unfold results
      rw [Sem.run_bind]
      exact congrArg (fun q : Result (Array Value) => q.andThen fun vs w => (pure (if h : vs.size = 1 then vs[0] else .tuple vs) : Sem Value).run P w) hmap
    refine ⟨_, hrun, ?_⟩
    subst hr
    match us, rs, h2, h3 with
    | [u], [x], _, h3 => simpa [tupled] using h3 0 x u rfl rfl
    | [], [], _, h3 => exact .tup _ _ _ rfl fun i a v h => by simp [lget] at h
    | u1 :: u2 :: us, x1 :: x2 :: xs, h2, h3 =>
      simp only [tupled]
      have : (u1 :: u2 :: us).toArray.size ≠ 1 := by simp
      rw [dif_neg this]
      exact .tup _ _ _ (by simpa using h2) fun i a v ha hv => h3 i a v ha (by simpa using hv)
  have hcl' : r.cl = true := by
    have : ∀ {l : List ResultVar} {rs : List AV}, aresults T s'.fr l = some rs → clL rs = true := by
      intro l
      induction l with
      | nil => intro rs h; cases h; rfl
      | cons x l ih =>
        intro rs h
        cases x <;> simp only [aresults, Option.bind_eq_some_iff] at h
        · obtain ⟨y, _, ys, hys, h⟩ := h
          cases h
          simp [clL, AV.esc_cl, ih hys]
        · obtain ⟨_, _, p, _, h⟩ := h
          split at h
          case h_2 => cases h
          simp only [Option.bind_eq_some_iff] at h
          obtain ⟨y, _, ys, hys, h⟩ := h
          cases h
          simp [clL, AV.esc_cl, ih hys]
    have key : ∀ rs, aresults T s'.fr fn.results.toList = some rs → (tupled rs).cl = true := by
      intro rs hrs
      have hc := this hrs
      match rs, hc with
      | [x], hc => simpa [clL, tupled] using hc
      | [], _ => rfl
      | x1 :: x2 :: xs, hc => simpa [tupled, AV.cl] using hc
    cases x <;> simp only at h <;> (try cases h)
    all_goals
      obtain ⟨rs, hrs, h⟩ := Option.bind_eq_some_iff.1 h
      cases h
      exact key rs hrs
  have hfin : ∀ rs, aresults T s'.fr fn.results.toList = some rs → r = tupled rs → a'.defers = [] ∧ ∃ v, (results fn a'.tmps).run P w' = .ok v w' ∧ (∃ v' ok', Ending.returned v = .returned v' ∧ Below w.heap.size w w' ∧ (∀ k b o, ok k b o → ok' k b o) ∧ (∀ k b o, ok' k b o → b < w'.heap.size) ∧
      (∀ k b o, ok' k b o → ok k b o ∨ w.heap.size ≤ b) ∧ (∀ b o, ok' true b o → ok' false b o) ∧ Rel w' ⟨ok', fun i => i, fun _ _ => False, fun _ => true⟩ r v') := by
    intro rs hrs hr
    obtain ⟨v, h1, h2⟩ := hres rs hrs hr
    refine ⟨hd, v, h1, v, E.call.ok, rfl, hinv.below, fun k b o h => .inl (hinv.oke k b o h), fun k b o h => ?_, fun k b o h => ?_, fun b o h => ?_, h2.ofClosed hcl' fun _ _ _ h => h⟩
    · rcases h with h | ⟨_, i, h, rfl⟩
      · exact hinv.okB _ _ _ h
      · exact (hinv.lvb _ _ h).2
    · rcases h with h | ⟨_, i, h, rfl⟩
      · exact hinv.okN _ _ _ h
      · exact .inr (hinv.lvb _ _ h).1
    · rcases h with h | ⟨h, _⟩
      · exact .inl (hinv.okm _ _ h)
      · cases h
  cases x with
  | normal =>
    obtain ⟨rs, hrs, h⟩ := Option.bind_eq_some_iff.1 h
    exact hfin rs hrs (Option.some.inj h).symm
  | ret =>
    obtain ⟨rs, hrs, h⟩ := Option.bind_eq_some_iff.1 h
    exact hfin rs hrs (Option.some.inj h).symm
  | exit id => cases h
end
end Go.Ai

set_option linter.unusedSimpArgs false
set_option linter.unusedVariables false
namespace Go.Ai
open Go Go.RowKit

/-- Shapes of (sequences of) values: what is data in them, and what is fixed. -/
inductive Sh where
  | nil
  | int (k : IntKind)
  | bool
  | str
  | list (t : Ty)
  | own (id e : Nat) (t : Ty)
  | agg (t : Ty)
  | fn (f : Nat) (l : Sh)
  | box (id : Nat) (l : Sh)
  | ptr (l : Sh)
  | tup (l : Sh)
  | pair (s l : Sh)

def Sh.den : Sh → Type
  | .nil => Unit
  | .int _ => Int
  | .bool => Bool
  | .str => ByteArray
  | .list t => List t.den
  | .own _ _ t => List t.den
  | .agg t => t.den
  | .fn _ l => l.den
  | .box _ l => l.den
  | .ptr l => l.den
  | .tup l => l.den
  | .pair s l => s.den × l.den

def encX : (s : Sh) → s.den → List AV
  | .nil, _ => []
  | .int k, n => [.int k n]
  | .bool, b => [.bool b]
  | .str, s => [.str s]
  | .list t, xs => [.tl t xs]
  | .own id e t, xs => [.own id e t xs]
  | .agg t, x => [.agg (emb t x)]
  | .fn f l, x => [.fn f (encX l x)]
  | .box id l, x => [.box id 0 (encX l x)]
  | .ptr l, x => [.eptr (encX l x)]
  | .tup l, x => [.tup (encX l x)]
  | .pair s l, x => encX s x.1 ++ encX l x.2

/-- Nothing in it may be written. -/
def Sh.clo : Sh → Bool
  | .own _ _ _ => false
  | .box _ _ => false
  | .fn _ l => l.clo
  | .tup l => l.clo
  | .pair s l => s.clo && l.clo
  | _ => true

def AV.asInt (k : IntKind) : AV → Option Int
  | .int k' n => if k' = k then some n else none
  | _ => none
def AV.asBool : AV → Option Bool
  | .bool b => some b
  | _ => none
def AV.asStr : AV → Option ByteArray
  | .str s => some s
  | _ => none
/-- A row's data, and its name if it has one. -/
def AV.asOwn (e : Nat) (t : Ty) : AV → Option (List t.den × Option Nat)
  | .snil => some ([], none)
  | .own i e' u xs => if e' = e then (cast u t xs).bind fun xs => some (xs, some i) else none
  | _ => none
def AV.asAgg : AV → Option (List AV)
  | .agg cs => some cs
  | _ => none
def AV.asFn (f : Nat) : AV → Option (List AV)
  | .fn g cs => if g = f then some cs else none
  | _ => none
def AV.asBox : AV → Option (Nat × List AV)
  | .box i 0 cs => some (i, cs)
  | _ => none
def AV.asPtr : AV → Option (List AV)
  | .eptr cs => some cs
  | _ => none
def AV.asTup : AV → Option (List AV)
  | .tup cs => some cs
  | _ => none

/-- What was read, the names that were met (with the shape's names for them), and what is left. -/
structure Got (α : Type) where
  val : α
  ids : List (Bool × Nat × Nat)
  rest : List AV

def one {α : Type} (cs : List AV) (f : AV → Option (α × List (Bool × Nat × Nat))) : Option (Got α) :=
  match cs with
  | [] => none
  | a :: r => (f a).bind fun x => some ⟨x.1, x.2, r⟩

def whole {α : Type} (g : Got α) : Option (α × List (Bool × Nat × Nat)) :=
  match g.rest with
  | [] => some (g.val, g.ids)
  | _ => none

def decX : (s : Sh) → List AV → Option (Got s.den)
  | .nil, cs => some ⟨(), [], cs⟩
  | .int k, cs => one cs fun a => (a.asInt k).bind fun n => some (n, [])
  | .bool, cs => one cs fun a => a.asBool.bind fun n => some (n, [])
  | .str, cs => one cs fun a => a.asStr.bind fun n => some (n, [])
  | .list t, cs => one cs fun a => (a.elems t).bind fun n => some (n, [])
  | .own id e t, cs => one cs fun a => (a.asOwn e t).bind fun x => some (x.1, match x.2 with | some i => [(false, id, i)] | none => [])
  | .agg t, cs => one cs fun a => a.asAgg.bind fun l => (dec t l).bind fun x => some (x, [])
  | .fn f l, cs => one cs fun a => (a.asFn f).bind fun m => (decX l m).bind whole
  | .box id l, cs => one cs fun a => a.asBox.bind fun p => (decX l p.2).bind fun g => (whole g).bind fun x => some (x.1, (true, id, p.1) :: x.2)
  | .ptr l, cs => one cs fun a => a.asPtr.bind fun m => if l.clo = true then (decX l m).bind whole else none
  | .tup l, cs => one cs fun a => a.asTup.bind fun m => (decX l m).bind whole
  | .pair s l, cs => (decX s cs).bind fun x => (decX l x.rest).bind fun y => some ⟨(x.val, y.val), x.ids ++ y.ids, y.rest⟩

def idsOK (dead : Nat → Bool) (N : Nat) (l : List (Bool × Nat × Nat)) : Bool :=
  l.all fun p => decide (p.2.1 < N) && (p.1 || !dead p.2.2) && l.all fun q => (decide (p.2.1 = q.2.1) == decide (p.2.2 = q.2.2)) && (p.1 == q.1 || !decide (p.2.1 = q.2.1))

/-- The slots that count, by number, and their shape; `n`: how many there are in all; `N`: the first name that is free. -/
structure Spec where
  n : Nat
  N : Nat
  slots : List Nat
  shape : Sh

def gets (fr : List AV) : List Nat → Option (List AV)
  | [] => some []
  | i :: l => (lget fr i).bind fun a => (gets fr l).bind fun as => some (a :: as)

def putAt : List Nat → List AV → Nat → AV
  | i :: l, a :: m, q => if q = i then a else putAt l m q
  | _, _, _ => .bot

def Spec.frame (sp : Spec) (as : List AV) : List AV := (List.range sp.n).map (putAt sp.slots as)

def Spec.enc (sp : Spec) (x : sp.shape.den) : AS := ⟨sp.frame (encX sp.shape x), fun _ => false, sp.N⟩

def Spec.dec (sp : Spec) (s : AS) : Option sp.shape.den :=
  if s.fr.length = sp.n then (gets s.fr sp.slots).bind fun as => (decX sp.shape as).bind fun g => (whole g).bind fun x => if idsOK s.dead sp.N x.2 = true then some x.1 else none else none

/-! ### It stands for no less -/
def Env.ren (E : Env) (m : List (Bool × Nat × Nat)) : Env :=
  ⟨E.ok, fun j => match m.find? (fun p => p.2.1 == j) with | some p => E.σ p.2.2 | none => 0, fun k j => ∃ i, (k, j, i) ∈ m ∧ E.lv k i, fun _ => false⟩

section
variable {w : World} {E : Env} {dead : Nat → Bool} {N : Nat} {m : List (Bool × Nat × Nat)}

theorem idsOK_spec (h : idsOK dead N m = true) : (∀ k j i, (k, j, i) ∈ m → j < N) ∧ (∀ j i, (false, j, i) ∈ m → dead i = false) ∧
    (∀ k j i k' j' i', (k, j, i) ∈ m → (k', j', i') ∈ m → (j = j' ↔ i = i') ∧ (j = j' → k = k')) := by
  simp only [idsOK, List.all_eq_true, Bool.and_eq_true, decide_eq_true_eq, Bool.or_eq_true] at h
  refine ⟨fun k j i hm => (h _ hm).1.1, fun j i hm => ?_, fun k j i k' j' i' h1 h2 => ?_⟩
  · have := (h _ hm).1.2
    simpa using this
  · obtain ⟨h3, h4⟩ := (h _ h1).2 _ h2
    refine ⟨?_, fun e => ?_⟩
    · by_cases e1 : j = j' <;> by_cases e2 : i = i' <;> simp [e1, e2] at h3 ⊢
    · rcases h4 with h4 | h4
      · simpa using h4
      · simp [e] at h4

theorem ren_σ (h : idsOK dead N m = true) {k : Bool} {j i : Nat} (hm : (k, j, i) ∈ m) : (E.ren m).σ j = E.σ i := by
  obtain ⟨_, _, h3⟩ := idsOK_spec h
  simp only [Env.ren]
  cases hf : m.find? (fun p => p.2.1 == j) with
  | none =>
    have := List.find?_eq_none.1 hf _ hm
    simp at this
  | some p =>
    obtain ⟨k', j', i'⟩ := p
    have h4 := List.mem_of_find?_eq_some hf
    have h5 := List.find?_some hf
    simp only [beq_iff_eq] at h5
    have := ((h3 _ _ _ _ _ _ h4 hm).1).1 h5
    simp only [this]

theorem Inv.ren {GL : World → Prop} {B0 : Nat} {ok0 : Bool → Nat → Nat → Prop} {w0 : World} {used : Nat → Prop} (hi : Inv GL B0 ok0 w0 w E used) (h : idsOK E.dead N m = true) : Inv GL B0 ok0 w0 w (E.ren m) (fun q => q < N) := by
  obtain ⟨h1, h2, h3⟩ := idsOK_spec h
  refine ⟨hi.below, hi.base, hi.okB, hi.okm, fun k j hl => ?_, fun k j hl => ?_, fun k j k' j' hl hl' e => ?_, fun j hl k o => ?_, hi.oke, hi.okN, hi.glo⟩
  · obtain ⟨i, hm, _⟩ := hl
    exact h1 _ _ _ hm
  · obtain ⟨i, hm, hl⟩ := hl
    rw [ren_σ h hm]
    exact hi.lvb _ _ hl
  · obtain ⟨i, hm, hl⟩ := hl
    obtain ⟨i', hm', hl'⟩ := hl'
    rw [ren_σ h hm, ren_σ h hm'] at e
    obtain ⟨e1, e2⟩ := hi.inj _ _ _ _ hl hl' e
    exact ⟨e1, ((h3 _ _ _ _ _ _ hm hm').1).2 e2⟩
  · obtain ⟨i, hm, hl⟩ := hl
    rw [ren_σ h hm]
    exact hi.box _ hl k o

theorem agg_dec {t : Ty} {cs : List AV} {d : t.den} {v : Value} (h : dec t cs = some d) (hr : Rel w E (.agg cs) v) {E' : Env} (hok : ∀ k b o, E.ok k b o → E'.ok k b o) : Rel w E' (.agg (emb t d)) v := by
  cases hr with
  | agg _ _ vs hs h1 hr =>
  obtain ⟨hl, hle⟩ := dec_le h
  refine .agg _ _ _ (by rw [emb_length, hs, hl]) h1 fun j c u hc hu => ?_
  obtain ⟨a, ha, hca⟩ := hle j c hc
  exact ((hca w E u (hr j a u ha hu)).1).ofClosed (clL_get (emb_cl t d) hc) hok


/-- A sequence of values. -/
def Seq (w : World) (E : Env) (as : List AV) (vs : List Value) : Prop := vs.length = as.length ∧ ∀ i a v, lget as i = some a → vs[i]? = some v → Rel w E a v

theorem Seq.nil : Seq w E [] [] := ⟨rfl, fun i a v h => by simp [lget] at h⟩
theorem Seq.cons {a : AV} {v : Value} {as : List AV} {vs : List Value} (h : Rel w E a v) (k : Seq w E as vs) : Seq w E (a :: as) (v :: vs) := by
  refine ⟨by simp [k.1], fun i x u hx hu => ?_⟩
  cases i with
  | zero => simp [lget] at hx hu; subst hx; subst hu; exact h
  | succ n => exact k.2 n x u (by simpa [lget] using hx) (by simpa using hu)
theorem Seq.uncons {a : AV} {as : List AV} {vs : List Value} (h : Seq w E (a :: as) vs) : ∃ v us, vs = v :: us ∧ Rel w E a v ∧ Seq w E as us := by
  cases vs with
  | nil => have := h.1; simp at this
  | cons v us => exact ⟨v, us, rfl, h.2 0 a v rfl rfl, by have := h.1; simpa using this, fun i x u hx hu => h.2 (i + 1) x u (by simpa [lget] using hx) (by simpa using hu)⟩
theorem Seq.append {as bs : List AV} {vs us : List Value} (h : Seq w E as vs) (k : Seq w E bs us) : Seq w E (as ++ bs) (vs ++ us) := by
  induction as generalizing vs with
  | nil =>
    have : vs = [] := List.eq_nil_of_length_eq_zero h.1
    subst this
    exact k
  | cons a as ih =>
    obtain ⟨v, ws, rfl, h1, h2⟩ := h.uncons
    exact .cons h1 (ih h2)
theorem clL_append : ∀ {l l' : List AV}, clL l = true → clL l' = true → clL (l ++ l') = true
  | [], _, _, h => h
  | a :: l, l', h, h' => by simp [clL] at h ⊢; exact ⟨h.1, clL_append h.2 h'⟩

theorem one_some {α : Type} {cs : List AV} {f : AV → Option (α × List (Bool × Nat × Nat))} {g : Got α} (h : one cs f = some g) : ∃ a, cs = a :: g.rest ∧ f a = some (g.val, g.ids) := by
  cases cs with
  | nil => simp [one] at h
  | cons a r =>
    simp only [one, Option.bind_eq_some_iff] at h
    obtain ⟨x, hx, h⟩ := h
    cases h
    exact ⟨a, rfl, hx⟩
theorem whole_some {α : Type} {g : Got α} {x : α × List (Bool × Nat × Nat)} (h : whole g = some x) : g.rest = [] ∧ x = (g.val, g.ids) := by
  unfold whole at h
  split at h
  · rename_i hr; exact ⟨hr, (Option.some.inj h).symm⟩
  · cases h

theorem asInt_some {k : IntKind} {a : AV} {n : Int} (h : a.asInt k = some n) : a = .int k n := by
  cases a <;> simp only [AV.asInt] at h <;> (try cases h)
  split at h <;> cases h
  rename_i e
  rw [e]
theorem asBool_some {a : AV} {n : Bool} (h : a.asBool = some n) : a = .bool n := by
  cases a <;> simp only [AV.asBool] at h <;> (try cases h)
  rfl
theorem asStr_some {a : AV} {n : ByteArray} (h : a.asStr = some n) : a = .str n := by
  cases a <;> simp only [AV.asStr] at h <;> (try cases h)
  rfl
theorem asAgg_some {a : AV} {l : List AV} (h : a.asAgg = some l) : a = .agg l := by
  cases a <;> simp only [AV.asAgg] at h <;> (try cases h)
  rfl
theorem asFn_some {f : Nat} {a : AV} {l : List AV} (h : a.asFn f = some l) : a = .fn f l := by
  cases a <;> simp only [AV.asFn] at h <;> (try cases h)
  split at h <;> cases h
  rename_i e
  rw [e]
theorem asBox_some {a : AV} {p : Nat × List AV} (h : a.asBox = some p) : a = .box p.1 0 p.2 := by
  unfold AV.asBox at h
  split at h <;> cases h
  rfl
theorem asPtr_some {a : AV} {l : List AV} (h : a.asPtr = some l) : a = .eptr l := by
  cases a <;> simp only [AV.asPtr] at h <;> (try cases h)
  rfl
theorem asTup_some {a : AV} {l : List AV} (h : a.asTup = some l) : a = .tup l := by
  cases a <;> simp only [AV.asTup] at h <;> (try cases h)
  rfl
theorem pair_inj {α β : Type} {a c : α} {b d : β} (h : some (a, b) = some (c, d)) : a = c ∧ b = d := by
  cases h
  exact ⟨rfl, rfl⟩

/-- Read with a shape in which nothing may be written. -/
theorem enc_clo {E' : Env} (hok : ∀ k b o, E.ok k b o → E'.ok k b o) {s : Sh} : ∀ {cs : List AV} {g : Got s.den} {vs : List Value}, s.clo = true → decX s cs = some g → Seq w E cs vs →
    clL (encX s g.val) = true ∧ ∃ us ws, vs = us ++ ws ∧ Seq w E' (encX s g.val) us ∧ Seq w E g.rest ws := by
  induction s generalizing E E' with
  | nil =>
    intro cs g vs hc h hs
    cases h
    exact ⟨rfl, [], vs, rfl, .nil, hs⟩
  | int k =>
    intro cs g vs hc h hs
    obtain ⟨a, h0, h1⟩ := one_some h
    subst h0
    obtain ⟨v, us, rfl, hr, hs1⟩ := hs.uncons
    obtain ⟨n, hn, h2⟩ := Option.bind_eq_some_iff.1 h1
    have h3 := (pair_inj h2).1
    have h4 := asInt_some hn
    subst h4
    cases hr
    exact ⟨rfl, [_], us, rfl, .cons (by rw [← h3]; exact .int _ _ _) .nil, hs1⟩
  | bool =>
    intro cs g vs hc h hs
    obtain ⟨a, h0, h1⟩ := one_some h
    subst h0
    obtain ⟨v, us, rfl, hr, hs1⟩ := hs.uncons
    obtain ⟨n, hn, h2⟩ := Option.bind_eq_some_iff.1 h1
    have h3 := (pair_inj h2).1
    have h4 := asBool_some hn
    subst h4
    cases hr
    exact ⟨rfl, [_], us, rfl, .cons (by rw [← h3]; exact .bool _ _) .nil, hs1⟩
  | str =>
    intro cs g vs hc h hs
    obtain ⟨a, h0, h1⟩ := one_some h
    subst h0
    obtain ⟨v, us, rfl, hr, hs1⟩ := hs.uncons
    obtain ⟨n, hn, h2⟩ := Option.bind_eq_some_iff.1 h1
    have h3 := (pair_inj h2).1
    have h4 := asStr_some hn
    subst h4
    cases hr
    exact ⟨rfl, [_], us, rfl, .cons (by rw [← h3]; exact .str _ _) .nil, hs1⟩
  | list t =>
    intro cs g vs hc h hs
    obtain ⟨a, h0, h1⟩ := one_some h
    subst h0
    obtain ⟨v, us, rfl, hr, hs1⟩ := hs.uncons
    obtain ⟨n, hn, h2⟩ := Option.bind_eq_some_iff.1 h1
    have h3 := (pair_inj h2).1
    exact ⟨rfl, [_], us, rfl, .cons (by rw [← h3]; exact ((elems_le hn w E v hr).1).ofClosed rfl hok) .nil, hs1⟩
  | own id e t => intro cs g vs hc; simp [Sh.clo] at hc
  | agg t =>
    intro cs g vs hc h hs
    obtain ⟨a, h0, h1⟩ := one_some h
    subst h0
    obtain ⟨v, us, rfl, hr, hs1⟩ := hs.uncons
    obtain ⟨l, hl, h2⟩ := Option.bind_eq_some_iff.1 h1
    obtain ⟨x, hx, h3⟩ := Option.bind_eq_some_iff.1 h2
    have h4 := (pair_inj h3).1
    have h5 := asAgg_some hl
    subst h5
    have := agg_dec hx hr hok
    rw [h4] at this
    exact ⟨by simp only [encX, clL, AV.cl, Bool.and_true]; exact emb_cl _ _, [_], us, rfl, .cons this .nil, hs1⟩
  | fn f l ih =>
    intro cs g vs hc h hs
    obtain ⟨a, h0, h1⟩ := one_some h
    subst h0
    obtain ⟨v, us, rfl, hr, hs1⟩ := hs.uncons
    obtain ⟨m', hm, h2⟩ := Option.bind_eq_some_iff.1 h1
    obtain ⟨g', hg', h3⟩ := Option.bind_eq_some_iff.1 h2
    have h5 := asFn_some hm
    subst h5
    obtain ⟨hrest, h6⟩ := whole_some h3
    have h7 : g.val = g'.val := (Prod.mk.inj h6).1
    cases hr with
    | fn _ _ _ vs hs' hr =>
    obtain ⟨k1, us', ws', k2, k3, k4⟩ := ih hok (vs := vs.toList) hc hg' ⟨by simpa using hs', fun i a v ha hv => hr i a v ha (by simpa using hv)⟩
    rw [hrest] at k4
    have hw : ws' = [] := List.eq_nil_of_length_eq_zero k4.1
    subst hw
    simp only [List.append_nil] at k2
    subst k2
    refine ⟨by simp only [encX, clL, AV.cl, Bool.and_true]; rw [h7]; exact k1, [_], us, rfl, .cons ?_ .nil, hs1⟩
    rw [h7]
    exact .fn _ _ _ _ (by have := k3.1; simpa using this) fun i a v ha hv => k3.2 i a v ha (by simpa using hv)
  | box id l => intro cs g vs hc; simp [Sh.clo] at hc
  | ptr l ih =>
    intro cs g vs hc h hs
    obtain ⟨a, h0, h1⟩ := one_some h
    subst h0
    obtain ⟨v, us, rfl, hr, hs1⟩ := hs.uncons
    obtain ⟨m', hm, h2⟩ := Option.bind_eq_some_iff.1 h1
    split at h2
    case isFalse => cases h2
    rename_i hclo
    obtain ⟨g', hg', h3⟩ := Option.bind_eq_some_iff.1 h2
    have h5 := asPtr_some hm
    subst h5
    obtain ⟨hrest, h6⟩ := whole_some h3
    have h7 : g.val = g'.val := (Prod.mk.inj h6).1
    cases hr with
    | eptr _ _ b o cv hcs hcell hr =>
    obtain ⟨k1, us', ws', k2, k3, k4⟩ := ih (E := E.closed) (E' := E'.closed) hok (vs := (List.range m'.length).map cv) hclo hg' ⟨by simp, fun i a v ha hv => by
      have hlt : i < m'.length := (List.getElem?_eq_some_iff.1 (lget_eq _ _ ▸ ha)).1
      simp [hlt] at hv
      subst hv
      exact hr i a ha⟩
    rw [hrest] at k4
    have hw : ws' = [] := List.eq_nil_of_length_eq_zero k4.1
    subst hw
    simp only [List.append_nil] at k2
    subst k2
    have hlen : (encX l g'.val).length = m'.length := by have := k3.1; simpa using this.symm
    have hlt : ∀ j c, lget (encX l g'.val) j = some c → j < m'.length := fun j c hj => by
      have := (List.getElem?_eq_some_iff.1 (lget_eq _ _ ▸ hj)).1
      rwa [hlen] at this
    refine ⟨rfl, [_], us, rfl, .cons ?_ .nil, hs1⟩
    rw [h7]
    refine .eptr _ _ _ _ cv k1 (fun j c hj => ?_) (fun j c hj => k3.2 j c _ hj (by simp [hlt j c hj]))
    have hj' := hlt j c hj
    obtain ⟨c', hc'⟩ : ∃ c, lget m' j = some c := ⟨m'[j], by rw [lget_eq]; simp [hj']⟩
    exact ⟨(hcell j c' hc').1, (hcell j c' hc').2.1, hok _ _ _ (hcell j c' hc').2.2⟩
  | tup l ih =>
    intro cs g vs hc h hs
    obtain ⟨a, h0, h1⟩ := one_some h
    subst h0
    obtain ⟨v, us, rfl, hr, hs1⟩ := hs.uncons
    obtain ⟨m', hm, h2⟩ := Option.bind_eq_some_iff.1 h1
    obtain ⟨g', hg', h3⟩ := Option.bind_eq_some_iff.1 h2
    have h5 := asTup_some hm
    subst h5
    obtain ⟨hrest, h6⟩ := whole_some h3
    have h7 : g.val = g'.val := (Prod.mk.inj h6).1
    cases hr with
    | tup _ _ vs hs' hr =>
    obtain ⟨k1, us', ws', k2, k3, k4⟩ := ih hok (vs := vs.toList) hc hg' ⟨by simpa using hs', fun i a v ha hv => hr i a v ha (by simpa using hv)⟩
    rw [hrest] at k4
    have hw : ws' = [] := List.eq_nil_of_length_eq_zero k4.1
    subst hw
    simp only [List.append_nil] at k2
    subst k2
    refine ⟨by simp only [encX, clL, AV.cl, Bool.and_true]; rw [h7]; exact k1, [_], us, rfl, .cons ?_ .nil, hs1⟩
    rw [h7]
    exact .tup _ _ _ (by have := k3.1; simpa using this) fun i a v ha hv => k3.2 i a v ha (by simpa using hv)
  | pair s l ih1 ih2 =>
    intro cs g vs hc h hs
    simp only [Sh.clo, Bool.and_eq_true] at hc
    simp only [decX, Option.bind_eq_some_iff] at h
    obtain ⟨x, hx, y, hy, h⟩ := h
    cases h
    obtain ⟨h1, us, ws, rfl, h2, h3⟩ := ih1 hok hc.1 hx hs
    obtain ⟨k1, us', ws', rfl, k2, k3⟩ := ih2 hok hc.2 hy h3
    exact ⟨clL_append h1 k1, us ++ us', ws', by simp, h2.append k2, k3⟩

theorem asOwn_some {e : Nat} {t : Ty} {a : AV} {x : List t.den × Option Nat} (h : a.asOwn e t = some x) : (a = .snil ∧ x = ([], none)) ∨ ∃ i, a = .own i e t x.1 ∧ x.2 = some i := by
  unfold AV.asOwn at h
  split at h
  · exact .inl ⟨rfl, (Option.some.inj h).symm⟩
  · rename_i i e' u xs
    split at h
    case isFalse => cases h
    rename_i he
    subst he
    obtain ⟨ys, hy, h⟩ := Option.bind_eq_some_iff.1 h
    cases h
    obtain ⟨eu, ey⟩ := cast_eq hy
    subst eu
    subst ey
    exact .inr ⟨i, rfl, rfl⟩
  · cases h

/-- Read with any shape: under the shape's names. -/
theorem enc_ren (hids : idsOK E.dead N m = true) {s : Sh} : ∀ {cs : List AV} {g : Got s.den} {vs : List Value}, decX s cs = some g → (∀ p ∈ g.ids, p ∈ m) → Seq w E cs vs →
    ∃ us ws, vs = us ++ ws ∧ Seq w (E.ren m) (encX s g.val) us ∧ Seq w E g.rest ws := by
  have hok : ∀ k b o, E.ok k b o → (E.ren m).ok k b o := fun _ _ _ h => h
  obtain ⟨hN, hdead, hfun⟩ := idsOK_spec hids
  induction s with
  | nil => intro cs g vs h hm hs; obtain ⟨_, h⟩ := enc_clo hok (by rfl) h hs; exact h
  | int k => intro cs g vs h hm hs; obtain ⟨_, h⟩ := enc_clo hok (by rfl) h hs; exact h
  | bool => intro cs g vs h hm hs; obtain ⟨_, h⟩ := enc_clo hok (by rfl) h hs; exact h
  | str => intro cs g vs h hm hs; obtain ⟨_, h⟩ := enc_clo hok (by rfl) h hs; exact h
  | list t => intro cs g vs h hm hs; obtain ⟨_, h⟩ := enc_clo hok (by rfl) h hs; exact h
  | agg t => intro cs g vs h hm hs; obtain ⟨_, h⟩ := enc_clo hok (by rfl) h hs; exact h
  | ptr l ih =>
    intro cs g vs h hm hs
    obtain ⟨_, h⟩ := enc_clo hok (by rfl) h hs
    exact h
  | own id e t =>
    intro cs g vs h hm hs
    obtain ⟨a, h0, h1⟩ := one_some h
    subst h0
    obtain ⟨v, us, rfl, hr, hs1⟩ := hs.uncons
    obtain ⟨x, hx, h2⟩ := Option.bind_eq_some_iff.1 h1
    obtain ⟨h3, h4⟩ := pair_inj h2
    refine ⟨[v], us, rfl, .cons ?_ .nil, hs1⟩
    rcases asOwn_some hx with ⟨h0', hx2⟩ | ⟨i, h0', hi⟩
    · subst h0'
      have h5 : g.val = ([] : List t.den) := by rw [← h3, hx2]
      rw [h5]
      cases hr
      exact .own _ _ _ _ _ _ (.tl _ _ [] none 0 0 0 (fun _ _ => undef) (by simp) (fun h => absurd rfl h) (fun i x j c h => by simp at h) fun i x j c h => by simp at h) fun _ => .inl rfl
    · subst h0'
      rw [← h3]
      rw [hi] at h4
      have hmem : (false, id, i) ∈ m := hm _ (by rw [← h4]; simp)
      cases hr with
      | own _ _ _ _ _ _ htl ho =>
      refine .own _ _ _ _ _ _ (htl.ofClosed rfl fun _ _ _ h => h) fun _ => ?_
      rcases ho (hdead _ _ hmem) with hn | ⟨o1, o2, o3, o4⟩
      · exact .inl hn
      · exact .inr ⟨⟨i, hmem, o1⟩, o2, by rw [ren_σ hids hmem]; exact o3, fun k o h => by rw [ren_σ hids hmem]; exact o4 k o h⟩
  | fn f l ih =>
    intro cs g vs h hm hs
    obtain ⟨a, h0, h1⟩ := one_some h
    subst h0
    obtain ⟨v, us, rfl, hr, hs1⟩ := hs.uncons
    obtain ⟨m', hm', h2⟩ := Option.bind_eq_some_iff.1 h1
    obtain ⟨g', hg', h3⟩ := Option.bind_eq_some_iff.1 h2
    have h5 := asFn_some hm'
    subst h5
    obtain ⟨hrest, h6⟩ := whole_some h3
    have h7 : g.val = g'.val := (Prod.mk.inj h6).1
    have h8 : g.ids = g'.ids := (Prod.mk.inj h6).2
    cases hr with
    | fn _ _ _ vs hs' hr =>
    obtain ⟨us', ws', k2, k3, k4⟩ := ih (vs := vs.toList) hg' (by rw [← h8]; exact hm) ⟨by simpa using hs', fun i a v ha hv => hr i a v ha (by simpa using hv)⟩
    rw [hrest] at k4
    have hw : ws' = [] := List.eq_nil_of_length_eq_zero k4.1
    subst hw
    simp only [List.append_nil] at k2
    subst k2
    refine ⟨[_], us, rfl, .cons ?_ .nil, hs1⟩
    rw [h7]
    exact .fn _ _ _ _ (by have := k3.1; simpa using this) fun i a v ha hv => k3.2 i a v ha (by simpa using hv)
  | box id l ih =>
    intro cs g vs h hm hs
    obtain ⟨a, h0, h1⟩ := one_some h
    subst h0
    obtain ⟨v, us, rfl, hr, hs1⟩ := hs.uncons
    obtain ⟨p, hp, h2⟩ := Option.bind_eq_some_iff.1 h1
    obtain ⟨g', hg', h3⟩ := Option.bind_eq_some_iff.1 h2
    obtain ⟨x, hx, h4⟩ := Option.bind_eq_some_iff.1 h3
    have h5 := asBox_some hp
    subst h5
    obtain ⟨hrest, h6⟩ := whole_some hx
    obtain ⟨h7, h8⟩ := pair_inj h4
    rw [h6] at h7 h8
    simp only at h7 h8
    have hmem : (true, id, p.1) ∈ m := hm _ (by rw [← h8]; simp)
    cases hr with
    | box _ _ _ _ arr TT hl hh hs' h1' hok' hr =>
    obtain ⟨us', ws', k2, k3, k4⟩ := ih (vs := arr.toList) hg' (fun q hq => hm _ (by rw [← h8]; simp [hq])) ⟨by simpa using hs', fun i a v ha hv => hr i a v ha (by simpa using hv)⟩
    rw [hrest] at k4
    have hw : ws' = [] := List.eq_nil_of_length_eq_zero k4.1
    subst hw
    simp only [List.append_nil] at k2
    subst k2
    refine ⟨[_], us, rfl, .cons ?_ .nil, hs1⟩
    rw [← h7]
    have := Rel.box (w := w) (E.ren m) id 0 (encX l g'.val) arr TT ⟨p.1, hmem, hl⟩ (by rw [ren_σ hids hmem]; exact hh) (by have := k3.1; simpa using this) h1' (fun k o => by rw [ren_σ hids hmem]; exact hok' k o)
      fun i a v ha hv => k3.2 i a v ha (by simpa using hv)
    rw [ren_σ hids hmem] at this
    exact this
  | tup l ih =>
    intro cs g vs h hm hs
    obtain ⟨a, h0, h1⟩ := one_some h
    subst h0
    obtain ⟨v, us, rfl, hr, hs1⟩ := hs.uncons
    obtain ⟨m', hm', h2⟩ := Option.bind_eq_some_iff.1 h1
    obtain ⟨g', hg', h3⟩ := Option.bind_eq_some_iff.1 h2
    have h5 := asTup_some hm'
    subst h5
    obtain ⟨hrest, h6⟩ := whole_some h3
    have h7 : g.val = g'.val := (Prod.mk.inj h6).1
    have h8 : g.ids = g'.ids := (Prod.mk.inj h6).2
    cases hr with
    | tup _ _ vs hs' hr =>
    obtain ⟨us', ws', k2, k3, k4⟩ := ih (vs := vs.toList) hg' (by rw [← h8]; exact hm) ⟨by simpa using hs', fun i a v ha hv => hr i a v ha (by simpa using hv)⟩
    rw [hrest] at k4
    have hw : ws' = [] := List.eq_nil_of_length_eq_zero k4.1
    subst hw
    simp only [List.append_nil] at k2
    subst k2
    refine ⟨[_], us, rfl, .cons ?_ .nil, hs1⟩
    rw [h7]
    exact .tup _ _ _ (by have := k3.1; simpa using this) fun i a v ha hv => k3.2 i a v ha (by simpa using hv)
  | pair s l ih1 ih2 =>
    intro cs g vs h hm hs
    simp only [decX, Option.bind_eq_some_iff] at h
    obtain ⟨x, hx, y, hy, h⟩ := h
    cases h
    obtain ⟨us, ws, rfl, h2, h3⟩ := ih1 hx (fun p hp => hm p (by simp [hp])) hs
    obtain ⟨us', ws', rfl, k2, k3⟩ := ih2 hy (fun p hp => hm p (by simp [hp])) h3
    exact ⟨us ++ us', ws', by simp, h2.append k2, k3⟩

theorem gets_seq {fr : List AV} {tmps : Array Value} (hf : RelL w E fr tmps) : ∀ {l : List Nat} {as : List AV}, gets fr l = some as → as.length = l.length ∧ Seq w E as (l.map fun i => tmps.getD i undef)
  | [], as, h => by cases h; exact ⟨rfl, .nil⟩
  | i :: l, as, h => by
    simp only [gets, Option.bind_eq_some_iff] at h
    obtain ⟨a, ha, bs, hb, h⟩ := h
    cases h
    obtain ⟨h1, h2⟩ := gets_seq hf hb
    have hlt : i < tmps.size := by rw [hf.1]; rw [lget_eq] at ha; exact (List.getElem?_eq_some_iff.1 ha).1
    exact ⟨by simp [h1], .cons (hf.2 i a _ ha (by simp [Array.getD, hlt])) h2⟩

theorem putAt_rel {tmps : Array Value} {q : Nat} {v : Value} (hv : tmps[q]? = some v) : ∀ {l : List Nat} {as : List AV}, Seq w E as (l.map fun i => tmps.getD i undef) → Rel w E (putAt l as q) v
  | [], as, h => by
    cases as <;> exact .bot _ _
  | i :: l, [], h => .bot _ _
  | i :: l, a :: as, h => by
    obtain ⟨v', us, h1, h2, h3⟩ := h.uncons
    simp only [List.map_cons, List.cons.injEq] at h1
    obtain ⟨rfl, rfl⟩ := h1
    simp only [putAt]
    split
    · rename_i e
      subst e
      have hlt : q < tmps.size := (Array.getElem?_eq_some_iff.1 hv).1
      have : tmps.getD q undef = v := by
        simp only [Array.getD, hlt, dif_pos]
        exact (Array.getElem?_eq_some_iff.1 hv).2
      rw [← this]; exact h2
    · exact putAt_rel hv h3

/-- What was read stands for no less. -/
theorem Spec.dec_sound {sp : Spec} {s : AS} {x : sp.shape.den} (h : sp.dec s = some x) {GL : World → Prop} {B0 : Nat} {ok0 : Bool → Nat → Nat → Prop} {w0 : World} {a : Act} (hs : SimS GL B0 ok0 w0 s a w) : SimS GL B0 ok0 w0 (sp.enc x) a w := by
  obtain ⟨E, hd, hi, hf⟩ := hs
  unfold Spec.dec at h
  split at h
  case isFalse => cases h
  rename_i hlen
  simp only [Option.bind_eq_some_iff] at h
  obtain ⟨as, has, g, hg, y, hy, h⟩ := h
  split at h
  case isFalse => cases h
  rename_i hids
  cases h
  obtain ⟨hrest, rfl⟩ := whole_some hy
  simp only at hids ⊢
  rw [← hd] at hids
  obtain ⟨h1, h2⟩ := gets_seq hf has
  obtain ⟨us, ws, e, k1, k2⟩ := enc_ren hids hg (fun p hp => hp) h2
  rw [hrest] at k2
  have hw : ws = [] := List.eq_nil_of_length_eq_zero k2.1
  subst hw
  simp only [List.append_nil] at e
  refine ⟨E.ren g.ids, rfl, hi.ren hids, ?_⟩
  refine ⟨by simp [Spec.enc, Spec.frame, hf.1, hlen], fun i b v hb hv => ?_⟩
  simp only [Spec.enc, Spec.frame, lget_eq, List.getElem?_map] at hb
  have hlt : i < sp.n := by
    rw [← hlen, ← hf.1]; exact (Array.getElem?_eq_some_iff.1 hv).1
  simp [hlt] at hb
  subst hb
  exact putAt_rel hv (by rw [e]; exact k1)
end
end Go.Ai

set_option linter.unusedSimpArgs false
set_option linter.unusedVariables false
namespace Go.Ai
open Go Go.RowKit

/-! ### Loops -/
def OutT : List (AX × Spec) → Type
  | [] => Empty
  | p :: l => p.2.shape.den ⊕ OutT l

def encOut : (l : List (AX × Spec)) → OutT l → AX × AS
  | [], x => nomatch x
  | p :: l, .inl x => (p.1, p.2.enc x)
  | _ :: l, .inr x => encOut l x

def decOut : (l : List (AX × Spec)) → AX → AS → Option (OutT l)
  | [], _, _ => none
  | p :: l, x, s => if x = p.1 then (p.2.dec s).bind fun y => some (.inl y) else (decOut l x s).bind fun y => some (.inr y)

/-- How a round ends. -/
def lres (head : Spec) (exits : List (AX × Spec)) (k : head.shape.den → Option (OutT exits)) (x : AX) (s : AS) : Option (OutT exits) :=
  match x with
  | .normal => (head.dec s).bind k
  | x => decOut exits x s

theorem decOut_sound : ∀ {l : List (AX × Spec)} {x : AX} {s : AS} {o : OutT l}, decOut l x s = some o → (encOut l o).1 = x ∧ ∀ GL B0 ok0 w0 a w, SimS GL B0 ok0 w0 s a w → SimS GL B0 ok0 w0 (encOut l o).2 a w
  | [], x, s, o, h => by simp [decOut] at h
  | p :: l, x, s, o, h => by
    unfold decOut at h
    split at h
    · rename_i e
      obtain ⟨y, hy, h⟩ := Option.bind_eq_some_iff.1 h
      cases h
      exact ⟨e.symm, fun GL B0 ok0 w0 a w hs => Spec.dec_sound hy hs⟩
    · obtain ⟨y, hy, h⟩ := Option.bind_eq_some_iff.1 h
      cases h
      have ih := decOut_sound (l := l) hy
      exact ih

section
variable {P : Program} {GL : World → Prop} {T : Nat → Option TI} {O : Nat → List AV → Option AV} {L : Nat → AS → Option (AX × AS)}

theorem loop_sound (hT : TOK P T) (hO : OOK P GL O) (hm : P.follows .mixedOrders = true) {c : Code} (hl : LoopsOK P GL L c) {head : Spec} {exits : List (AX × Spec)} {F : Nat → head.shape.den → Option (OutT exits)}
    (h0 : ∀ st, F 0 st = none) (hF : ∀ n st, F (n + 1) st = (aexec T O L c (head.enc st)).bind fun r => lres head exits (F n) r.1 r.2) {n : Nat} {st : head.shape.den} {o : OutT exits} (h : F n st = some o) :
    Runs P GL (.loop c) (head.enc st) (encOut exits o) := by
  intro B0 ok0 w0 a w Q hs hK
  refine wp_loop_fuel (fun n a' w' => ∃ st, F n st = some o ∧ SimS GL B0 ok0 w0 (head.enc st) a' w' ∧ a'.defers = a.defers) (fun n a1 w1 h1 => ?_) ⟨st, h, hs, rfl⟩
  obtain ⟨st, h1, h2, h3⟩ := h1
  cases n with
  | zero => rw [h0] at h1; cases h1
  | succ n =>
    rw [hF] at h1
    obtain ⟨⟨x, s'⟩, hr, h1⟩ := Option.bind_eq_some_iff.1 h1
    refine aexec_sound hT hO hm c hl _ _ hr B0 ok0 w0 a1 w1 _ h2 fun a2 w2 hs2 hd2 => ?_
    cases x with
    | normal =>
      simp only [lres] at h1
      obtain ⟨st', hst, h1⟩ := Option.bind_eq_some_iff.1 h1
      exact ⟨n, by omega, st', h1, Spec.dec_sound hst hs2, hd2.trans h3⟩
    | exit id =>
      obtain ⟨e, hsim⟩ := decOut_sound (show decOut exits (.exit id) s' = some o from h1)
      have := hK a2 w2 (hsim _ _ _ _ _ _ hs2) (hd2.trans h3)
      rw [e] at this
      exact this
    | ret =>
      obtain ⟨e, hsim⟩ := decOut_sound (show decOut exits .ret s' = some o from h1)
      have := hK a2 w2 (hsim _ _ _ _ _ _ hs2) (hd2.trans h3)
      rw [e] at this
      exact this

/-- A loop, as it is known: by its first region. -/
structure LEnt where
  id : Nat
  head : Spec
  exits : List (AX × Spec)
  f : head.shape.den → Option (OutT exits)

def ltab : List LEnt → Nat → AS → Option (AX × AS)
  | [], _, _ => none
  | e :: l, id, s => if e.id = id then (e.head.dec s).bind fun st => (e.f st).bind fun o => some (encOut e.exits o) else ltab l id s

/-- All the loops' bodies. -/
def loops : Code → List Code
  | .seq a b => loops a ++ loops b
  | .cond _ a b => loops a ++ loops b
  | .block _ a => loops a
  | .loop a => a :: loops a
  | _ => []

def LOK (P : Program) (GL : World → Prop) (L : Nat → AS → Option (AX × AS)) (a : Code) : Prop := ∀ s r, L (firstRegion a) s = some r → Runs P GL (.loop a) s r

theorem loopsOK_of : ∀ {c : Code}, (∀ a ∈ loops c, LOK P GL L a) → LoopsOK P GL L c
  | .seq a b, h => ⟨loopsOK_of fun x hx => h x (by simp [loops, hx]), loopsOK_of fun x hx => h x (by simp [loops, hx])⟩
  | .cond _ a b, h => ⟨loopsOK_of fun x hx => h x (by simp [loops, hx]), loopsOK_of fun x hx => h x (by simp [loops, hx])⟩
  | .block _ a, h => loopsOK_of (c := a) fun x hx => h x (by simp [loops, hx])
  | .loop a, h => h a (by simp [loops])
  | .skip, _ => trivial
  | .region .., _ => trivial
  | .rangeFunc .., _ => trivial
  | .exit _, _ => trivial
  | .scope _, _ => trivial
  | .label _, _ => trivial
  | .goto _, _ => trivial
  | .ret, _ => trivial
  | .refuse _, _ => trivial

theorem runs_of_dec {c : Code} {sp : Spec} {s : AS} {x : sp.shape.den} {r : AX × AS} (h : sp.dec s = some x) (hr : Runs P GL c (sp.enc x) r) : Runs P GL c s r :=
  fun B0 ok0 w0 a w Q hs hK => hr B0 ok0 w0 a w Q (Spec.dec_sound h hs) hK

/-- An entry is right if its function is the loop's, at some count of rounds. -/
theorem lok_of (hT : TOK P T) (hO : OOK P GL O) (hm : P.follows .mixedOrders = true) {c : Code} (hl : LoopsOK P GL L c) (e : LEnt) {F : Nat → e.head.shape.den → Option (OutT e.exits)} (fuel : e.head.shape.den → Nat)
    (hL : ∀ s, L (firstRegion c) s = (e.head.dec s).bind fun st => (e.f st).bind fun o => some (encOut e.exits o)) (hf : ∀ st, e.f st = F (fuel st) st)
    (h0 : ∀ st, F 0 st = none) (hF : ∀ n st, F (n + 1) st = (aexec T O L c (e.head.enc st)).bind fun r => lres e.head e.exits (F n) r.1 r.2) : LOK P GL L c := by
  intro s r h
  rw [hL] at h
  obtain ⟨st, hst, h⟩ := Option.bind_eq_some_iff.1 h
  obtain ⟨o, ho, h⟩ := Option.bind_eq_some_iff.1 h
  cases h
  rw [hf] at ho
  exact runs_of_dec hst (loop_sound hT hO hm hl h0 hF ho)

/-! ### Functions -/
/-- What is known of a function: at data of this shape it gives `f` of the data. -/
structure FSpec where
  g : Nat
  arg : Sh
  res : Sh
  f : arg.den → Option res.den

def headAV : List AV → AV
  | a :: _ => a
  | [] => .bot

def SpecOK (P : Program) (GL : World → Prop) (sp : FSpec) : Prop := ∀ x y, sp.f x = some y → Contract P GL sp.g (encX sp.arg x) (headAV (encX sp.res y))

def otab : List FSpec → Nat → List AV → Option AV
  | [], _, _ => none
  | sp :: l, g, as =>
    if sp.g = g ∧ sp.arg.clo = true then
      match (decX sp.arg as).bind whole with
      | some x => (sp.f x.1).bind fun y => some (headAV (encX sp.res y))
      | none => otab l g as
    else otab l g as

theorem contract_dec {sp : FSpec} {as : List AV} {x : sp.arg.den × List (Bool × Nat × Nat)} {r : AV} (hc : sp.arg.clo = true) (hx : (decX sp.arg as).bind whole = some x) (h : Contract P GL sp.g (encX sp.arg x.1) r) : Contract P GL sp.g as r := by
  intro w ok vs h0 h1 h2 h3
  refine h w ok vs h0 h1 h2 ?_
  obtain ⟨g, hg, hw⟩ := Option.bind_eq_some_iff.1 hx
  obtain ⟨hrest, rfl⟩ := whole_some hw
  obtain ⟨_, us, ws, e, k1, k2⟩ := enc_clo (E := ⟨ok, fun i => i, fun _ _ => False, fun _ => true⟩) (E' := ⟨ok, fun i => i, fun _ _ => False, fun _ => true⟩) (fun _ _ _ h => h) hc hg (vs := vs.toList) ⟨by simpa using h3.1, fun i a v ha hv => h3.2 i a v ha (by simpa using hv)⟩
  rw [hrest] at k2
  have hw : ws = [] := List.eq_nil_of_length_eq_zero k2.1
  subst hw
  simp only [List.append_nil] at e
  subst e
  exact ⟨by have := k1.1; simpa using this, fun i a v ha hv => k1.2 i a v ha (by simpa using hv)⟩

theorem ook_of : ∀ {l : List FSpec}, (∀ sp ∈ l, SpecOK P GL sp) → OOK P GL (otab l)
  | [], _ => fun g as r h => by simp [otab] at h
  | sp :: l, hl => fun g as r h => by
    have ih := ook_of (l := l) fun q hq => hl q (by simp [hq])
    unfold otab at h
    split at h
    · rename_i hc
      split at h
      · rename_i x hx
        obtain ⟨y, hy, h⟩ := Option.bind_eq_some_iff.1 h
        cases h
        rw [← hc.1]
        exact contract_dec hc.2 hx (hl sp (by simp) _ _ hy)
      · exact ih g as r h
    · exact ih g as r h

theorem rel_res {w : World} {ok : Bool → Nat → Nat → Prop} {r : AV} {v : Value} {res : Sh} {y : Got res.den} (hres : res.clo = true) (h : Rel w ⟨ok, fun i => i, fun _ _ => False, fun _ => true⟩ r v) (hd : decX res [r] = some y) (hw : y.rest = []) (h1 : ∃ v, encX res y.val = [v]) :
    Rel w ⟨ok, fun i => i, fun _ _ => False, fun _ => true⟩ (headAV (encX res y.val)) v := by
  obtain ⟨_, us, ws, e, r1, r2⟩ := enc_clo (E' := ⟨ok, fun i => i, fun _ _ => False, fun _ => true⟩) (fun _ _ _ h => h) hres hd (vs := [v]) (.cons h .nil)
  rw [hw] at r2
  have hw' : ws = [] := List.eq_nil_of_length_eq_zero r2.1
  subst hw'
  simp only [List.append_nil] at e
  subst e
  obtain ⟨u, hu⟩ := h1
  rw [hu] at r1 ⊢
  exact r1.2 0 u v rfl rfl

theorem contract_res {g : Nat} {as : List AV} {r : AV} {res : Sh} {y : Got res.den} (hres : res.clo = true) (h : Contract P GL g as r) (hd : decX res [r] = some y) (hw : y.rest = []) (h1 : ∃ v, encX res y.val = [v]) : Contract P GL g as (headAV (encX res y.val)) := by
  intro w ok vs k0 k1 k2 k3
  rcases h w ok vs k0 k1 k2 k3 with ⟨v, h2, h3⟩ | ⟨h2, h3⟩
  · exact .inl ⟨v, h2, rel_res hres h3 hd hw h1⟩
  · refine .inr ⟨h2, h3.mono fun e w' h => ?_⟩
    obtain ⟨v, ok', rfl, q1, q2, q3, q4, q5, q6⟩ := h
    exact ⟨v, ok', rfl, q1, q2, q3, q4, q5, rel_res hres q6 hd hw h1⟩

/-- A single value. -/
def Sh.single : Sh → Bool
  | .nil => false
  | .pair _ _ => false
  | _ => true

theorem single_enc {s : Sh} (h : s.single = true) (x : s.den) : ∃ v, encX s x = [v] := by
  cases s <;> simp [Sh.single] at h <;> exact ⟨_, rfl⟩

/-- A body, in data. -/
def bodyF (T : Nat → Option TI) (O : Nat → List AV → Option AV) (L : Nat → AS → Option (AX × AS)) (fn : Func) (arg res : Sh) (x : arg.den) : Option res.den :=
  (abody T O L fn (encX arg x)).bind fun r => (decX res [r]).bind fun g => (whole g).bind fun y => some y.1

theorem spec_of_body (hT : TOK P T) (hO : OOK P GL O) (hm : P.follows .mixedOrders = true) {sp : FSpec} {fn : Func} {c : Code} (hf : P.funcs[sp.g]? = some fn) (hname : (fn.name == "runtime.NumGoroutine") = false)
    (hb : fn.body = some c) (hl : LoopsOK P GL L c) (ha : ∀ x, clL (encX sp.arg x) = true) (hr : sp.res.clo = true) (hs : sp.res.single = true) (h : ∀ x, sp.f x = bodyF T O L fn sp.arg sp.res x) : SpecOK P GL sp := by
  intro x y hy
  rw [h] at hy
  unfold bodyF at hy
  obtain ⟨r, hr', hy⟩ := Option.bind_eq_some_iff.1 hy
  obtain ⟨g, hg, hy⟩ := Option.bind_eq_some_iff.1 hy
  obtain ⟨z, hz, hy⟩ := Option.bind_eq_some_iff.1 hy
  obtain ⟨hrest, rfl⟩ := whole_some hz
  cases hy
  exact contract_res hr (contract_of_body hT hO hm hf hname hb hl (ha x) hr') hg hrest (single_enc hs _)

theorem enc_closed : ∀ {s : Sh} (x : s.den), s.clo = true → clL (encX s x) = true := by
  intro s
  induction s with
  | own => intro x h; simp [Sh.clo] at h
  | box => intro x h; simp [Sh.clo] at h
  | agg t => intro x h; simp only [encX, clL, AV.cl, Bool.and_true]; exact emb_cl _ _
  | fn f l ih => intro x h; simp only [encX, clL, AV.cl, Bool.and_true]; exact ih x h
  | tup l ih => intro x h; simp only [encX, clL, AV.cl, Bool.and_true]; exact ih x h
  | pair s l ih1 ih2 => intro x h; simp only [Sh.clo, Bool.and_eq_true] at h; exact clL_append (ih1 x.1 h.1) (ih2 x.2 h.2)
  | _ => intro x h; rfl
end
end Go.Ai

set_option linter.unusedSimpArgs false
set_option linter.unusedVariables false
namespace Go.Ai
open Go Go.RowKit

/-! The executor once more, with what follows handed in: what hangs on data stands outside, so that a body's value is a plain term. -/
variable {α : Type}

/-- A choice that hangs on data. -/
def brK (t : Bool) (x y : Option α) : Option α :=
  match t with
  | true => x
  | false => y

/-- A part that may fail, and what follows. -/
def bindK {β : Type} (o : Option β) (k : β → Option α) : Option α := o.bind k

def forceL : List AV → (List AV → Option α) → Option α
  | [], k => k []
  | a :: l, k => forceL l fun l' => k (a :: l')

theorem forceL_eq : ∀ (l : List AV) (k : List AV → Option α), forceL l k = k l
  | [], _ => rfl
  | a :: l, k => forceL_eq l _

/-- A byte of a string. -/
def strAt (s : ByteArray) (n : Int) : Option Int := if n < 0 then none else (s.data[n.toNat]?).bind fun c => some (c.toNat : Int)
/-- An element of a list. -/
def listAt {β : Type} (xs : List β) (n : Int) : Option β := if n < 0 then none else xs[n.toNat]?

def guardK (ops : List Oper) (o : Oper) (fr : List AV) (yes no : List AV → Option α) : Option α :=
  match o.guard with
  | none => yes fr
  | some (j, want) => (lget ops j).bind fun p => p.dst.bind fun d => (lget fr d).bind fun a => match a with
    | .bool b => match want with
      | true => brK b (yes (lset fr d (.bool true))) (no (lset fr d (.bool false)))
      | false => brK b (no (lset fr d (.bool true))) (yes (lset fr d (.bool false)))
    | .tup [] => no fr
    | _ => none

def setB (fr : List AV) (c : Operand) (b : Bool) : List AV :=
  match c with
  | .tmp d => lset fr d (.bool b)
  | _ => fr

def aintK (op : BinOp) (k : IntKind) (a b : Int) (K : AV → Option α) : Option α :=
  match op with
  | .quo => brK (decide (b = 0)) none (K (.int k (k.wrap (a.tdiv b))))
  | .rem => brK (decide (b = 0)) none (K (.int k (a.tmod b)))
  | op => (aint op k a b).bind K

def abinK (op : BinOp) (x y : AV) (K : AV → Option α) : Option α :=
  match x, y with
  | .int k a, .int k' b =>
    match op with
    | .shl => brK (decide (b < 0)) none (K (.int k (k.wrap (a * 2 ^ (min b.toNat k.bits)))))
    | .shr => brK (decide (b < 0)) none (K (.int k (a.fdiv (2 ^ (min b.toNat k.bits)))))
    | op => if k = k' then aintK op k a b K else none
  | .str a, .str b =>
    match op with
    | .add => brK (decide (a.size + b.size ≤ 140737488355328)) (K (.str (a ++ b))) none
    | op => (abin op (.str a) (.str b)).bind K
  | _, _ => none

section
variable (T : Nat → Option TI) (OK : Nat → List AV → (AV → Option α) → Option α)

def acallK (f : AV) (as : List AV) (K : AV → Option α) : Option α :=
  match f with
  | .fn g caps => OK g (escL (as ++ caps)) fun r => if (r.cl && (nbL (as ++ caps) || r.np)) = true then K r else none
  | _ => none

def aappendK (id : Nat) (t t' : Nat) (s x : AV) (K : AV → Option Nat → Option α) : Option α :=
  if t ≠ t' then none else
    (T t).bind fun i => match i.kind with
    | .slice e => (T e).bind fun j => (x.elems j.ty).bind fun zs =>
      if j.sz = 0 then none else
      match s with
      | .snil => brK (fits 0 zs.length j.bytes) (K (.own id e j.ty zs) none) none
      | .own d e' u ys => if e' ≠ e then none else (cast u j.ty ys).bind fun ys =>
        brK (fits ys.length zs.length j.bytes) (K (.own id e j.ty (ys ++ zs)) (some d)) none
      | .clip u ys => (cast u j.ty ys).bind fun ys => brK (fits ys.length zs.length j.bytes) (K (.tl j.ty (ys ++ zs)) none) none
      | _ => none
    | _ => none

def asliceK (t : Nat) (a : AV) (l hv m : Option AV) (K : AV → Option α) : Option α :=
  (T t).bind fun i => match i.kind, a, m with
    | .str, .str s, none => (abound l 0).bind fun l => (abound hv s.size).bind fun h =>
      brK (decide (0 ≤ l ∧ l ≤ h ∧ h ≤ s.size)) (K (.str (s.extract l.toNat h.toNat))) none
    | .slice e, a, none => (T e).bind fun j => (a.elems j.ty).bind fun xs => (abound l 0).bind fun l => (abound hv xs.length).bind fun h =>
      brK (decide (0 ≤ l ∧ l ≤ h ∧ h ≤ xs.length)) (K (.tl j.ty ((xs.take h.toNat).drop l.toNat))) none
    | .slice e, a, some (.int _ m) => (T e).bind fun j => (a.elems j.ty).bind fun xs => (abound hv xs.length).bind fun h =>
      if hv.isSome = true ∧ l.isNone = true then brK (decide (0 ≤ h ∧ h ≤ xs.length ∧ h = m)) (K (.clip j.ty (xs.take h.toNat))) none else none
    | _, _, _ => none

def aindexK (t : Nat) (a n : AV) (K : AV → Option α) : Option α :=
  (T t).bind fun i => match i.kind, n with
    | .slice e, .int _ n => (T e).bind fun j => (a.elems j.ty).bind fun xs => bindK (listAt xs n) fun x => K (.eptr (emb j.ty x))
    | _, _ => none

def abinTK (op : BinOp) (t : Nat) (x y : AV) (K : AV → Option α) : Option α :=
  match x, y with
  | .bool a, .bool b => (abinT T op t (.bool a) (.bool b)).bind K
  | x, y => abinK op x y K

def avalK (id : Nat) (o : Oper) (fr : List AV) (K : List AV → AV → Option Nat → Option α) : Option α :=
  match o.op with
  | .pick c a b => (aget fr c).bind fun t => match t with
    | .bool t => brK t ((aget fr a).bind fun a => K (setB fr c true) a none) ((aget fr b).bind fun b => K (setB fr c false) b none)
    | _ => none
  | .binOp op t x y _ => (aget fr x).bind fun a => (aget fr y).bind fun b => abinTK T op t a b fun v => K fr v none
  | .slice t x lo hi mx => (aget fr x).bind fun a => (agetO fr lo).bind fun l => (agetO fr hi).bind fun h => (agetO fr mx).bind fun m => asliceK T t a l h m fun v => K fr v none
  | .indexAddr t x ix => (aget fr x).bind fun a => (aget fr ix).bind fun n => aindexK T t a n fun v => K fr v none
  | .makeSlice t l c => (T t).bind fun i => match i.kind with
    | .slice e => (T e).bind fun j => (aget fr l).bind fun l => (aget fr c).bind fun c => match l, c with
      | .int _ l, .int _ c => (dec j.ty j.zero.cells).bind fun z => brK (decide (0 ≤ l ∧ l ≤ c ∧ (j.bytes : Int) * c ≤ 281474976710656 ∧ c ≤ 9223372036854775807)) (K fr (.own id e j.ty (List.replicate l.toNat z)) none) none
      | _, _ => none
    | _ => none
  | .index t x ix => (T t).bind fun i => (aget fr x).bind fun a => (aget fr ix).bind fun n => match i.kind, a, n with
    | .str, .str s, .int _ n => bindK (strAt s n) fun c => K fr (.int .u8 c) none
    | _, _, _ => none
  | .call c => match c.callee with
    | .builtin .append => (agets fr c.args.toList).bind fun as => match c.argTypes.toList, as with
      | [t, t'], [s, x] => aappendK T id t t' s x fun v d => K fr v d
      | _, _ => none
    | .builtin b => (agets fr c.args.toList).bind fun as => (abuiltin T id b c.argTypes.toList as).bind fun r => K fr r.1 r.2
    | .value f => (aget fr f).bind fun g => (agets fr c.args.toList).bind fun as => acallK OK g as fun r => K fr r none
    | _ => none
  | _ => (aval T (fun _ _ => none) id o fr).bind fun r => K fr r.1 r.2

def astepK (ops : List Oper) (id : Nat) (o : Oper) (s : AS) (K : AS → Option α) : Option α :=
  guardK ops o s.fr (fun fr =>
    match o.op with
    | .store t x y => if o.dst.isSome = true then none else (T t).bind fun ti => (aget fr x).bind fun p => (aget fr y).bind fun v => match p with
      | .box id off cs => if ocells v.cells = false ∨ ocells cs = false ∨ v.cells.length ≠ ti.sz ∨ off + ti.sz > cs.length then none else
        forceL (updL id (cs.take off ++ v.cells ++ cs.drop (off + ti.sz)) fr) fun fr => K { s with fr := fr }
      | _ => none
    | _ => avalK T OK id o fr fun fr v dk => (akill dk s.dead).bind fun d => forceL (aput fr o.dst v) fun fr => K { s with fr := fr, dead := d })
    fun fr => forceL (aput fr o.dst (.tup [])) fun fr => K { s with fr := fr }

def astepsK (ops : List Oper) (base : Nat) : Nat → List Oper → AS → (AS → Option α) → Option α
  | _, [], s, K => K s
  | i, o :: l, s, K => astepK T OK ops (base + i) o s fun s => astepsK ops base (i + 1) l s K

variable (LK : Nat → AS → (AX → AS → Option α) → Option α)

def aexecK : Code → AS → (AX → AS → Option α) → Option α
  | .skip, s, K => K .normal s
  | .region _ ops d, s, K => if d = true ∧ drawOK ops.toList = false then none else astepsK T OK ops.toList s.next 0 ops.toList s fun s' => K .normal { s' with next := s.next + ops.toList.length }
  | .seq a b, s, K => aexecK a s fun x s => match x with
    | .normal => aexecK b s K
    | x => K x s
  | .cond c x y, s, K => (aget s.fr c).bind fun t => match t with
    | .bool t => brK t (aexecK x { s with fr := setB s.fr c true } K) (aexecK y { s with fr := setB s.fr c false } K)
    | _ => none
  | .block id c, s, K => aexecK c s fun x s => match x with
    | .exit j => if j = id then K .normal s else K (.exit j) s
    | x => K x s
  | .loop c, s, K => LK (firstRegion c) s K
  | .exit id, s, K => K (.exit id) s
  | .ret, s, K => K .ret s
  | _, _, _ => none

def bodyK (fn : Func) (arg res : Sh) (x : arg.den) (fin : Option res.den → Option α) : Option α :=
  fn.body.bind fun c => aexecK T OK LK c { fr := startFrame fn (encX arg x), dead := fun _ => false, next := 0 } fun x s => match x with
    | .exit _ => none
    | _ => (aresults T s.fr fn.results.toList).bind fun vs => (decX res [tupled vs]).bind fun g => (whole g).bind fun y => fin (some y.1)
end

def otabK : List FSpec → Nat → List AV → (AV → Option α) → Option α
  | [], _, _, _ => none
  | sp :: l, g, as, K =>
    if sp.g = g ∧ sp.arg.clo = true then
      match (decX sp.arg as).bind whole with
      | some x => bindK (sp.f x.1) fun y => K (headAV (encX sp.res y))
      | none => otabK l g as K
    else otabK l g as K

def sumK {β γ : Type} (x : β ⊕ γ) (f : β → Option α) (g : γ → Option α) : Option α :=
  match x with
  | .inl y => f y
  | .inr z => g z
def emptyK (x : Empty) : Option α := nomatch x

def encOutK : (l : List (AX × Spec)) → OutT l → (AX → AS → Option α) → Option α
  | [], x, _ => emptyK x
  | p :: l, x, K => sumK x (fun y => K p.1 (p.2.enc y)) fun z => encOutK l z K

def ltabK : List LEnt → Nat → AS → (AX → AS → Option α) → Option α
  | [], _, _, _ => none
  | e :: l, id, s, K => if e.id = id then (e.head.dec s).bind fun st => bindK (e.f st) fun o => encOutK e.exits o K else ltabK l id s K

/-! ### It is the same -/
theorem brK_if (t : Bool) (x y : Option α) : brK t x y = if t = true then x else y := by cases t <;> rfl

theorem brK_bind {β : Type} (t : Bool) (x y : Option β) (K : β → Option α) : (brK t x y).bind K = brK t (x.bind K) (y.bind K) := by cases t <;> rfl

theorem if_bind {β : Type} (p : Prop) [Decidable p] (x y : Option β) (K : β → Option α) : (if p then x else y).bind K = if p then x.bind K else y.bind K := by split <;> rfl

theorem brK_dec (p : Prop) [Decidable p] (x y : Option α) : brK (decide p) x y = if p then x else y := by
  by_cases h : p <;> simp [brK, h]

theorem abinK_eq (op : BinOp) (x y : AV) (K : AV → Option α) : abinK op x y K = (abin op x y).bind K := by
  cases x <;> cases y <;> try rfl
  · rename_i k a k' b
    by_cases e : k = k' <;> cases op <;> simp only [abinK, abin, aintK, aint, brK_dec, e, if_true, if_false, Option.bind_some, Option.bind_none] <;> first | rfl | (split <;> rfl)
  · rename_i a b
    cases op <;> simp only [abinK, abin, brK_dec, Option.bind_some, Option.bind_none] <;> first | rfl | (split <;> rfl)

theorem otabK_eq : ∀ (l : List FSpec) (g : Nat) (as : List AV) (K : AV → Option α), otabK l g as K = (otab l g as).bind K
  | [], _, _, _ => rfl
  | sp :: l, g, as, K => by
    simp only [otabK, otab]
    split
    · cases (decX sp.arg as).bind whole with
      | none => exact otabK_eq l g as K
      | some x => simp only [bindK, Option.bind_assoc, Option.bind_some]
    · exact otabK_eq l g as K

theorem encOutK_eq : ∀ (l : List (AX × Spec)) (o : OutT l) (K : AX → AS → Option α), encOutK l o K = K (encOut l o).1 (encOut l o).2
  | [], o, _ => nomatch o
  | p :: l, .inl y, K => rfl
  | p :: l, .inr y, K => encOutK_eq l y K

theorem ltabK_eq : ∀ (l : List LEnt) (id : Nat) (s : AS) (K : AX → AS → Option α), ltabK l id s K = (ltab l id s).bind fun r => K r.1 r.2
  | [], _, _, _ => rfl
  | e :: l, id, s, K => by
    unfold ltabK ltab
    split
    · simp only [bindK, Option.bind_assoc, Option.bind_some, encOutK_eq]
    · exact ltabK_eq l id s K

section
variable {T : Nat → Option TI} {OK : Nat → List AV → (AV → Option α) → Option α} {O : Nat → List AV → Option AV}

theorem lset_self : ∀ {l : List AV} {d : Nat} {v : AV}, lget l d = some v → lset l d v = l
  | [], _, _, h => by simp [lget] at h
  | a :: l, 0, v, h => by simp [lget] at h; simp [lset, h]
  | a :: l, n + 1, v, h => by simp only [lset]; rw [lset_self (by simpa [lget] using h)]

theorem guardK_eq (ops : List Oper) (o : Oper) (fr : List AV) (yes no : List AV → Option α) : guardK ops o fr yes no = (awanted ops o fr).bind fun b => if b = true then yes fr else no fr := by
  unfold guardK awanted
  cases o.guard with
  | none => rfl
  | some g =>
    obtain ⟨j, want⟩ := g
    simp only
    cases lget ops j with
    | none => rfl
    | some p =>
      simp only [Option.bind_some]
      cases p.dst with
      | none => rfl
      | some d =>
        simp only [Option.bind_some]
        cases hd : lget fr d with
        | none => rfl
        | some a =>
          simp only [Option.bind_some]
          cases a with
          | bool b =>
            cases b <;> cases want <;> simp [brK, lset_self hd]
          | tup l => cases l <;> rfl
          | _ => rfl

theorem setB_self {fr : List AV} {c : Operand} {b : Bool} (h : aget fr c = some (.bool b)) : setB fr c b = fr := by
  cases c with
  | tmp d => exact lset_self h
  | _ => rfl

theorem fits_bind {β : Type} (t : Bool) (x : Option β) (K : β → Option α) : brK t (x.bind K) none = (if t = true then x else none).bind K := by cases t <;> rfl

theorem aappendK_eq (id t t' : Nat) (s x : AV) (K : AV → Option Nat → Option α) : aappendK T id t t' s x K = (aappend T id t t' s x).bind fun r => K r.1 r.2 := by
  unfold aappendK aappend
  split
  · rfl
  · cases T t with
    | none => rfl
    | some i =>
      simp only [Option.bind_some]
      cases i.kind with
      | slice e =>
        simp only
        cases T e with
        | none => rfl
        | some j =>
          simp only [Option.bind_some]
          cases x.elems j.ty with
          | none => rfl
          | some zs =>
            simp only [Option.bind_some]
            split
            · rfl
            · cases s with
              | snil => simp only; cases fits 0 zs.length j.bytes <;> rfl
              | own d e' u ys =>
                simp only
                split
                · rfl
                · cases cast u j.ty ys with
                  | none => rfl
                  | some ys => simp only [Option.bind_some]; cases fits ys.length zs.length j.bytes <;> rfl
              | clip u ys =>
                simp only
                cases cast u j.ty ys with
                | none => rfl
                | some ys => simp only [Option.bind_some]; cases fits ys.length zs.length j.bytes <;> rfl
              | _ => rfl
      | _ => rfl

theorem asliceK_eq (t : Nat) (a : AV) (l hv m : Option AV) (K : AV → Option α) : asliceK T t a l hv m K = (aslice T t a l hv m).bind K := by
  unfold asliceK aslice
  cases T t with
  | none => rfl
  | some i =>
    simp only [Option.bind_some]
    cases i.kind with
    | str =>
      cases m with
      | some m => cases a <;> rfl
      | none =>
        cases a with
        | str s =>
          simp only
          cases abound l 0 with
          | none => rfl
          | some l' =>
            simp only [Option.bind_some]
            cases abound hv s.size with
            | none => rfl
            | some h' => simp only [Option.bind_some, brK_dec]; split <;> rfl
        | _ => rfl
    | slice e =>
      cases m with
      | none =>
        simp only
        cases T e with
        | none => rfl
        | some j =>
          simp only [Option.bind_some]
          cases a.elems j.ty with
          | none => rfl
          | some xs =>
            simp only [Option.bind_some]
            cases abound l 0 with
            | none => rfl
            | some l' =>
              simp only [Option.bind_some]
              cases abound hv xs.length with
              | none => rfl
              | some h' => simp only [Option.bind_some, brK_dec]; split <;> rfl
      | some m =>
        cases m with
        | int k m =>
          simp only
          cases T e with
          | none => rfl
          | some j =>
            simp only [Option.bind_some]
            cases a.elems j.ty with
            | none => rfl
            | some xs =>
              simp only [Option.bind_some]
              cases abound hv xs.length with
              | none => rfl
              | some h' =>
                simp only [Option.bind_some, brK_dec]
                by_cases h1 : hv.isSome = true ∧ l.isNone = true
                · by_cases h2 : 0 ≤ h' ∧ h' ≤ xs.length ∧ h' = m
                  · rw [if_pos h1, if_pos h2, if_pos ⟨h1.1, h1.2, h2⟩]; rfl
                  · rw [if_pos h1, if_neg h2, if_neg fun h => h2 h.2.2]; rfl
                · rw [if_neg h1, if_neg fun h => h1 ⟨h.1, h.2.1⟩]; rfl
        | _ => rfl
    | _ => cases m <;> cases a <;> rfl

theorem aindexK_eq (t : Nat) (a n : AV) (K : AV → Option α) : aindexK T t a n K = (aindex T t a n).bind K := by
  unfold aindexK aindex
  cases T t with
  | none => rfl
  | some i =>
    simp only [Option.bind_some]
    cases i.kind with
    | slice e =>
      cases n with
      | int k n =>
        simp only
        cases T e with
        | none => rfl
        | some j =>
          simp only [Option.bind_some]
          cases a.elems j.ty with
          | none => rfl
          | some xs =>
            simp only [Option.bind_some, bindK, listAt]
            split
            · rfl
            · cases xs[n.toNat]? <;> rfl
      | _ => rfl
    | _ => cases n <;> rfl

theorem abinTK_eq (op : BinOp) (t : Nat) (x y : AV) (K : AV → Option α) : abinTK T op t x y K = (abinT T op t x y).bind K := by
  unfold abinTK abinT
  cases x <;> cases y <;> simp only [abinK_eq]

theorem acallK_eq (hO : ∀ g as (K : AV → Option α), OK g as K = (O g as).bind K) (f : AV) (as : List AV) (K : AV → Option α) : acallK OK f as K = (acall O f as).bind K := by
  cases f <;> try rfl
  rename_i g caps
  simp only [acallK, acall, hO]
  cases O g (escL (as ++ caps)) with
  | none => rfl
  | some r => simp only [Option.bind_some]; split <;> rfl

theorem avalK_eq (hO : ∀ g as (K : AV → Option α), OK g as K = (O g as).bind K) (id : Nat) (o : Oper) (fr : List AV) (K : List AV → AV → Option Nat → Option α) : avalK T OK id o fr K = (aval T O id o fr).bind fun r => K fr r.1 r.2 := by
  obtain ⟨dst, op, type, pos, after, guard⟩ := o
  cases op <;> simp only [avalK] <;> try (simp only [aval]; done)
  case pick c a b =>
    simp only [aval]
    cases hc : aget fr c with
    | none => rfl
    | some t =>
      simp only [Option.bind_some]
      cases t with
      | bool t =>
        cases t with
        | true =>
          simp only [brK, if_true, setB_self hc]
          cases aget fr a <;> rfl
        | false =>
          simp only [brK, Bool.false_eq_true, if_false, setB_self hc]
          cases aget fr b <;> rfl
      | _ => rfl
  case binOp op t x y t' =>
    simp only [aval, abinTK_eq]
    cases aget fr x with
    | none => rfl
    | some a =>
      cases aget fr y with
      | none => rfl
      | some b => simp only [Option.bind_some]; cases abinT T op t a b <;> rfl
  case slice t x lo hi mx =>
    simp only [aval, asliceK_eq]
    cases aget fr x with
    | none => rfl
    | some a =>
      cases agetO fr lo with
      | none => rfl
      | some l =>
        cases agetO fr hi with
        | none => rfl
        | some h =>
          cases agetO fr mx with
          | none => rfl
          | some m => simp only [Option.bind_some]; cases aslice T t a l h m <;> rfl
  case indexAddr t x y =>
    simp only [aval, aindexK_eq]
    cases aget fr x with
    | none => rfl
    | some a =>
      cases aget fr y with
      | none => rfl
      | some b => simp only [Option.bind_some]; cases aindex T t a b <;> rfl
  case index t x y =>
    simp only [aval]
    cases T t with
    | none => rfl
    | some i =>
      cases aget fr x with
      | none => rfl
      | some a =>
        cases aget fr y with
        | none => rfl
        | some b =>
          simp only [Option.bind_some]
          cases i.kind with
          | str =>
            cases a with
            | str s =>
              cases b with
              | int k n =>
                simp only [bindK, strAt]
                split
                · rfl
                · cases s.data[n.toNat]? <;> rfl
              | _ => rfl
            | _ => rfl
          | _ => cases a <;> cases b <;> rfl
  case unOp op t x => cases op <;> simp only [aval]
  case makeSlice t l c =>
    simp only [aval]
    cases T t with
    | none => rfl
    | some i =>
      simp only [Option.bind_some]
      cases i.kind with
      | slice e =>
        simp only
        cases T e with
        | none => rfl
        | some j =>
          simp only [Option.bind_some]
          cases aget fr l with
          | none => rfl
          | some l =>
            simp only [Option.bind_some]
            cases aget fr c with
            | none => rfl
            | some c =>
              simp only [Option.bind_some]
              cases l <;> cases c <;> try rfl
              simp only
              cases dec j.ty j.zero.cells with
              | none => rfl
              | some z => simp only [Option.bind_some, brK_dec]; split <;> rfl
      | _ => rfl
  case makeFunc f first caps => cases f <;> simp only [aval]
  case call c =>
    obtain ⟨cal, xs, ts⟩ := c
    cases cal with
    | builtin b =>
      simp only [aval]
      cases agets fr xs.toList with
      | none => cases b <;> rfl
      | some as =>
        cases b <;> try rfl
        simp only [Option.bind_some]
        generalize ts.toList = tl
        rcases tl with _ | ⟨t, _ | ⟨t', _ | _⟩⟩ <;> rcases as with _ | ⟨s, _ | ⟨x, _ | _⟩⟩ <;> first | rfl | exact aappendK_eq ..
    | value f =>
      simp only [aval, acallK_eq hO]
      cases aget fr f with
      | none => rfl
      | some g =>
        cases agets fr xs.toList with
        | none => rfl
        | some as => simp only [Option.bind_some]; cases acall O g as <;> rfl
    | invoke r m => rfl

theorem astepK_eq (hO : ∀ g as (K : AV → Option α), OK g as K = (O g as).bind K) (ops : List Oper) (id : Nat) (o : Oper) (s : AS) (K : AS → Option α) : astepK T OK ops id o s K = (astep T O ops id o s).bind K := by
  unfold astepK
  rw [guardK_eq]
  unfold astep
  cases awanted ops o s.fr with
  | none => rfl
  | some b =>
    simp only [Option.bind_some]
    cases b with
    | false => simp [forceL_eq]
    | true =>
      simp only [if_true, Bool.true_eq_false, if_false]
      have hv := avalK_eq (T := T) hO id o s.fr fun fr v dk => (akill dk s.dead).bind fun d => forceL (aput fr o.dst v) fun fr => K { s with fr := fr, dead := d }
      have hg : (avalK T OK id o s.fr fun fr v dk => (akill dk s.dead).bind fun d => forceL (aput fr o.dst v) fun fr => K { s with fr := fr, dead := d }) =
          ((aval T O id o s.fr).bind fun r => (akill r.2 s.dead).bind fun d => some { s with fr := aput s.fr o.dst r.1, dead := d }).bind K := by
        rw [hv]
        cases aval T O id o s.fr with
        | none => rfl
        | some r =>
          simp only [Option.bind_some]
          cases akill r.2 s.dead with
          | none => rfl
          | some d => simp only [Option.bind_some, forceL_eq]
      obtain ⟨dst, op, type, pos, after, guard⟩ := o
      cases op with
      | store t x y =>
        simp only
        split
        · rfl
        · cases T t with
          | none => rfl
          | some ti =>
            simp only [Option.bind_some]
            cases aget s.fr x with
            | none => rfl
            | some p =>
              simp only [Option.bind_some]
              cases aget s.fr y with
              | none => rfl
              | some v =>
                simp only [Option.bind_some]
                cases p with
                | box q off cs => simp only [forceL_eq]; split <;> rfl
                | _ => rfl
      | _ => exact hg

theorem astepsK_eq (hO : ∀ g as (K : AV → Option α), OK g as K = (O g as).bind K) (ops : List Oper) (base : Nat) : ∀ (l : List Oper) (i : Nat) (s : AS) (K : AS → Option α), astepsK T OK ops base i l s K = (asteps T O ops base i l s).bind K
  | [], i, s, K => rfl
  | o :: l, i, s, K => by
    simp only [astepsK, asteps, astepK_eq hO, Option.bind_assoc]
    congr 1
    funext s'
    exact astepsK_eq hO ops base l (i + 1) s' K

theorem aexecK_eq (hO : ∀ g as (K : AV → Option α), OK g as K = (O g as).bind K) {LK : Nat → AS → (AX → AS → Option α) → Option α} {L : Nat → AS → Option (AX × AS)} (hL : ∀ id s (K : AX → AS → Option α), LK id s K = (L id s).bind fun r => K r.1 r.2) :
    ∀ (c : Code) (s : AS) (K : AX → AS → Option α), aexecK T OK LK c s K = (aexec T O L c s).bind fun r => K r.1 r.2
  | .skip, s, K => rfl
  | .region id ops d, s, K => by
    simp only [aexecK, aexec]
    split
    · rfl
    · rw [astepsK_eq hO]
      simp only [aregion]
      cases asteps T O ops.toList s.next 0 ops.toList s <;> rfl
  | .seq a b, s, K => by
    simp only [aexecK, aexec]
    rw [aexecK_eq hO hL a, Option.bind_assoc]
    congr 1
    funext r
    obtain ⟨x, s'⟩ := r
    cases x with
    | normal => exact aexecK_eq hO hL b s' K
    | exit id => rfl
    | ret => rfl
  | .cond c x y, s, K => by
    simp only [aexecK, aexec]
    cases hc : aget s.fr c with
    | none => rfl
    | some t =>
      simp only [Option.bind_some]
      cases t with
      | bool t =>
        cases t with
        | true =>
          simp only [brK, if_true, setB_self hc]
          exact aexecK_eq hO hL x s K
        | false =>
          simp only [brK, Bool.false_eq_true, if_false, setB_self hc]
          exact aexecK_eq hO hL y s K
      | _ => rfl
  | .block id c, s, K => by
    simp only [aexecK, aexec]
    rw [aexecK_eq hO hL c, Option.bind_assoc]
    congr 1
    funext r
    obtain ⟨x, s'⟩ := r
    cases x with
    | normal => rfl
    | exit j => simp only; split <;> rfl
    | ret => rfl
  | .loop c, s, K => hL _ _ _
  | .exit id, s, K => rfl
  | .ret, s, K => rfl
  | .rangeFunc .., _, _ => rfl
  | .scope _, _, _ => rfl
  | .label _, _, _ => rfl
  | .goto _, _, _ => rfl
  | .refuse _, _, _ => rfl

/-- A body in data is what the handed-on executor gives. -/
theorem bodyF_eq (T : Nat → Option TI) (lo : List FSpec) (ll : List LEnt) (fn : Func) (arg res : Sh) (x : arg.den) :
    bodyF T (otab lo) (ltab ll) fn arg res x = bodyK T (otabK lo) (ltabK ll) fn arg res x fun y => y := by
  unfold bodyF bodyK abody
  cases fn.body with
  | none => rfl
  | some c =>
    simp only [Option.bind_some]
    rw [aexecK_eq (otabK_eq lo) (ltabK_eq ll)]
    cases aexec T (otab lo) (ltab ll) c { fr := startFrame fn (encX arg x), dead := fun _ => false, next := 0 } with
    | none => rfl
    | some r =>
      obtain ⟨x, s⟩ := r
      simp only [Option.bind_some]
      cases x with
      | exit id => rfl
      | normal => simp only; cases aresults T s.fr fn.results.toList <;> rfl
      | ret => simp only; cases aresults T s.fr fn.results.toList <;> rfl

theorem loopF_eq (T : Nat → Option TI) (lo : List FSpec) (ll : List LEnt) (c : Code) (head : Spec) (exits : List (AX × Spec)) (k : head.shape.den → Option (OutT exits)) (st : head.shape.den) :
    ((aexec T (otab lo) (ltab ll) c (head.enc st)).bind fun r => lres head exits k r.1 r.2) = aexecK T (otabK lo) (ltabK ll) c (head.enc st) (lres head exits k) := by
  rw [aexecK_eq (otabK_eq lo) (ltabK_eq ll)]
end
end Go.Ai

set_option linter.unusedSimpArgs false
set_option linter.unusedVariables false
namespace Go.Ai
open Go Go.RowKit

def tabT : List (Nat × TI) → Nat → Option TI
  | [], _ => none
  | p :: l, t => if p.1 = t then some p.2 else tabT l t

theorem tok_of {P : Program} {l : List (Nat × TI)} (h : l.all (fun p => tiOK P p.1 p.2) = true) : TOK P (tabT l) := by
  induction l with
  | nil => intro t i h; simp [tabT] at h
  | cons p l ih =>
    simp only [List.all_cons, Bool.and_eq_true] at h
    intro t i hi
    unfold tabT at hi
    split at hi
    · rename_i e
      cases hi
      rw [← e]
      exact h.1
    · exact ih h.2 t i hi
/-! ### Data of patterns -/
abbrev Pat := List ByteArray × Bool
abbrev Rul := Bool × Pat × Pat
abbrev Reg := Pat × List Pat
end Go.Ai
