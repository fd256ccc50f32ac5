/- A part of the proof of a law of this seat (AiOps9, AiEff, AiStep, AiDraw, AiRegion, AiCode, AiShape, AiLoop, AiRowC, AiK, AiRun). -/
import Derived.Test.YtcmfkmhmehhkpaaDoorAa
import Derived.Laws.Small
import Derived.Laws.MakeOwn
import Derived.Laws.CopyRow
set_option linter.unusedSimpArgs false
set_option linter.unusedVariables false
namespace Go.Ai
open Go Go.RowKit
section
variable {P : Program} {GL : World → Prop} {B0 : Nat} {ok0 : Bool → Nat → Nat → Prop} {w0 w : World} {E : Env} {used : Nat → Prop} {id : Nat} {o : Oper} {a : Act} {r : AV} {dead' : Nat → Bool}
variable {T : Nat → Option TI} {O : Nat → List AV → Option AV}

theorem good_val {s : Sem Value} (he : execOp a.eval o = (do let u ← s; pure (Next.value u) : Sem Next)) {v : Value} (hr : s.run P w = .ok v w) (hv : Rel w E r v) (hi : Inv GL B0 ok0 w0 w E used) : Good P GL B0 ok0 w0 w E used id o a r E.dead :=
  Good.pure (v := v) (by rw [he]; simp [hr]) hv hi

theorem TIF.boolK {t : Nat} {i : TI} (h : TIF P t i) (hk : i.kind = .bool) : P.underlying t = some .bool := by
  have := h.kind
  unfold kindOK at this
  rw [hk] at this
  cases hu : P.underlying t with
  | none => simp [hu] at this
  | some d => cases d <;> simp [hu] at this; rfl

theorem run_abinT (hT : TOK P T) {op : BinOp} {t : TypeId} {ox oy : Operand} {x y : AV} {vx vy : Value} (h : abinT T op t x y = some r) (hx : Rel w E x vx) (hy : Rel w E y vy) :
    ∃ v, (do eqGuard op t ox oy vx vy; binOp op t vx vy : Sem Value).run P w = .ok v w ∧ Rel w E r v := by
  unfold abinT at h
  split at h
  · rename_i a b
    simp only [Option.bind_eq_some_iff] at h
    obtain ⟨i, hi, h⟩ := h
    cases hx; cases hy
    have key : i.kind = .bool → (Op.equal t (.bool a) (.bool b)).run P w = .ok (a == b) w := by
      intro hk
      have hu := (hT.facts hi).boolK hk
      unfold Op.equal Op.maxDepth
      rw [Op.equalIn]
      simp only [Sem.run_bind, run_underlying hu, Result.andThen_ok]
      rfl
    have e1 : binOp .eql t (.bool a) (.bool b) = (do let r ← Op.equal t (.bool a) (.bool b); pure (.bool r) : Sem Value) := rfl
    have e2 : binOp .neq t (.bool a) (.bool b) = (do let r ← Op.equal t (.bool a) (.bool b); pure (.bool !r) : Sem Value) := rfl
    split at h
    · rename_i hk
      cases h
      refine ⟨.bool (a == b), ?_, .bool _ _⟩
      rw [eqGuard_at_bool, e1]
      simp only [Sem.run_bind, Sem.run_pure, Result.andThen_ok, key hk]
    · rename_i hk
      cases h
      refine ⟨.bool (!(a == b)), ?_, .bool _ _⟩
      rw [eqGuard_at_bool, e2]
      simp only [Sem.run_bind, Sem.run_pure, Result.andThen_ok, key hk]
    · cases h
  · exact run_abin h hx hy

theorem akill_none {d d' : Nat → Bool} (h : akill none d = some d') : d' = d := (Option.some.inj h).symm
theorem akill_some {q : Nat} {d d' : Nat → Bool} (h : akill (some q) d = some d') : d q = false ∧ d' = fun i => if i = q then true else d i := by
  unfold akill at h
  simp only at h
  split at h
  · cases h
  · rename_i hh
    exact ⟨by simpa using hh, (Option.some.inj h).symm⟩

theorem good_builtin (hT : TOK P T) {b : Builtin} {xs : Array Operand} {ts : Array TypeId} {as : List AV} (hop : o.op = .call { callee := .builtin b, args := xs, argTypes := ts })
    (has : RelL w E as (xs.toList.map a.eval).toArray) {dk : Option Nat} (h : abuiltin T id b ts.toList as = some (r, dk)) (hdk : akill dk E.dead = some dead') (hi : Inv GL B0 ok0 w0 w E used) (hid : ¬ used id) :
    Good P GL B0 ok0 w0 w E used id o a r dead' := by
  unfold abuiltin at h
  split at h
  · -- len
    rename_i t x hts
    simp only [Option.bind_eq_some_iff] at h
    obtain ⟨v, hv, h⟩ := h
    cases h
    obtain rfl := akill_none hdk
    have hts : ts = #[t] := by apply Array.ext'; simpa using hts
    have hxs : xs.toList.length = 1 := by have := has.1; simpa using this
    obtain ⟨x', hx'⟩ : ∃ x', xs = #[x'] := by
      obtain ⟨l⟩ := xs
      match l, hxs with
      | [y], _ => exact ⟨y, rfl⟩
    subst hts
    subst hx'
    have hx : Rel w E x (a.eval x') := has.2 0 x _ (by simp [lget]) (by simp)
    obtain ⟨u, h1, h2⟩ := run_alen (ty := o.type) hT hv hx
    refine good_val (s := Builtin.len_ #[t] o.type #[a.eval x']) ?_ h1 h2 hi
    simp [execOp, hop, resolve, invoke, builtin]
  · rename_i k x k' y
    split at h <;> cases h
    obtain rfl := akill_none hdk
    rename_i e
    subst e
    have hxs : xs.toList.length = 2 := by have := has.1; simpa using this
    obtain ⟨x', y', hx'⟩ : ∃ x' y', xs = #[x', y'] := by
      obtain ⟨l⟩ := xs
      match l, hxs with
      | [y, z], _ => exact ⟨y, z, rfl⟩
    subst hx'
    have hx : Rel w E (.int k x) (a.eval x') := has.2 0 _ _ (by simp [lget]) (by simp)
    have hy : Rel w E (.int k y) (a.eval y') := has.2 1 _ _ (by simp [lget]) (by simp)
    generalize hvx : a.eval x' = vx at hx
    generalize hvy : a.eval y' = vy at hy
    cases hx
    cases hy
    refine good_val (s := Builtin.max_ ts o.type #[.int k x, .int k y]) ?_ (run_max_int2 w ts o.type k k x y) ?_ hi
    · simp [execOp, hop, resolve, invoke, builtin, hvx, hvy]
    · have : max x y = if y > x then y else x := by split <;> omega
      rw [this]; exact .int _ _ _
  · rename_i k x k' y
    split at h <;> cases h
    obtain rfl := akill_none hdk
    rename_i e
    subst e
    have hxs : xs.toList.length = 2 := by have := has.1; simpa using this
    obtain ⟨x', y', hx'⟩ : ∃ x' y', xs = #[x', y'] := by
      obtain ⟨l⟩ := xs
      match l, hxs with
      | [y, z], _ => exact ⟨y, z, rfl⟩
    subst hx'
    have hx : Rel w E (.int k x) (a.eval x') := has.2 0 _ _ (by simp [lget]) (by simp)
    have hy : Rel w E (.int k y) (a.eval y') := has.2 1 _ _ (by simp [lget]) (by simp)
    generalize hvx : a.eval x' = vx at hx
    generalize hvy : a.eval y' = vy at hy
    cases hx
    cases hy
    refine good_val (s := Builtin.min_ ts o.type #[.int k x, .int k y]) ?_ (run_min_int2 w ts o.type k k x y) ?_ hi
    · simp [execOp, hop, resolve, invoke, builtin, hvx, hvy]
    · have : min x y = if y < x then y else x := by split <;> omega
      rw [this]; exact .int _ _ _
  · -- append
    rename_i t t' s x hts
    have hts : ts = #[t, t'] := by apply Array.ext'; simpa using hts
    have hxs : xs.toList.length = 2 := by have := has.1; simpa using this
    obtain ⟨s', x', hx'⟩ : ∃ x' y', xs = #[x', y'] := by
      obtain ⟨l⟩ := xs
      match l, hxs with
      | [y, z], _ => exact ⟨y, z, rfl⟩
    subst hts
    subst hx'
    have hs : Rel w E s (a.eval s') := has.2 0 _ _ (by simp [lget]) (by simp)
    have hx : Rel w E x (a.eval x') := has.2 1 _ _ (by simp [lget]) (by simp)
    unfold aappend at h
    split at h
    · cases h
    rename_i htt
    have htt : t = t' := Decidable.byContradiction htt
    subst htt
    simp only [Option.bind_eq_some_iff] at h
    obtain ⟨i, hti, h⟩ := h
    split at h
    case h_2 => cases h
    rename_i e hk
    simp only [Option.bind_eq_some_iff] at h
    obtain ⟨j, htj, zs, hzs, h⟩ := h
    split at h
    · cases h
    rename_i hsz
    have hx' := (elems_le hzs w E _ hx).1
    have hti' := hT.facts hti
    have htj' := hT.facts htj
    split at h
    · split at h <;> cases h
      obtain rfl := akill_none hdk
      rename_i hfit
      have hnil : a.eval s' = .slice none 0 0 := by
        generalize a.eval s' = v at hs
        cases hs; rfl
      have := good_append (P := P) (id := id) (o := o) (a := a) (d := none) (ys := ([] : List j.ty.den)) hti' hk htj' (by omega) hop hnil (by
        exact .tl _ _ _ none 0 0 0 (fun _ _ => undef) (by simp) (fun h => absurd rfl h) (fun i x j c h => by simp at h) fun i x j c h => by simp at h) (.inl rfl) hx' hfit hi hid
      simpa using this
    · rename_i d e' u ys
      split at h
      · cases h
      rename_i hde
      simp only [Option.bind_eq_some_iff] at h
      obtain ⟨ys', hys', h⟩ := h
      split at h <;> cases h
      rename_i hfit
      obtain ⟨eu, ey⟩ := cast_eq hys'
      subst eu
      subst ey
      obtain ⟨hd, rfl⟩ := akill_some hdk
      have he : e' = e := Decidable.byContradiction hde
      subst he
      have htl := hs.own_tl
      have hown : OwnC w E d e' j.ty.sz (List.length ys') (a.eval s') := by
        generalize a.eval s' = v at hs
        cases hs with
        | own _ _ _ _ _ _ _ ho => exact ho hd
      have := good_append (P := P) (id := id) (o := o) (a := a) (d := some d) (ys := ys') hti' hk htj' (by omega) hop rfl htl (.inr ⟨d, rfl, hown⟩) hx' hfit hi hid
      have e : (fun q => if q = d then true else E.dead q) = fun q => if some d = some q then true else E.dead q := by
        funext q
        by_cases hq : q = d
        · subst hq; simp
        · rw [if_neg hq, if_neg]; rintro e; cases e; exact hq rfl
      rw [e]
      exact this
    · rename_i u ys
      simp only [Option.bind_eq_some_iff] at h
      obtain ⟨ys', hys', h⟩ := h
      split at h <;> cases h
      obtain rfl := akill_none hdk
      rename_i hfit
      obtain ⟨eu, ey⟩ := cast_eq hys'
      subst eu
      subst ey
      exact good_append_clip hti' hk htj' (by omega) hop hs hx' hfit hi hid
    · cases h
  · cases h

theorem good_make {t e : Nat} {i j : TI} (hti : TIF P t i) (hk : i.kind = .slice e) (htj : TIF P e j) {l c : Operand} (hop : o.op = .makeSlice t l c) {k1 k2 : IntKind} {l' c' : Int} (hl : a.eval l = .int k1 l') (hc : a.eval c = .int k2 c')
    {z : j.ty.den} (hz : dec j.ty j.zero.cells = some z) (hb : 0 ≤ l' ∧ l' ≤ c' ∧ (j.bytes : Int) * c' ≤ 281474976710656 ∧ c' ≤ 9223372036854775807) (hi : Inv GL B0 ok0 w0 w E used) (hid : ¬ used id) :
    Good P GL B0 ok0 w0 w E used id o a (.own id e j.ty (List.replicate l'.toNat z)) E.dead := by
  obtain ⟨hb1, hb2, hb3, hb4⟩ := hb
  have hu := hti.slice hk
  have hty := htj.tysz
  obtain ⟨inf, zv, h1, h2, h2b, h3, h4, h5, h6⟩ := htj.info
  have hr := run_make (P := P) w t e inf zv hu h1 h3 k1 k2 l' c' hb1 hb2 (by rw [h2b]; exact hb3) hb4
  have hr' : (execOp a.eval o).run P w = .ok (.value (.slice (some ⟨w.heap.size, 0, none⟩) l'.toNat c'.toNat)) (w.alloc (.cells (madeCells zv.cells (c'.toNat * inf.size)) e)) := by
    simp [execOp, hop, hl, hc, hr]
  obtain ⟨hzl, hzg⟩ := dec_le hz
  intro K Q hK
  unfold Oper.wp
  rw [hr']
  have hlen : (List.replicate l'.toNat z).length = l'.toNat := by simp
  have hown := own_new (e := e) (t := j.ty) (xs := List.replicate l'.toNat z) (cur := madeCells zv.cells (c'.toNat * inf.size)) (cap := c'.toNat) hi hid (by rw [hlen]; omega) (by unfold maxLen; omega) (by rw [size_madeCells, h2, hty])
    (fun q x jj cc hx hcc => by
      have hq : q < l'.toNat := by have := (List.getElem?_eq_some_iff.1 hx).1; rwa [hlen] at this
      have hxz : x = z := by
        have := List.getElem?_eq_some_iff.1 hx
        obtain ⟨_, this⟩ := this
        simpa using this.symm
      subst hxz
      have hjj : jj < j.ty.sz := by have := (List.getElem?_eq_some_iff.1 (lget_eq _ _ ▸ hcc)).1; rwa [emb_length] at this
      obtain ⟨av, hav, hle⟩ := hzg jj cc hcc
      have hjz : jj < zv.cells.size := by rw [h4, ← hty]; exact hjj
      have hzc : zv.cells[jj]? = some zv.cells[jj] := by simp [hjz]
      obtain ⟨g1, g2⟩ := h6 jj av _ hav hzc
      refine ⟨zv.cells[jj], ?_, g1, (hle w E _ (g2 w E)).1⟩
      have hlt : q * j.ty.sz + jj < c'.toNat * inf.size := by
        have h7 : (q + 1) * j.ty.sz ≤ c'.toNat * j.ty.sz := Nat.mul_le_mul_right _ (by omega)
        rw [Nat.add_mul, Nat.one_mul] at h7
        rw [h2, ← hty]
        omega
      have hmod : (q * j.ty.sz + jj) % zv.cells.size = jj := by
        rw [h4, ← hty, Nat.mul_comm, Nat.mul_add_mod, Nat.mod_eq_of_lt hjj]
      simp only [madeCells, Array.getElem?_map, Array.getElem?_range, hlt, if_true, Option.map_some, hmod]
      simp [hjz])
  rw [hlen] at hown
  exact hK _ _ (E.add false id w.heap.size fun o => o < l'.toNat * j.ty.sz) rfl (Mono.add hi hid _ false _) (Inv.add hi hid _ false _ (fun h => nomatch h)) hown

/-- What an operation gives, it gives. -/
theorem aval_sound (hT : TOK P T) (hO : OOK P GL O) {fr : List AV} (hf : RelL w E fr a.tmps) (hi : Inv GL B0 ok0 w0 w E used) (hid : ¬ used id) {dk : Option Nat} (h : aval T O id o fr = some (r, dk)) (hdk : akill dk E.dead = some dead') :
    Good P GL B0 ok0 w0 w E used id o a r dead' := by
  unfold aval at h
  split at h
  case h_1 x hop =>
    simp only [Option.bind_eq_some_iff] at h
    obtain ⟨y, hy, h⟩ := h
    cases h
    obtain rfl := akill_none hdk
    exact .pure (by simp [execOp, hop]) (aget_rel hf hy) hi
  case h_2 x hop =>
    simp only [Option.bind_eq_some_iff] at h
    obtain ⟨y, hy, h⟩ := h
    cases h
    obtain rfl := akill_none hdk
    exact .pure (by simp [execOp, hop]) (aget_rel hf hy) hi
  case h_3 c x y hop =>
    simp only [Option.bind_eq_some_iff] at h
    obtain ⟨t, ht, h⟩ := h
    have hc := aget_rel hf ht
    split at h
    case h_2 => cases h
    rename_i t
    generalize hcv : a.eval c = cv at hc
    cases hc
    split at h
    · rename_i e
      subst e
      simp only [Option.bind_eq_some_iff] at h
      obtain ⟨y, hy, h⟩ := h
      cases h
      obtain rfl := akill_none hdk
      exact .pure (by simp [execOp, hop, hcv, asBool]) (aget_rel hf hy) hi
    · rename_i e
      have e : t = false := by simpa using e
      subst e
      simp only [Option.bind_eq_some_iff] at h
      obtain ⟨y, hy, h⟩ := h
      cases h
      obtain rfl := akill_none hdk
      exact .pure (by simp [execOp, hop, hcv, asBool]) (aget_rel hf hy) hi
  case h_4 t hop =>
    simp only [Option.bind_eq_some_iff] at h
    obtain ⟨i, ht, h⟩ := h
    cases h
    obtain rfl := akill_none hdk
    exact good_alloc (hT.facts ht) hop hi hid
  case h_5 t x hop =>
    simp only [Option.bind_eq_some_iff] at h
    obtain ⟨y, hy, h⟩ := h
    split at h <;> cases h
    obtain rfl := akill_none hdk
    rename_i hc
    exact good_box hop (aget_rel hf hy) hc hi hid
  case h_6 t ps hop =>
    simp only [Option.bind_eq_some_iff] at h
    obtain ⟨i, ht, h⟩ := h
    split at h
    case h_2 => cases h
    rename_i fs hk
    simp only [Option.bind_eq_some_iff] at h
    obtain ⟨l, hl, cs, hcs, h⟩ := h
    cases h
    obtain rfl := akill_none hdk
    obtain ⟨vs, h1, h2, h3⟩ := aparts_rel hf hl
    obtain ⟨v, hv, hrel⟩ := run_abuild (hT.facts ht) hk hcs (parts := ps.map fun p => (p.1, a.eval p.2)) (by
      refine ⟨by simpa using congrArg List.length h1 |>.trans h2, fun k i x hx => ?_⟩
      obtain ⟨v, hv, hrel⟩ := h3 k i x hx
      exact ⟨v, by rw [← h1] at hv; simpa using hv, hrel⟩)
    exact good_val (by simp [execOp, hop]) hv hrel hi
  case h_7 t n ps hop =>
    simp only [Option.bind_eq_some_iff] at h
    obtain ⟨i, ht, h⟩ := h
    split at h
    case h_2 => cases h
    rename_i e hk
    simp only [Option.bind_eq_some_iff] at h
    obtain ⟨j, hj, l, hl, h⟩ := h
    split at h
    case isFalse => cases h
    rename_i hb
    simp only [Option.bind_eq_some_iff] at h
    obtain ⟨xs, hxs, h⟩ := h
    cases h
    obtain rfl := akill_none hdk
    obtain ⟨vs, h1, h2, h3⟩ := aparts_rel hf hl
    exact good_buildSlice (hT.facts ht) hk (hT.facts hj) hop h1 ⟨h2, h3⟩ hb.1 hb.2.1 hb.2.2 hxs hi hid
  case h_8 t x hop =>
    simp only [Option.bind_eq_some_iff] at h
    obtain ⟨i, ht, p, hp, h⟩ := h
    have hpr := aget_rel hf hp
    split at h
    · rename_i q off cs
      simp only [Option.bind_eq_some_iff] at h
      obtain ⟨v, hv, h⟩ := h
      cases h
      obtain rfl := akill_none hdk
      obtain ⟨b, hb, hc⟩ := (place_cells hpr).1 _ _ _ rfl
      obtain ⟨u, h1, h2⟩ := run_load_part (hT.facts ht) hc hv
      refine good_val (s := Instr.loadAt t (a.eval x)) (by simp [execOp, hop]) (v := u) ?_ h2 hi
      rw [hb]
      simpa [Instr.loadAt, Instr.sureAddr] using h1
    · rename_i cs
      simp only [Option.bind_eq_some_iff] at h
      obtain ⟨v, hv, h⟩ := h
      cases h
      obtain rfl := akill_none hdk
      obtain ⟨b, o', hb, hc⟩ := (place_cells hpr).2 _ rfl
      obtain ⟨u, h1, h2⟩ := run_load_part (hT.facts ht) hc hv
      refine good_val (s := Instr.loadAt t (a.eval x)) (by simp [execOp, hop]) (v := u) ?_ h2 hi
      rw [hb]
      simpa [Instr.loadAt, Instr.sureAddr] using h1
    · rename_i q e u xs n off
      simp only [Option.bind_eq_some_iff] at h
      obtain ⟨z, hz, v, hv, h⟩ := h
      cases h
      obtain rfl := akill_none hdk
      generalize hva : a.eval x = va at hpr
      cases hpr with
      | rel _ _ _ _ _ _ _ cap h0 hl hrow =>
      have hc := row_cells hrow (listAt_some hz).2
      obtain ⟨u', h1, h2⟩ := run_load_part (hT.facts ht) hc hv
      refine good_val (s := Instr.loadAt t (a.eval x)) (by simp [execOp, hop]) (v := u') ?_ h2 hi
      rw [hva]
      simpa [Instr.loadAt, Instr.sureAddr] using h1
    · cases h
  case h_9 op t x y t' hop =>
    simp only [Option.bind_eq_some_iff] at h
    obtain ⟨p, hp, q, hq, v, hv, h⟩ := h
    cases h
    obtain rfl := akill_none hdk
    obtain ⟨u, h1, h2⟩ := run_abinT hT (ox := x) (oy := y) (t := t) hv (aget_rel hf hp) (aget_rel hf hq)
    exact good_val (s := do eqGuard op t x y (a.eval x) (a.eval y); binOp op t (a.eval x) (a.eval y)) (by simp [execOp, hop]) h1 h2 hi
  case h_10 t x hop =>
    simp only [Option.bind_eq_some_iff] at h
    obtain ⟨p, hp, h⟩ := h
    have hpr := aget_rel hf hp
    split at h <;> cases h
    obtain rfl := akill_none hdk
    generalize hv : a.eval x = v at hpr
    cases hpr
    exact .pure (by simp [execOp, hop, hv, Op.unary]) (.bool _ _) hi
  case h_11 t x hop =>
    simp only [Option.bind_eq_some_iff] at h
    obtain ⟨p, hp, h⟩ := h
    have hpr := aget_rel hf hp
    split at h <;> cases h
    obtain rfl := akill_none hdk
    rename_i k n
    generalize hv : a.eval x = v at hpr
    cases hpr
    refine .pure (v := .int k (k.wrap (-n))) (by simp [execOp, hop, hv, Op.unary, Op.intArith]) (.int _ _ _) hi
  case h_12 s t x hop =>
    simp only [Option.bind_eq_some_iff] at h
    obtain ⟨i, hti, j, htj, p, hp, h⟩ := h
    have hpr := aget_rel hf hp
    split at h
    · rename_i k1 k2 k3 n hk1 hk2
      cases h
      obtain rfl := akill_none hdk
      generalize hv : a.eval x = v at hpr
      cases hpr
      have hu1 := (hT.facts hti).int hk1
      have hu2 := (hT.facts htj).int hk2
      refine .pure (v := .int k2 (k2.wrap n)) ?_ (.int _ _ _) hi
      simp [execOp, hop, hv, convert, run_underlying hu1, run_underlying hu2, Conv.intToInt]
    · rename_i e hk1 hk2
      simp only [Option.bind_eq_some_iff] at h
      obtain ⟨q, htq, h⟩ := h
      split at h
      case h_2 => cases h
      rename_i hkq
      simp only [Option.bind_eq_some_iff] at h
      obtain ⟨xs, hxs, h⟩ := h
      cases h
      obtain rfl := akill_none hdk
      have hu1 := (hT.facts hti).slice hk1
      have hu2 := (hT.facts htj).str hk2
      have huq := (hT.facts htq).int hkq
      obtain ⟨htl, _⟩ := elems_le hxs w E _ hpr
      obtain ⟨aa, b, o', cap, hv, hcap, ha, cv, hc, hr⟩ := htl.tl_parts
      have hrun : (convert s t (a.eval x)).run P w = .ok (.string (bytesOf xs)) w := by
        rw [hv]
        cases xs with
        | nil =>
          cases aa with
          | none => exact run_convert_bytes_nil w s e hu1 huq _ _ t hu2
          | some ad =>
            rw [run_convert_bytes_string w s t e _ _ _ hu1 huq hu2, run_bytesToString w _ _ _ [] (by simp [loadCells, loadCellsFrom])]
            rfl
        | cons y ys =>
          rw [ha (by simp)]
          refine run_convert_bytes_arg w s e hu1 huq b o' _ cap (y :: ys) rfl (fun i hi' => ?_) t hu2
          have hget : (y :: ys)[i]? = some (y :: ys)[i] := List.getElem?_eq_getElem hi'
          have h1 := (hc i (y :: ys)[i] 0 (.int .u8 (y :: ys)[i]) hget rfl).1
          have h2 := hr i (y :: ys)[i] 0 (.int .u8 (y :: ys)[i]) hget rfl
          simp only [Ty.sz, Nat.mul_one, Nat.add_zero] at h1
          rw [h1]
          generalize cv i 0 = u at h2
          cases h2
          have hgd : List.getD (α := Int) (y :: ys) i 0 = (y :: ys)[i] := by
            rw [List.getD_eq_getElem?_getD]
            exact congrArg (fun q : Option Int => q.getD 0) hget
          exact congrArg (fun n : Int => some (Value.int .u8 n)) hgd.symm
      exact good_val (s := convert s t (a.eval x)) (by simp [execOp, hop]) hrun (.str _ _) hi
    · cases h
  case h_13 f first caps hop =>
    split at h
    · cases h
    rename_i hfirst
    have hfirst : first = #[] := by
      apply Array.ext'
      have : first.size = 0 := Decidable.byContradiction hfirst
      simpa using this
    subst hfirst
    simp only [Option.bind_eq_some_iff] at h
    obtain ⟨cs, hcs, h⟩ := h
    cases h
    obtain rfl := akill_none hdk
    have := agets_rel hf hcs
    refine .pure (v := .func (.func f) #[] (caps.map a.eval)) (by simp [execOp, hop, Instr.makeFunc]) (.fn _ _ _ _ (by have := this.1; simpa using this) fun i x v hx hv => this.2 i x v hx (by simpa using hv)) hi
  case h_14 t x lo hh mx hop =>
    simp only [Option.bind_eq_some_iff] at h
    obtain ⟨p, hp, l, hl, h', hh', m, hm, v, hv, h⟩ := h
    cases h
    obtain rfl := akill_none hdk
    obtain ⟨u, h1, h2⟩ := run_aslice hT hv (aget_rel hf hp) (agetO_rel hf hl) (agetO_rel hf hh') (agetO_rel hf hm)
    exact good_val (s := Instr.sliceAt t (a.eval x) (lo.map a.eval) (hh.map a.eval) (mx.map a.eval)) (by simp [execOp, hop]) h1 h2 hi
  case h_15 t x f hop =>
    simp only [Option.bind_eq_some_iff] at h
    obtain ⟨i, hti, h⟩ := h
    split at h
    case h_2 => cases h
    rename_i fs hk
    simp only [Option.bind_eq_some_iff] at h
    obtain ⟨g, hg, p, hp, h⟩ := h
    split at h
    · cases h
    rename_i hz
    have hpr := aget_rel hf hp
    generalize hv : a.eval x = v at hpr
    split at h
    · rename_i q off cs'
      cases h
      obtain rfl := akill_none hdk
      cases hpr with
      | box _ _ _ _ arr TT hl hh hs h1 hok hr =>
        refine good_val (s := Instr.fieldAt t (a.eval x) f) (by simp [execOp, hop]) (v := .pointer (some ⟨E.σ q, off + g.1, none⟩)) ?_ (.box _ _ _ _ arr TT hl hh hs h1 hok hr) hi
        rw [hv]
        exact run_fieldAt (hT.facts hti) hk hg hz _ _
    · cases h
      obtain rfl := akill_none hdk
      cases hpr with
      | eptr _ cs b o' cv hcl hc hr =>
        refine good_val (s := Instr.fieldAt t (a.eval x) f) (by simp [execOp, hop]) (v := .pointer (some ⟨b, o' + g.1, none⟩)) ?_ ?_ hi
        · rw [hv]; exact run_fieldAt (hT.facts hti) hk hg hz _ _
        · refine .eptr _ _ _ _ (fun j => cv (g.1 + j)) (clL_lget_drop hcl) (fun j c hj => ?_) fun j c hj => ?_
          · rw [lget_drop] at hj
            rw [Nat.add_assoc]
            exact hc _ _ hj
          · rw [lget_drop] at hj
            exact hr _ _ hj
    · rename_i q e u xs n off
      cases h
      obtain rfl := akill_none hdk
      cases hpr with
      | rel _ _ _ _ _ _ _ cap h0 hl hrow =>
        refine good_val (s := Instr.fieldAt t (a.eval x) f) (by simp [execOp, hop]) (v := .pointer (some ⟨E.σ q, n.toNat * u.sz + off + g.1, none⟩)) ?_ ?_ hi
        · rw [hv]; exact run_fieldAt (hT.facts hti) hk hg hz _ _
        · rw [Nat.add_assoc]
          exact .rel _ _ _ _ _ n (off + g.1) cap h0 hl hrow
    · cases h
  case h_16 t x f hop =>
    simp only [Option.bind_eq_some_iff] at h
    obtain ⟨i, hti, h⟩ := h
    split at h
    case h_2 => cases h
    rename_i fs hk
    simp only [Option.bind_eq_some_iff] at h
    obtain ⟨g, hg, p, hp, h⟩ := h
    split at h
    case h_2 => cases h
    simp only [Option.bind_eq_some_iff] at h
    obtain ⟨v, hv, h⟩ := h
    cases h
    obtain rfl := akill_none hdk
    obtain ⟨u, h1, h2⟩ := run_field (hT.facts hti) hk hg (aget_rel hf hp) hv
    exact good_val (s := Instr.field t (a.eval x) f) (by simp [execOp, hop]) h1 h2 hi
  case h_17 t x ix hop =>
    simp only [Option.bind_eq_some_iff] at h
    obtain ⟨p, hp, n, hn, v, hv, h⟩ := h
    cases h
    obtain rfl := akill_none hdk
    obtain ⟨u, h1, h2⟩ := run_aindex hT hv (aget_rel hf hp) (aget_rel hf hn) hi
    exact good_val (s := Instr.indexAt t (a.eval x) (a.eval ix)) (by simp [execOp, hop]) h1 h2 hi
  case h_18 t x ix hop =>
    simp only [Option.bind_eq_some_iff] at h
    obtain ⟨i, hti, p, hp, n, hn, h⟩ := h
    have hpr := aget_rel hf hp
    have hnr := aget_rel hf hn
    split at h
    case h_2 => cases h
    rename_i s kk n hk
    split at h
    · cases h
    rename_i hneg
    simp only [Option.bind_eq_some_iff] at h
    obtain ⟨c, hc, h⟩ := h
    cases h
    obtain rfl := akill_none hdk
    generalize hvx : a.eval x = vx at hpr
    generalize hvn : a.eval ix = vn at hnr
    cases hpr
    cases hnr
    have hu := (hT.facts hti).str hk
    have h0 : 0 ≤ n := by omega
    have hlt : n.toNat < s.data.size := (Array.getElem?_eq_some_iff.1 hc).1
    have hget : s[n.toNat]? = some c := by
      have h1 : n.toNat < s.size := hlt
      rw [getElem?_pos s n.toNat h1]
      have := (Array.getElem?_eq_some_iff.1 hc).2
      rw [← this]
      rfl
    refine .pure (v := .int .u8 c.toNat) ?_ (.int _ _ _) hi
    simp [execOp, hop, hvx, hvn, Instr.index, asIntOf, run_underlying hu, h0, hget]
  case h_19 x hop =>
    simp only [Option.bind_eq_some_iff] at h
    obtain ⟨p, hp, h⟩ := h
    have hpr := aget_rel hf hp
    generalize hv : a.eval x = v at hpr
    split at h
    · cases h
      obtain rfl := akill_none hdk
      have hpr' := hpr
      cases hpr with
      | box => exact .pure (by simp [execOp, hop, hv]) hpr' hi
    · cases h
      obtain rfl := akill_none hdk
      have hpr' := hpr
      cases hpr with
      | eptr => exact .pure (by simp [execOp, hop, hv]) hpr' hi
    · cases h
      obtain rfl := akill_none hdk
      have hpr' := hpr
      cases hpr with
      | rel => exact .pure (by simp [execOp, hop, hv]) hpr' hi
    · cases h
      obtain rfl := akill_none hdk
      have hpr' := hpr
      cases hpr with
      | fn => exact .pure (by simp [execOp, hop, hv]) hpr' hi
    · cases h
  case h_20 t l c hop =>
    simp only [Option.bind_eq_some_iff] at h
    obtain ⟨i, hti, h⟩ := h
    split at h
    case h_2 => cases h
    rename_i e hk
    simp only [Option.bind_eq_some_iff] at h
    obtain ⟨j, htj, l', hl, c', hc, h⟩ := h
    have hlr := aget_rel hf hl
    have hcr := aget_rel hf hc
    split at h
    case h_2 => cases h
    generalize hlv : a.eval l = lv at hlr
    generalize hcv : a.eval c = cv at hcr
    cases hlr
    cases hcr
    simp only [Option.bind_eq_some_iff] at h
    obtain ⟨z, hz, h⟩ := h
    split at h <;> cases h
    obtain rfl := akill_none hdk
    rename_i hb
    exact good_make (hT.facts hti) hk (hT.facts htj) hop hlv hcv hz hb hi hid
  case h_21 x ix hop =>
    simp only [Option.bind_eq_some_iff] at h
    obtain ⟨p, hp, h⟩ := h
    have hpr := aget_rel hf hp
    generalize hv : a.eval x = v at hpr
    split at h
    case h_2 => cases h
    simp only [Option.bind_eq_some_iff] at h
    obtain ⟨y, hy, h⟩ := h
    cases h
    obtain rfl := akill_none hdk
    cases hpr with
    | tup _ cs vs hs hr =>
      have hlt : ix < vs.size := by rw [hs]; rw [lget_eq] at hy; exact (List.getElem?_eq_some_iff.1 hy).1
      have hget : vs[ix]? = some vs[ix] := by simp [hlt]
      exact .pure (v := vs[ix]) (by simp [execOp, hop, hv, Instr.extract, hget]) (hr _ _ _ hy hget) hi
  case h_22 c hop =>
    split at h
    · rename_i b hcal
      simp only [Option.bind_eq_some_iff] at h
      obtain ⟨as, has, h⟩ := h
      obtain ⟨cal, xs, ts⟩ := c
      simp only at hcal
      subst hcal
      exact good_builtin hT hop (agets_rel hf has) h hdk hi hid
    · rename_i f hcal
      simp only [Option.bind_eq_some_iff] at h
      obtain ⟨g, hg, as, has, v, hv, h⟩ := h
      cases h
      obtain rfl := akill_none hdk
      obtain ⟨cal, xs, ts⟩ := c
      simp only at hcal
      subst hcal
      exact good_call hO hop (aget_rel hf hg) (agets_rel hf has) hv hi hid
    · cases h
  case h_23 => cases h
end
end Go.Ai

set_option linter.unusedSimpArgs false
set_option linter.unusedVariables false
namespace Go.Ai
open Go Go.RowKit

section
variable {P : Program} {GL : World → Prop} {B0 : Nat} {ok0 : Bool → Nat → Nat → Prop} {w0 w : World} {E : Env} {used : Nat → Prop} {id : Nat} {o : Oper} {a : Act} {r : AV} {dead' : Nat → Bool}
variable {T : Nat → Option TI} {O : Nat → List AV → Option AV}

theorem RelL.mono {w' : World} {E' : Env} {as : List AV} {vs : Array Value} (h : RelL w E as vs) (m : Mono w E w' E') : RelL w' E' as vs := ⟨h.1, fun i a v ha hv => (h.2 i a v ha hv).mono m⟩
theorem RelL.kill {as : List AV} {vs : Array Value} (h : RelL w E as vs) (q : Nat) : RelL w (E.drop q) (killL q as) vs := by
  refine ⟨by rw [killL_length]; exact h.1, fun i a v ha hv => ?_⟩
  rw [lget_killL] at ha
  obtain ⟨b, hb, rfl⟩ := Option.map_eq_some_iff.1 ha
  exact (h.2 i b v hb hv).kill q

theorem lset_length {α : Type} (l : List α) (i : Nat) (v : α) : (lset l i v).length = l.length := by simp [lset_eq]

theorem RelL.put {fr : List AV} {d : Option Nat} {v : Value} (h : RelL w E fr a.tmps) (hr : Rel w E r v) : RelL w E (aput fr d r) (a.put d v).tmps := by
  cases d with
  | none => exact h
  | some d =>
    simp only [aput, Act.put]
    refine ⟨by simp [lset_length, h.1], fun i x u hx hu => ?_⟩
    rw [lget_eq, lset_eq, List.getElem?_set] at hx
    rw [Array.getElem?_setIfInBounds] at hu
    by_cases e : d = i
    · subst e
      simp only [if_true] at hx hu
      split at hx
      · rename_i hlt
        rw [if_pos (by rw [h.1]; exact hlt)] at hu
        cases hx; cases hu; exact hr
      · cases hx
    · rw [if_neg e] at hx hu
      exact h.2 i x u (by rw [lget_eq]; exact hx) hu

/-- A new row that is the call's alone. -/
theorem row_new (hi : Inv GL B0 ok0 w0 w E used) (hid : ¬ used id) {e : TypeId} {t : Ty} {xs : List t.den} {cur : Array Value} {cap : Nat} (hn : xs.length ≤ cap) (hm : cap ≤ maxLen) (hs : cur.size = cap * t.sz)
    (hc : ∀ (i : Nat) x j c, xs[i]? = some x → lget (emb t x) j = some c → ∃ v, cur[i * t.sz + j]? = some v ∧ v.oneCell' = true ∧ Rel w E.closed c v) (h1 : ∀ (i : Nat) (v : Value), i < xs.length * t.sz → cur[i]? = some v → v.oneCell' = true) :
    Rel (w.alloc (.cells cur e)) (E.add true id w.heap.size fun _ => False) (.row id e t xs) (.slice (some ⟨w.heap.size, 0, none⟩) xs.length cap) := by
  have m := Mono.add hi hid (.cells cur e) true (fun _ => False)
  have := Rel.row (w := w.alloc (.cells cur e)) (E.add true id w.heap.size fun _ => False) id e t xs cap cur (.inr ⟨rfl, rfl⟩) (by simp only [Env.add, if_true]; exact heap_alloc_new w _) hn hm hs h1 (fun k o => by
      simp only [Env.add, if_true]
      rintro (h | ⟨_, h⟩)
      · have := hi.okB _ _ _ h; omega
      · exact h) (fun i x j c u hx hj hu => by
        obtain ⟨v, h2, h3, h4⟩ := hc i x j c hx hj
        rw [h2] at hu
        cases hu
        exact h4.mono m.closed)
  simpa [Env.add] using this

theorem good_makeR {t e : Nat} {i j : TI} (hti : TIF P t i) (hk : i.kind = .slice e) (htj : TIF P e j) {l c : Operand} (hop : o.op = .makeSlice t l c) {k1 k2 : IntKind} {l' c' : Int} (hl : a.eval l = .int k1 l') (hc : a.eval c = .int k2 c')
    {z : j.ty.den} (hz : dec j.ty j.zero.cells = some z) (hb : 0 ≤ l' ∧ l' ≤ c' ∧ (j.bytes : Int) * c' ≤ 281474976710656 ∧ c' ≤ 9223372036854775807) (hi : Inv GL B0 ok0 w0 w E used) (hid : ¬ used id) :
    Good P GL B0 ok0 w0 w E used id o a (.row id e j.ty (List.replicate l'.toNat z)) E.dead := by
  obtain ⟨hb1, hb2, hb3, hb4⟩ := hb
  have hu := hti.slice hk
  have hty := htj.tysz
  obtain ⟨inf, zv, h1, h2, h2b, h3, h4, h5, h6⟩ := htj.info
  have hr := run_make (P := P) w t e inf zv hu h1 h3 k1 k2 l' c' hb1 hb2 (by rw [h2b]; exact hb3) hb4
  have hr' : (execOp a.eval o).run P w = .ok (.value (.slice (some ⟨w.heap.size, 0, none⟩) l'.toNat c'.toNat)) (w.alloc (.cells (madeCells zv.cells (c'.toNat * inf.size)) e)) := by
    simp [execOp, hop, hl, hc, hr]
  obtain ⟨hzl, hzg⟩ := dec_le hz
  intro K Q hK
  unfold Oper.wp
  rw [hr']
  have hlen : (List.replicate l'.toNat z).length = l'.toNat := by simp
  have hcell : ∀ (q : Nat) x jj cc, (List.replicate l'.toNat z)[q]? = some x → lget (emb j.ty x) jj = some cc → ∃ v, (madeCells zv.cells (c'.toNat * inf.size))[q * j.ty.sz + jj]? = some v ∧ v.oneCell' = true ∧ Rel w E.closed cc v := by
    intro q x jj cc hx hcc
    have hq : q < l'.toNat := by have := (List.getElem?_eq_some_iff.1 hx).1; rwa [hlen] at this
    have hxz : x = z := by
      have := List.getElem?_eq_some_iff.1 hx
      obtain ⟨_, this⟩ := this
      simpa using this.symm
    subst hxz
    have hjj : jj < j.ty.sz := by have := (List.getElem?_eq_some_iff.1 (lget_eq _ _ ▸ hcc)).1; rwa [emb_length] at this
    obtain ⟨av, hav, hle⟩ := hzg jj cc hcc
    have hjz : jj < zv.cells.size := by rw [h4, ← hty]; exact hjj
    have hzc : zv.cells[jj]? = some zv.cells[jj] := by simp [hjz]
    obtain ⟨g1, g2⟩ := h6 jj av _ hav hzc
    refine ⟨zv.cells[jj], ?_, g1, (hle w E _ (g2 w E)).1⟩
    have hlt : q * j.ty.sz + jj < c'.toNat * inf.size := by
      have h7 : (q + 1) * j.ty.sz ≤ c'.toNat * j.ty.sz := Nat.mul_le_mul_right _ (by omega)
      rw [Nat.add_mul, Nat.one_mul] at h7
      rw [h2, ← hty]
      omega
    have hmod : (q * j.ty.sz + jj) % zv.cells.size = jj := by
      rw [h4, ← hty, Nat.mul_comm, Nat.mul_add_mod, Nat.mod_eq_of_lt hjj]
    simp only [madeCells, Array.getElem?_map, Array.getElem?_range, hlt, if_true, Option.map_some, hmod]
    simp [hjz]
  have hrow := row_new (e := e) (t := j.ty) (xs := List.replicate l'.toNat z) (cur := madeCells zv.cells (c'.toNat * inf.size)) (cap := c'.toNat) hi hid (by rw [hlen]; omega) (by unfold maxLen; omega) (by rw [size_madeCells, h2, hty])
    hcell (fun q v hq hv => by
      rcases Nat.eq_zero_or_pos j.ty.sz with h0 | h0
      · rw [h0] at hq; omega
      have e1 : q = q / j.ty.sz * j.ty.sz + q % j.ty.sz := by rw [Nat.mul_comm]; exact (Nat.div_add_mod _ _).symm
      have e2 : q % j.ty.sz < j.ty.sz := Nat.mod_lt _ h0
      have e3 : q / j.ty.sz < l'.toNat := by
        rw [hlen] at hq
        exact (Nat.div_lt_iff_lt_mul h0).2 hq
      obtain ⟨c, hc⟩ := lget_emb (t := j.ty) z e2
      obtain ⟨v', g1, g2, _⟩ := hcell (q / j.ty.sz) z _ c (by simp [e3]) hc
      rw [← e1, hv] at g1
      cases g1
      exact g2)
  rw [hlen] at hrow
  exact hK _ _ (E.add true id w.heap.size fun _ => False) rfl (Mono.add hi hid _ true _) (Inv.add hi hid _ true _ (fun _ _ h => h)) hrow

/-- Behind an append to a row that is the call's alone. -/
def Env.appR (E : Env) (d : Option Nat) (id : Nat) (b : Nat) : Env :=
  ⟨E.ok, fun i => if i = id then b else E.σ i, fun k i => (E.lv k i ∧ ¬ (k = true ∧ d = some i)) ∨ (k = true ∧ i = id), E.dead⟩

def Env.dropO (E : Env) (d : Option Nat) : Env := { E with lv := fun k i => E.lv k i ∧ ¬ (k = true ∧ d = some i) }

def killO (d : Option Nat) (l : List AV) : List AV :=
  match d with
  | some d => killL d l
  | none => l

theorem RelL.killO {as : List AV} {vs : Array Value} (h : RelL w E as vs) (d : Option Nat) : RelL w (E.dropO d) (killO d as) vs := by
  cases d with
  | none =>
    refine h.mono ⟨fun _ _ _ h => h, fun _ _ _ _ => rfl, fun _ h => h, fun i h => ⟨⟨h, by simp⟩, rfl, rfl, fun _ _ h => h⟩, fun i _ h => ⟨⟨h, by simp⟩, rfl, rfl, fun _ _ h => h⟩⟩
  | some d =>
    refine (h.kill d).mono ⟨fun _ _ _ h => h, fun _ _ _ _ => rfl, fun _ h => h, fun i h => ⟨⟨h.1, ?_⟩, rfl, rfl, fun _ _ h => h⟩, fun i _ h => ⟨⟨h.1, by simp⟩, rfl, rfl, fun _ _ h => h⟩⟩
    rintro ⟨_, e⟩
    injection e with e
    exact h.2 ⟨rfl, e.symm⟩

/-- What the block `g` of a new or a known row is. -/
theorem appR_env {d : Option Nat} {g : Nat} {w' : World} (hi : Inv GL B0 ok0 w0 w E used) (hid : ¬ used id) (hsrc : (∃ d', d = some d' ∧ E.lv true d' ∧ E.σ d' = g) ∨ w.heap.size ≤ g)
    (hlt : g < w'.heap.size) (hsize : w.heap.size ≤ w'.heap.size) (hother : ∀ b, b < w.heap.size → b ≠ g → w'.heap[b]? = w.heap[b]?) (hbelow : w'.os = w.os ∧ w'.tape = w.tape ∧ w'.output = w.output) :
    Mono w (E.dropO d) w' (E.appR d id g) ∧ Inv GL B0 ok0 w0 w' (E.appR d id g) (fun i => used i ∨ i = id) ∧ ∀ k o, ¬ E.ok k g o := by
  have hne : ∀ k i, E.lv k i → i ≠ id := fun k i h e => hid (e ▸ hi.lvu k i h)
  have hgB : B0 ≤ g := by
    rcases hsrc with ⟨d', _, hl, e⟩ | e
    · rw [← e]; exact (hi.lvb _ _ hl).1
    · have := hi.base; omega
  have hnok : ∀ k o, ¬ E.ok k g o := by
    intro k o h
    rcases hsrc with ⟨d', _, hl, e⟩ | e
    · rw [← e] at h; exact hi.box _ hl k o h
    · have := hi.okB _ _ _ h; omega
  have hσg : ∀ k q, E.lv k q → ¬ (k = true ∧ d = some q) → E.σ q ≠ g := by
    intro k q hl hn e
    rcases hsrc with ⟨d', hd, hl', e'⟩ | e'
    · obtain ⟨h1, h2⟩ := hi.inj k q true d' hl hl' (by rw [e, e'])
      exact hn ⟨h1, by rw [hd, h2]⟩
    · have := (hi.lvb k q hl).2; omega
  have hσ' : ∀ k q, E.lv k q → (E.appR d id g).σ q = E.σ q := fun k q hl => by simp [Env.appR, hne k q hl]
  have m : Mono w (E.dropO d) w' (E.appR d id g) := by
    refine ⟨fun _ _ _ h => h, fun k b o h => ?_, fun _ h => h, fun q h => ⟨.inl h, hσ' true q h.1, hother _ (hi.lvb _ _ h.1).2 (hσg _ _ h.1 h.2), fun _ _ h => h⟩, fun q _ h => ⟨.inl h, hσ' false q h.1, hother _ (hi.lvb _ _ h.1).2 (hσg _ _ h.1 h.2), fun _ _ h => h⟩⟩
    refine cell_other (hother b (hi.okB k b o h) ?_)
    rintro rfl
    exact hnok k o h
  have lvσ : ∀ k q, (E.appR d id g).lv k q → (E.lv k q ∧ (E.appR d id g).σ q = E.σ q ∧ E.σ q ≠ g) ∨ (k = true ∧ q = id ∧ (E.appR d id g).σ q = g) := by
    intro k q h
    rcases h with ⟨h, hn⟩ | ⟨h, rfl⟩
    · exact .inl ⟨h, hσ' k q h, hσg k q h hn⟩
    · exact .inr ⟨h, rfl, by simp [Env.appR]⟩
  refine ⟨m, ⟨hi.below.trans ⟨hbelow.1, hbelow.2.1, hbelow.2.2, hsize, fun k hk => hother k (by have := hi.base; omega) (by omega)⟩, by have := hi.base; omega, fun k b o h => ?_, hi.okm, fun k q h => ?_, fun k q h => ?_, fun k q k' q' h h' e => ?_, fun q h k o => ?_, hi.oke, hi.okN, hi.glo⟩, hnok⟩
  · have := hi.okB k b o h; omega
  · rcases lvσ k q h with ⟨h, _⟩ | ⟨_, rfl, _⟩
    · exact .inl (hi.lvu k q h)
    · exact .inr rfl
  · rcases lvσ k q h with ⟨h, e, _⟩ | ⟨_, _, e⟩
    · rw [e]; have := hi.lvb k q h; omega
    · rw [e]; exact ⟨hgB, hlt⟩
  · rcases lvσ k q h with ⟨h1, e1, n1⟩ | ⟨rfl, rfl, e1⟩ <;> rcases lvσ k' q' h' with ⟨h2, e2, n2⟩ | ⟨rfl, rfl, e2⟩
    · rw [e1, e2] at e; exact hi.inj _ _ _ _ h1 h2 e
    · rw [e1, e2] at e; exact absurd e n1
    · rw [e1, e2] at e; exact absurd e.symm n2
    · exact ⟨rfl, rfl⟩
  · rcases lvσ true q h with ⟨h, e, _⟩ | ⟨_, _, e⟩
    · rw [e]; exact hi.box q h k o
    · rw [e]; exact hnok k o

/-- Appending to a row that is the call's alone, or to nothing. -/
theorem good_appendR {t e : Nat} {i j : TI} (hti : TIF P t i) (hk : i.kind = .slice e) (htj : TIF P e j) (hsz : 0 < j.sz) {s x : Operand} (hop : o.op = .call { callee := .builtin .append, args := #[s, x], argTypes := #[t, t] })
    {ys zs : List j.ty.den} {vs : Value} {d : Option Nat} (hs : a.eval s = vs)
    (hrow : (vs = .slice none 0 0 ∧ ys = []) ∨ ∃ d', d = some d' ∧ Rel w E (.row d' e j.ty ys) vs)
    (hx : Rel w E.closed (.tl j.ty zs) (a.eval x)) (hfit : fits ys.length zs.length j.bytes = true) (hi : Inv GL B0 ok0 w0 w E used) (hid : ¬ used id) (K : Act → World → Prop) (Q : Exit → Act → World → Prop)
    (hK : ∀ v w' E', E'.dead = E.dead → Mono w (E.dropO d) w' E' → Inv GL B0 ok0 w0 w' E' (fun i => used i ∨ i = id) → Rel w' E' (.row id e j.ty (ys ++ zs)) v → K (a.put o.dst v) w') : o.wp P a w K Q := by
  have hu := hti.slice hk
  have hty := htj.tysz
  obtain ⟨inf, z, h1, h2, h2b, h3, h4, h5, h6⟩ := htj.info
  simp only [fits, Bool.and_eq_true, decide_eq_true_eq] at hfit
  obtain ⟨hf1, hf2⟩ := hfit
  obtain ⟨ax, bx, ox, capx, hxv, hcapx, hax, cvx, hcx, hrx⟩ := hx.tl_parts
  have hne : ∀ k i, E.lv k i → i ≠ id := fun k i h e => hid (e ▸ hi.lvu k i h)
  have hrun0 : (execOp a.eval o).run P w = ((Builtin.append_ #[t, t] o.type #[vs, a.eval x]).run P w).andThen fun v w => .ok (.value v) w := by
    simp [execOp, hop, resolve, invoke, builtin, hs]
  have htsz : 0 < j.ty.sz := by rw [hty]; exact hsz
  -- the row, as it lies in memory
  have hform : (vs = .slice none 0 0 ∧ ys = []) ∨ ∃ d' cap arr, d = some d' ∧ vs = .slice (some ⟨E.σ d', 0, none⟩) ys.length cap ∧ E.lv true d' ∧ w.heap[E.σ d']? = some (.cells arr e (0, 0)) ∧ ys.length ≤ cap ∧ cap ≤ maxLen ∧ arr.size = cap * j.ty.sz ∧
      (∀ (i : Nat) (v : Value), i < ys.length * j.ty.sz → arr[i]? = some v → v.oneCell' = true) ∧ (∀ (i : Nat) (x : j.ty.den) (k : Nat) (c : AV) (u : Value), ys[i]? = some x → lget (emb j.ty x) k = some c → arr[i * j.ty.sz + k]? = some u → Rel w E.closed c u) := by
    rcases hrow with h | ⟨d', hd, h⟩
    · exact .inl h
    · cases h with
      | rowN => exact .inl ⟨rfl, rfl⟩
      | row _ _ _ _ _ cap arr hl hh hn hm hsz' h1' _ hr => exact .inr ⟨d', cap, arr, hd, rfl, hl, hh, hn, hm, hsz', h1', hr⟩
  unfold Oper.wp
  rw [hrun0]
  by_cases hz0 : zs = []
  · subst hz0
    have hlen0 : ∃ aa capy, vs = .slice aa ys.length capy ∧ ys.length ≤ capy := by
      rcases hform with ⟨rfl, rfl⟩ | ⟨d', cap, arr, _, rfl, _, _, hn, _⟩
      · exact ⟨_, _, rfl, Nat.le_refl _⟩
      · exact ⟨_, _, rfl, hn⟩
    have hrun : (Builtin.append_ #[t, t] o.type #[vs, a.eval x]).run P w = .ok vs w := by
      obtain ⟨ay, capy, rfl, hcapy⟩ := hlen0
      rw [hxv]
      have hst : ∀ b : Addr, (storeCells b ([] : List Value)).run P w = .ok () w := fun b => rfl
      have hszr : (sizeOf e).run P w = .ok j.sz w := run_sizeOf htj w
      have hfc : ∀ aa : Option Addr, (Builtin.firstCells j.sz 0 (.slice aa 0 capx)).run P w = .ok #[] w := by
        intro aa
        cases aa with
        | none => rfl
        | some b => simp [Builtin.firstCells, loadCells, loadCellsFrom]
      cases ay with
      | none => simp [Builtin.append_, run_underlying hu, hszr, Builtin.lenOf, hcapy, hfc]
      | some b => simp [Builtin.append_, run_underlying hu, hszr, Builtin.lenOf, hcapy, hfc, hst]
    rw [hrun]
    simp only [Result.andThen_ok, List.append_nil] at hK ⊢
    rcases hform with ⟨rfl, rfl⟩ | ⟨d', cap, arr, hd, rfl, hl, hh, hn, hm, hs', h1', hr⟩
    · refine hK _ w (E.dropO d) rfl (Mono.refl _ _) ⟨hi.below, hi.base, hi.okB, hi.okm, fun k i h => .inl (hi.lvu k i h.1), fun k i h => hi.lvb k i h.1, fun k i k' i' h h' e => hi.inj k i k' i' h.1 h'.1 e, fun i h => hi.box i h.1, hi.oke, hi.okN, hi.glo⟩ (.rowN _ _ _ _)
    · obtain ⟨m, hinv, hnok⟩ := appR_env (w' := w) (d := d) (g := E.σ d') hi hid (.inl ⟨d', hd, hl, rfl⟩) (hi.lvb _ _ hl).2 (Nat.le_refl _) (fun _ _ _ => rfl) ⟨rfl, rfl, rfl⟩
      have := Rel.row (w := w) (E.appR d id (E.σ d')) id e j.ty ys cap arr (.inr ⟨rfl, rfl⟩) (by simp only [Env.appR, if_true]; exact hh) hn hm hs' h1' (fun k o => by simp only [Env.appR, if_true]; exact hnok k o) (fun i x k c u hx hj hu => (hr i x k c u hx hj hu).mono m.closed)
      simp only [Env.appR, if_true] at this
      exact hK _ w (E.appR d id (E.σ d')) rfl m hinv this
  · have hm : 0 < zs.length := List.length_pos_iff.2 hz0
    have hax' := hax hz0
    subst hax'
    rw [hxv]
    have hrow' : ∃ vals, w.ownsRow 0 e j.ty.sz vs ys.length vals ∧ ∀ (i : Nat) (x : j.ty.den) (k : Nat) (c : AV) (u : Value), ys[i]? = some x → lget (emb j.ty x) k = some c → vals[i * j.ty.sz + k]? = some u → u.oneCell' = true ∧ Rel w E.closed c u := by
      rcases hform with ⟨rfl, rfl⟩ | ⟨d', cap, arr, hd, rfl, hl, hh, hn, hm, hs', h1', hr⟩
      · exact ⟨[], World.ownsRow_nil w 0 e _, fun i x k c u h => by simp at h⟩
      · refine ⟨arr.toList.take (ys.length * j.ty.sz), ⟨?_, .inr ⟨E.σ d', cap, arr, rfl, Nat.zero_le _, hh, hn, hm, hs', rfl⟩⟩, fun i x k c u hx hj hu => ?_⟩
        · have h7 : ys.length * j.ty.sz ≤ cap * j.ty.sz := Nat.mul_le_mul_right _ hn
          have e1 : arr.toList.length = cap * j.ty.sz := by simpa using hs'
          simp only [List.length_take, e1]
          exact Nat.min_eq_left h7
        · have hlt := row_in (Nat.le_refl _) rfl hx hj
          rw [List.getElem?_take, if_pos hlt] at hu
          have hu' : arr[i * j.ty.sz + k]? = some u := by simpa using hu
          exact ⟨h1' _ u hlt hu', hr i x k c u hx hj hu'⟩
    obtain ⟨vals, hown, hvals⟩ := hrow'
    have hnews : ∀ q u, (flat j.ty.sz zs.length cvx)[q]? = some u → w.cell? ((⟨bx, ox, none⟩ : Addr).add q) = some u := by
      intro q u hq
      obtain ⟨i', j', hi', hj', rfl, rfl⟩ := flat_all htsz hq
      obtain ⟨c, hc⟩ := lget_emb (t := j.ty) zs[i'] hj'
      rw [Addr.add_eq]
      exact (hcx i' zs[i'] j' c (by simp [hi']) hc).1
    have hone : ∀ u ∈ flat j.ty.sz zs.length cvx, u.oneCell' = true := by
      intro u hu
      obtain ⟨q, hq⟩ := List.getElem?_of_mem hu
      obtain ⟨i', j', hi', hj', rfl, rfl⟩ := flat_all htsz hq
      obtain ⟨c, hc⟩ := lget_emb (t := j.ty) zs[i'] hj'
      exact (hcx i' zs[i'] j' c (by simp [hi']) hc).2.1
    obtain ⟨v', w', g, hr, hA, hkeep, aa, cap', hv', hcap'⟩ := run_append_more (P := P) t o.type e inf z j.ty.sz j.bytes hu h1 h3 (by rw [h2, hty]) h2b (by rw [h4, hty]) htsz vs ys.length vals hown ⟨bx, ox, none⟩ zs.length capx
      (flat j.ty.sz zs.length cvx) flat_length hnews hone hf2 hf1 hm
    rw [hr]
    simp only [Result.andThen_ok]
    have hsrc : (∃ d', d = some d' ∧ E.lv true d' ∧ E.σ d' = g) ∨ w.heap.size ≤ g := by
      rcases hA.src with hs' | hs'
      · rcases hform with ⟨rfl, rfl⟩ | ⟨d', cap, arr, hd, rfl, hl, _⟩
        · simp [Value.ownBlock] at hs'
        · simp [Value.ownBlock] at hs'
          exact .inl ⟨d', hd, hl, hs'⟩
      · exact .inr (by omega)
    obtain ⟨m, hinv, hnok⟩ := appR_env (w' := w') (d := d) (g := g) hi hid hsrc hA.lt hA.size hA.other ⟨hA.os, hA.tape, hA.output⟩
    have hg : ∃ cap2 cur, v' = .slice (some ⟨g, 0, none⟩) (ys.length + zs.length) cap2 ∧ w'.heap[g]? = some (.cells cur e (0, 0)) ∧ ys.length + zs.length ≤ cap2 ∧ cap2 ≤ maxLen ∧ cur.size = cap2 * j.ty.sz ∧ cur.toList.take ((ys.length + zs.length) * j.ty.sz) = vals ++ flat j.ty.sz zs.length cvx := by
      rcases hA.own.2 with ⟨rfl, h0⟩ | ⟨g2, cap2, cur, rfl, _, hgg, hc, hcm, hcs, htake⟩
      · have := hA.blk; simp [Value.ownBlock] at this
      · have := hA.blk
        simp [Value.ownBlock] at this
        subst this
        exact ⟨cap2, cur, rfl, hgg, hc, hcm, hcs, htake⟩
    obtain ⟨cap2, cur, rfl, hgg, hc2, hcm, hcs, htake⟩ := hg
    have hcell : ∀ (i' : Nat) x k c u, (ys ++ zs)[i']? = some x → lget (emb j.ty x) k = some c → cur[i' * j.ty.sz + k]? = some u → u.oneCell' = true ∧ Rel w' (E.appR d id g).closed c u := by
      intro i' x k c u hx hj hu
      have hlen : (ys ++ zs).length = ys.length + zs.length := by simp
      have hk' : k < j.ty.sz := by have := (List.getElem?_eq_some_iff.1 (lget_eq _ _ ▸ hj)).1; rwa [emb_length] at this
      have hlt := row_in (Nat.le_refl _) rfl hx hj
      have hu2 : (vals ++ flat j.ty.sz zs.length cvx)[i' * j.ty.sz + k]? = some u := by
        rw [← htake, List.getElem?_take, if_pos (by rw [← hlen]; exact hlt)]
        simpa using hu
      rw [List.getElem?_append] at hx
      split at hx
      · rename_i hlt2
        rw [List.getElem?_append_left (by rw [hown.1]; exact row_in (Nat.le_refl _) rfl hx hj)] at hu2
        obtain ⟨g1, g2⟩ := hvals i' x k c u hx hj hu2
        exact ⟨g1, g2.mono m.closed⟩
      · rename_i hge
        have hle : ys.length * j.ty.sz ≤ i' * j.ty.sz := Nat.mul_le_mul_right _ (by omega)
        rw [List.getElem?_append_right (by rw [hown.1]; exact Nat.le_trans hle (Nat.le_add_right _ _)), hown.1,
          show i' * j.ty.sz + k - ys.length * j.ty.sz = (i' - ys.length) * j.ty.sz + k by rw [Nat.sub_mul]; omega, flat_get htsz (List.getElem?_eq_some_iff.1 hx).1 hk'] at hu2
        cases hu2
        exact ⟨(hcx _ x k c hx hj).2.1, (hrx _ x k c hx hj).mono m.closed⟩
    have hlen : (ys ++ zs).length = ys.length + zs.length := by simp
    have := Rel.row (w := w') (E.appR d id g) id e j.ty (ys ++ zs) cap2 cur (.inr ⟨rfl, rfl⟩) (by simp only [Env.appR, if_true]; exact hgg) (by rw [hlen]; exact hc2) hcm hcs (fun q v hq hv => by
      have e1 : q = q / j.ty.sz * j.ty.sz + q % j.ty.sz := by rw [Nat.mul_comm]; exact (Nat.div_add_mod _ _).symm
      have e2 : q % j.ty.sz < j.ty.sz := Nat.mod_lt _ htsz
      have e3 : q / j.ty.sz < (ys ++ zs).length := (Nat.div_lt_iff_lt_mul htsz).2 hq
      obtain ⟨c, hc⟩ := lget_emb (t := j.ty) (ys ++ zs)[q / j.ty.sz] e2
      rw [e1] at hv
      exact (hcell _ _ _ c v (List.getElem?_eq_getElem e3) hc hv).1) (fun k o => by simp only [Env.appR, if_true]; exact hnok k o) (fun i x k c u hx hj hu => (hcell i x k c u hx hj hu).2)
    rw [hlen] at this
    simp only [Env.appR, if_true] at this
    exact hK _ w' (E.appR d id g) rfl m hinv this
end
end Go.Ai

set_option linter.unusedSimpArgs false
set_option linter.unusedVariables false
namespace Go.Ai
open Go Go.RowKit

def Sim (GL : World → Prop) (B0 : Nat) (ok0 : Bool → Nat → Nat → Prop) (w0 : World) (bv : Array Value) (used : Nat → Prop) (s : AS) (a : Act) (w : World) : Prop :=
  ∃ E : Env, E.dead = s.dead ∧ Inv GL B0 ok0 w0 w E used ∧ RelL w E s.fr a.tmps ∧ RelL w E s.bg bv

/-- What is known of a call that may write: it runs at its caller's place. -/
def IOK (P : Program) (GL : World → Prop) (I : Nat → List AV → AS → Option (AV × AS)) : Prop :=
  ∀ q as s r s', I q as s = some (r, s') → s.next ≤ s'.next ∧
    ∀ (B0 : Nat) (ok0 : Bool → Nat → Nat → Prop) (w0 : World) (used : Nat → Prop) (w : World) (E : Env) (vs tv bv : Array Value), E.dead = s.dead → Inv GL B0 ok0 w0 w E used → (∀ i, used i → i < s.next) → RelL w E as vs → RelL w E s.fr tv → RelL w E s.bg bv →
      (callFunc q vs).run P w = .ok (.enter q vs) w ∧ Calls P q vs w fun e w' => ∃ v E', e = .returned v ∧ E'.dead = s'.dead ∧ Inv GL B0 ok0 w0 w' E' (fun i => used i ∨ (s.next ≤ i ∧ i < s'.next)) ∧ Rel w' E' r v ∧ RelL w' E' s'.fr tv ∧ RelL w' E' s'.bg bv

section
variable {P : Program} {GL : World → Prop} {B0 : Nat} {ok0 : Bool → Nat → Nat → Prop} {w0 w : World} {E : Env} {used : Nat → Prop} {id : Nat} {o : Oper} {a : Act} {r : AV} {dead' : Nat → Bool}
variable {T : Nat → Option TI} {O : Nat → List AV → Option AV} {X : Oper → Bool} {I : Nat → List AV → AS → Option (AV × AS)} {bv : Array Value}

theorem awanted_sound {ops : Array Oper} {fr : List AV} {b : Bool} (hf : RelL w E fr a.tmps) (h : awanted ops.toList o fr = some b) : Region.wanted o (yielded ops a.tmps) = b := by
  unfold awanted at h
  unfold Region.wanted
  split at h
  · rename_i hg
    rw [hg]
    cases h; rfl
  · rename_i j want hg
    rw [hg]
    simp only [Option.bind_eq_some_iff] at h
    obtain ⟨p, hp, d, hd, x, hx, h⟩ := h
    have hp' : ops[j]? = some p := by rw [lget_eq] at hp; simpa using hp
    have hlt : d < a.tmps.size := by rw [hf.1]; rw [lget_eq] at hx; exact (List.getElem?_eq_some_iff.1 hx).1
    have hget : a.tmps[d]? = some a.tmps[d] := by simp [hlt]
    have hr := hf.2 d x _ hx hget
    generalize a.tmps[d] = v at hr hget
    split at h
    · cases h
      cases hr
      simp [yielded, hp', hd, hget]
    · cases h
      cases hr with
      | tup _ _ vs hs _ =>
      simp [yielded, hp', hd, hget]
    · cases h

/-- Without variables. -/
def Env.nobox (E : Env) : Env := { E with lv := fun k i => E.lv k i ∧ k = false }

theorem Rel.nobox {a : AV} {v : Value} (h : Rel w E a v) (hnb : a.nb = true) : Rel w E.nobox a v := by
  induction h with
  | bot => exact .bot _ _
  | int => exact .int _ _ _
  | bool => exact .bool _ _
  | str => exact .str _ _
  | snil => exact .snil _
  | agg E cs vs hs h1 h ih => exact .agg _ _ _ hs h1 fun i a v ha hv => ih i a v ha hv (nbL_get hnb ha)
  | tup E cs vs hs h ih => exact .tup _ _ _ hs fun i a v ha hv => ih i a v ha hv (nbL_get hnb ha)
  | tl E t xs a b o cap cv hcap ha hc hr ih => exact (Rel.tl E t xs a b o cap cv hcap ha hc hr).ofClosed rfl fun _ _ _ h => h
  | clip E t xs a h ih => exact .clip _ _ _ _ h
  | own E id e t xs v h ho ih =>
    refine .own _ _ _ _ _ _ h fun hd => ?_
    rcases ho hd with hn | ⟨h1, h2⟩
    · exact .inl hn
    · exact .inr ⟨⟨h1, rfl⟩, h2⟩
  | box => simp [AV.nb] at hnb
  | eptr E cs b o cv hcl' hc hr ih => exact (Rel.eptr E cs b o cv hcl' hc hr).ofClosed rfl fun _ _ _ h => h
  | fn E f caps vs hs h ih => exact .fn _ _ _ _ hs fun i a v ha hv => ih i a v ha hv (nbL_get hnb ha)
  | rowN => simp [AV.nb] at hnb
  | row => simp [AV.nb] at hnb
  | rel => simp [AV.nb] at hnb

theorem ocell_nb {a : AV} (h : a.ocell = true) : a.nb = true := by
  cases a <;> simp [AV.ocell, AV.nb] at h ⊢
  exact h

/-- A store into a variable leaves what leads to no variable. -/
theorem Rel.keep_nb {q : Nat} {w' : World} {a : AV} {v : Value} (h : Rel w E a v) (hnb : a.nb = true) (hi : Inv GL B0 ok0 w0 w E used) (hl : E.lv true q) (hother : ∀ b, b ≠ E.σ q → w'.heap[b]? = w.heap[b]?) : Rel w' E a v := by
  have hne : ∀ i, E.lv false i → E.σ i ≠ E.σ q := fun i h e => by have := (hi.inj _ _ _ _ h hl e).1; cases this
  have m : Mono w E.nobox w' E.nobox := by
    refine ⟨fun _ _ _ h => h, fun k b o h => cell_other (hother b ?_), fun _ h => h, fun i h => (by cases h.2), fun i _ h => ⟨h, rfl, hother _ (hne i h.1), fun _ _ h => h⟩⟩
    rintro rfl
    exact hi.box q hl _ _ h
  have m2 : Mono w' E.nobox w' E := ⟨fun _ _ _ h => h, fun _ _ _ _ => rfl, fun _ h => h, fun i h => (by cases h.2), fun i _ h => ⟨h.1, rfl, rfl, fun _ _ h => h⟩⟩
  exact ((h.nobox hnb).mono m).mono m2

theorem Inv.setRow {g : Nat} (hi : Inv GL B0 ok0 w0 w E used) (hg : B0 ≤ g) (cs : Array Value) : Inv GL B0 ok0 w0 (w.setRow g cs) E used := by
  refine { hi with below := hi.below.trans ⟨rfl, rfl, rfl, by simp, fun k hk => setRow_other w g k cs (by omega)⟩, base := by simpa using hi.base, okB := fun k b o h => by simpa using hi.okB k b o h, lvb := fun k i h => by simpa using hi.lvb k i h }

/-- A store into a variable. -/
theorem sim_store (hT : TOK P T) {t : TypeId} {x y : Operand} {ti : TI} {q off : Nat} {cs : List AV} {v : AV} (hti : T t = some ti)
    (hx : Rel w E (.box q off cs) (a.eval x)) (hy : Rel w E v (a.eval y)) (ho : ocells v.cells = true) (hoc : ocells cs = true) (hl : v.cells.length = ti.sz) (hle : off + ti.sz ≤ cs.length) (hi : Inv GL B0 ok0 w0 w E used) :
    ∃ w', (Instr.storeAt t (a.eval x) (a.eval y)).run P w = .ok () w' ∧ Inv GL B0 ok0 w0 w' E used ∧ ∀ (l : List AV) (vs : Array Value), RelL w E l vs → RelL w' E (updL q (cs.take off ++ v.cells ++ cs.drop (off + ti.sz)) l) vs := by
  have hc := CellsRel.of_cells hy ho
  generalize hxv : a.eval x = vx at hx
  generalize hyv : a.eval y = vy at hy hc
  cases hx with
  | box _ _ _ _ arr TT hlv hh hs h1 hok hr =>
  have hsz := run_sizeOf (hT.facts hti) w
  have hcsz : vy.cells.size = ti.sz := by have := hc.1; simp at this; omega
  have hst := run_storeCells_at (P := P) (E.σ q) off TT vy.cells.toList 0 arr w hh (by simp; omega) (fun u hu => by
    obtain ⟨j, hj⟩ := List.getElem?_of_mem hu
    exact hc.2.1 j u hj)
  let new : List AV := cs.take off ++ v.cells ++ cs.drop (off + ti.sz)
  let arr' : Array Value := (arr.toList.take off ++ vy.cells.toList ++ arr.toList.drop (off + ti.sz)).toArray
  have hCR : CellsRel w E cs arr.toList := ⟨by simpa using hs, fun j u hu => h1 j u (by simpa using hu), fun j c u hj hu => hr j c u hj (by simpa using hu)⟩
  have hnew : CellsRel w E new arr'.toList := ((hCR.take off).app hc).app (hCR.drop (off + ti.sz))
  have e1 : w.setRow (E.σ q) (arr.toList.take (off + 0) ++ vy.cells.toList ++ arr.toList.drop (off + 0 + vy.cells.toList.length)).toArray = w.setRow (E.σ q) arr' := by
    simp [arr', hcsz]
  have hheap : (w.setRow (E.σ q) arr').heap[E.σ q]? = some (.cells arr' TT (0, 0)) := setRow_heap w _ _ _ _ _ hh
  have hw : Inv GL B0 ok0 w0 (w.setRow (E.σ q) arr') E used := hi.setRow (hi.lvb _ _ hlv).1 _
  have hsz' : arr'.size = new.length := by have := hnew.1; simpa using this
  refine ⟨w.setRow (E.σ q) arr', ?_, hw, fun l vs hf => ⟨by rw [updL_length]; exact hf.1, fun i z u hz hu => ?_⟩⟩
  · rw [e1] at hst
    simp [Instr.storeAt, Instr.sureAddr, storeVar, hsz, hcsz, hst]
  · rw [lget_updL] at hz
    obtain ⟨z', hz', rfl⟩ := Option.map_eq_some_iff.1 hz
    have hinj : ∀ k i, E.lv k i → E.σ i = E.σ q → k = true ∧ i = q := fun k i h e => by
      obtain ⟨h2, h3⟩ := hi.inj k i true q h hlv e
      exact ⟨h2, h3⟩
    have hother : ∀ b, b ≠ E.σ q → (w.setRow (E.σ q) arr').heap[b]? = w.heap[b]? := fun b hb => setRow_other w _ b _ hb
    have h1' : ∀ (i : Nat) (v : Value), arr'[i]? = some v → v.oneCell' = true := fun i v hv => hnew.2.1 i v (by simpa using hv)
    have hocn : ocells new = true := by
      have app : ∀ l m : List AV, ocells l = true → ocells m = true → ocells (l ++ m) = true := by
        intro l m h h'
        induction l with
        | nil => exact h'
        | cons x l ih => simp [ocells] at h ⊢; exact ⟨h.1, ih h.2⟩
      have tk : ∀ (l : List AV) (n : Nat), ocells l = true → ocells (l.take n) = true := by
        intro l
        induction l with
        | nil => intro n h; simp [ocells]
        | cons x l ih => intro n h; cases n <;> simp [ocells] at h ⊢; exact ⟨h.1, ih _ h.2⟩
      have dr : ∀ (l : List AV) (n : Nat), ocells l = true → ocells (l.drop n) = true := by
        intro l
        induction l with
        | nil => intro n h; simp [ocells]
        | cons x l ih => intro n h; cases n <;> simp [ocells] at h ⊢ <;> first | exact h | exact ih _ h.2
      exact app _ _ (app _ _ (tk _ _ hoc) ho) (dr _ _ hoc)
    have hnr : ∀ i c u, lget new i = some c → arr'[i]? = some u → Rel (w.setRow (E.σ q) arr') E c u := fun i c u hc' hu' =>
      (hnew.2.2 i c u hc' (by simpa using hu')).keep_nb (ocell_nb (ocells_get hocn hc')) hi hlv hother
    exact Rel.upd hlv hother hheap hsz' h1' hok hinj hnr (hf.2 i z' u hz' hu)

/-- A store into an element of a row that is the call's alone. -/
theorem sim_store_rel (hT : TOK P T) {t : TypeId} {x y : Operand} {ti : TI} {q e off : Nat} {u : Ty} {xs : List u.den} {n : Int} {v : AV} {z z' : u.den} (hti : T t = some ti)
    (hx : Rel w E (.rel q e u xs n off) (a.eval x)) (hy : Rel w E v (a.eval y)) (ho : ocells v.cells = true) (hl : v.cells.length = ti.sz) (hz : listAt xs n = some z) (hs : splice u z off v.cells = some z') (hi : Inv GL B0 ok0 w0 w E used) :
    ∃ w', (Instr.storeAt t (a.eval x) (a.eval y)).run P w = .ok () w' ∧ Inv GL B0 ok0 w0 w' E used ∧ ∀ (l : List AV) (vs : Array Value), RelL w E l vs → RelL w' E (stL q u n.toNat z' l) vs := by
  have hc := CellsRel.of_cells hy ho
  obtain ⟨h0, hzn⟩ := listAt_some hz
  unfold splice at hs
  split at hs
  case isFalse => cases hs
  rename_i hle
  obtain ⟨hdl, hdg⟩ := dec_le hs
  generalize hxv : a.eval x = vx at hx
  generalize hyv : a.eval y = vy at hy hc
  cases hx with
  | rel _ _ _ _ _ _ _ cap _ hlv hrow =>
  generalize hvs : Value.slice (some ⟨E.σ q, 0, none⟩) xs.length cap = vsl at hrow
  cases hrow with
  | rowN => simp at hzn
  | row _ _ _ _ _ cap' arr _ hh hn hm hsz h1 hok hr =>
  have hsz2 := run_sizeOf (hT.facts hti) w
  have hcsz : vy.cells.size = ti.sz := by have := hc.1; simp at this; omega
  have hnl : n.toNat < xs.length := (List.getElem?_eq_some_iff.1 hzn).1
  have hfitn : (n.toNat + 1) * u.sz ≤ arr.size := by rw [hsz]; exact Nat.mul_le_mul_right _ (by omega)
  have hfit1 : (n.toNat + 1) * u.sz = n.toNat * u.sz + u.sz := by rw [Nat.add_mul, Nat.one_mul]
  have hst := run_storeCells_at (P := P) (E.σ q) (n.toNat * u.sz + off) e vy.cells.toList 0 arr w hh (by simp; omega) (fun w hw => by
    obtain ⟨j, hj⟩ := List.getElem?_of_mem hw
    exact hc.2.1 j w hj)
  let arr' : Array Value := (arr.toList.take (n.toNat * u.sz + off) ++ vy.cells.toList ++ arr.toList.drop (n.toNat * u.sz + off + ti.sz)).toArray
  have e1 : w.setRow (E.σ q) (arr.toList.take (n.toNat * u.sz + off + 0) ++ vy.cells.toList ++ arr.toList.drop (n.toNat * u.sz + off + 0 + vy.cells.toList.length)).toArray = w.setRow (E.σ q) arr' := by
    simp [arr', hcsz]
  have hheap : (w.setRow (E.σ q) arr').heap[E.σ q]? = some (.cells arr' e (0, 0)) := setRow_heap w _ _ _ _ _ hh
  have hw : Inv GL B0 ok0 w0 (w.setRow (E.σ q) arr') E used := hi.setRow (hi.lvb _ _ hlv).1 _
  have hother : ∀ b, b ≠ E.σ q → (w.setRow (E.σ q) arr').heap[b]? = w.heap[b]? := fun b hb => setRow_other w _ b _ hb
  have hinj : ∀ k i, E.lv k i → E.σ i = E.σ q → k = true ∧ i = q := fun k i h e => by
    obtain ⟨h2, h3⟩ := hi.inj k i true q h hlv e
    exact ⟨h2, h3⟩
  have hsz' : arr'.size = arr.size := by
    simp only [arr', List.size_toArray, List.length_append, List.length_take, List.length_drop, Array.length_toList, hcsz]
    omega
  have hlo : ∀ k, k < n.toNat * u.sz + off → arr'[k]? = arr[k]? := by
    intro k hk
    simp only [arr', List.getElem?_toArray]
    rw [List.append_assoc, List.getElem?_append_left (by simp; omega), List.getElem?_take, if_pos hk]
    simp
  have hmid : ∀ k, k < ti.sz → arr'[n.toNat * u.sz + off + k]? = vy.cells.toList[k]? := by
    intro k hk
    have hl1 : (arr.toList.take (n.toNat * u.sz + off)).length = n.toNat * u.sz + off := by simp; omega
    simp only [arr', List.getElem?_toArray]
    rw [List.getElem?_append_left (by simp [hcsz]; omega), List.getElem?_append_right (by omega), hl1]
    congr 1
    omega
  have hhi : ∀ k, n.toNat * u.sz + off + ti.sz ≤ k → arr'[k]? = arr[k]? := by
    intro k hk
    have hl1 : (arr.toList.take (n.toNat * u.sz + off) ++ vy.cells.toList).length = n.toNat * u.sz + off + ti.sz := by simp [hcsz]; omega
    simp only [arr', List.getElem?_toArray]
    rw [List.getElem?_append_right (by omega), hl1, List.getElem?_drop]
    rw [show n.toNat * u.sz + off + ti.sz + (k - (n.toNat * u.sz + off + ti.sz)) = k by omega]
    simp
  have mc : Mono w E.closed (w.setRow (E.σ q) arr') E.closed := by
    refine ⟨fun _ _ _ h => h, fun k b o h => cell_other (hother b ?_), fun _ h => (by cases h), fun _ h => h.elim, fun _ _ h => h.elim⟩
    rintro rfl
    exact hok k o h
  -- the element, as it lies there now
  have hel : ∀ j c v', lget (emb u z') j = some c → arr'[n.toNat * u.sz + j]? = some v' → v'.oneCell' = true ∧ Rel (w.setRow (E.σ q) arr') E.closed c v' := by
    intro j c v' hj hv'
    have hj' : j < u.sz := by have := (List.getElem?_eq_some_iff.1 (lget_eq _ _ ▸ hj)).1; rwa [emb_length] at this
    obtain ⟨c0, hc0, hle0⟩ := hdg j c hj
    have key : Rel (w.setRow (E.σ q) arr') E c0 v' := by
      have hold : ∀ k, lget (emb u z) k = some c0 → arr[n.toNat * u.sz + k]? = some v' → Rel (w.setRow (E.σ q) arr') E c0 v' := fun k hk hv =>
        ((hr n.toNat z k c0 v' hzn hk hv).mono mc).ofClosed (clL_get (emb_cl u z) hk) fun _ _ _ h => h
      rw [lget_eq, List.append_assoc, List.getElem?_append] at hc0
      have hlt1 : ((emb u z).take off).length = off := by simp [emb_length]; omega
      rw [hlt1] at hc0
      split at hc0
      · rename_i h1
        rw [hlo _ (by omega)] at hv'
        rw [List.getElem?_take, if_pos h1] at hc0
        exact hold j (by rw [lget_eq]; exact hc0) hv'
      · rename_i h1
        rw [List.getElem?_append] at hc0
        split at hc0
        · rename_i h2
          have := hmid (j - off) (by omega)
          rw [show n.toNat * u.sz + off + (j - off) = n.toNat * u.sz + j by omega, hv'] at this
          have h3 := hc.2.2 (j - off) c0 v' (by rw [lget_eq]; exact hc0) this.symm
          exact h3.keep_nb (ocell_nb (ocells_get ho (by rw [lget_eq]; exact hc0))) hi hlv hother
        · rename_i h2
          rw [hhi _ (by omega)] at hv'
          rw [List.getElem?_drop] at hc0
          have e2 : off + v.cells.length + (j - off - v.cells.length) = j := by omega
          rw [e2] at hc0
          exact hold j (by rw [lget_eq]; exact hc0) hv'
    exact ⟨(hle0 _ _ _ key).2, (hle0 _ _ _ key).1⟩
  refine ⟨w.setRow (E.σ q) arr', ?_, hw, fun l vs hf => ⟨by rw [stL_length]; exact hf.1, fun i b v' hb hv' => ?_⟩⟩
  · rw [e1] at hst
    simp [Instr.storeAt, Instr.sureAddr, storeVar, hsz2, hcsz, hst]
  · rw [lget_stL] at hb
    obtain ⟨b', hb', rfl⟩ := Option.map_eq_some_iff.1 hb
    refine Rel.st hlv hother hh hheap hsz' (fun j v'' hj hv'' => ?_) hok hinj (fun j c v'' hj hv'' => (hel j c v'' hj hv'').2) (fun k j hk hj => ?_) (hf.2 i b' v' hb' hv')
    · obtain ⟨c, hcj⟩ := lget_emb (t := u) z' hj
      exact (hel j c v'' hcj hv'').1
    · rcases Nat.lt_or_gt_of_ne hk with h | h
      · have h8 : (k + 1) * u.sz ≤ n.toNat * u.sz := Nat.mul_le_mul_right _ (by omega)
        rw [Nat.add_mul, Nat.one_mul] at h8
        exact hlo _ (by omega)
      · have h8 : (n.toNat + 1) * u.sz ≤ k * u.sz := Nat.mul_le_mul_right _ (by omega)
        exact hhi _ (by omega)

/-- Appending to a row that is the call's alone. -/
theorem aappR_sound (hT : TOK P T) {xs : Array Operand} {t t' : Nat} {x y : AV} {s s' : AS} {K : Act → World → Prop} {Q : Exit → Act → World → Prop} (hop : o.op = .call { callee := .builtin .append, args := xs, argTypes := #[t, t'] })
    (has : RelL w E [x, y] (xs.toList.map a.eval).toArray) (hd : E.dead = s.dead) (hi : Inv GL B0 ok0 w0 w E used) (hid : ¬ used id) (hf : RelL w E s.fr a.tmps) (hb : RelL w E s.bg bv)
    (h : aappR T id t t' x y o.dst s = some s') (hK : ∀ v w', Sim GL B0 ok0 w0 bv (fun i => used i ∨ i = id) s' (a.put o.dst v) w' → K (a.put o.dst v) w') : o.wp P a w K Q := by
  have hxs : xs.toList.length = 2 := by have := has.1; simpa using this
  obtain ⟨x', y', hx'⟩ : ∃ x' y', xs = #[x', y'] := by
    obtain ⟨l⟩ := xs
    match l, hxs with
    | [y, z], _ => exact ⟨y, z, rfl⟩
  subst hx'
  have hx : Rel w E x (a.eval x') := has.2 0 _ _ (by simp [lget]) (by simp)
  have hy : Rel w E y (a.eval y') := has.2 1 _ _ (by simp [lget]) (by simp)
  unfold aappR at h
  split at h
  · cases h
  rename_i htt
  have htt : t = t' := Decidable.byContradiction htt
  subst htt
  simp only [Option.bind_eq_some_iff] at h
  obtain ⟨i, hti, h⟩ := h
  split at h
  case h_2 => cases h
  rename_i e hk
  simp only [Option.bind_eq_some_iff] at h
  obtain ⟨j, htj, zs, hzs, h⟩ := h
  split at h
  · cases h
  rename_i hsz
  have hy' := (elems_le hzs w E _ hy).1
  have hti' := hT.facts hti
  have htj' := hT.facts htj
  split at h
  · split at h <;> cases h
    rename_i hfit
    have hnil : a.eval x' = .slice none 0 0 := by
      generalize a.eval x' = v at hx
      cases hx; rfl
    refine good_appendR (P := P) (id := id) (o := o) (a := a) (d := none) (ys := ([] : List j.ty.den)) hti' hk htj' (by omega) hop hnil (.inl ⟨rfl, rfl⟩) hy' hfit hi hid K Q fun v w' E' hE m hinv hrel => hK v w' ⟨E', hE.trans hd, hinv, ?_, ?_⟩
    · exact ((hf.killO none).mono m).put (by simpa using hrel)
    · exact (hb.killO none).mono m
  · rename_i d e' u ys
    split at h
    · cases h
    rename_i hde
    simp only [Option.bind_eq_some_iff] at h
    obtain ⟨ys', hys', h⟩ := h
    split at h <;> cases h
    rename_i hfit
    obtain ⟨eu, ey⟩ := cast_eq hys'
    subst eu
    subst ey
    have he : e' = e := Decidable.byContradiction hde
    subst he
    refine good_appendR (P := P) (id := id) (o := o) (a := a) (d := some d) (ys := ys') hti' hk htj' (by omega) hop rfl (.inr ⟨d, rfl, hx⟩) hy' hfit hi hid K Q fun v w' E' hE m hinv hrel => hK v w' ⟨E', hE.trans hd, hinv, ?_, ?_⟩
    · exact ((hf.killO (some d)).mono m).put hrel
    · exact (hb.killO (some d)).mono m
  · cases h

/-- An operation that writes, or whose row is the call's alone. -/
theorem aeff_sound (hT : TOK P T) (hI : IOK P GL I) {lim : Nat} {s s' : AS} {K : Act → World → Prop} {Q : Exit → Act → World → Prop} (hd : E.dead = s.dead) (hi : Inv GL B0 ok0 w0 w E used) (hid : ¬ used id) (hlim : ∀ i, used i → i < max s.next lim) (hf : RelL w E s.fr a.tmps) (hb : RelL w E s.bg bv)
    (h : aeff T I lim id o s = some s') : s.next ≤ s'.next ∧ ((∀ v w', Sim GL B0 ok0 w0 bv (fun i => used i ∨ i = id ∨ (lim ≤ i ∧ i < s'.next)) s' (a.put o.dst v) w' → K (a.put o.dst v) w') → o.wp P a w K Q) := by
  unfold aeff at h
  split at h
  · rename_i t l c hop
    simp only [Option.bind_eq_some_iff] at h
    obtain ⟨i, hti, h⟩ := h
    split at h
    case h_2 => cases h
    rename_i e hk
    simp only [Option.bind_eq_some_iff] at h
    obtain ⟨j, htj, l', hl, c', hc, h⟩ := h
    have hlr := aget_rel hf hl
    have hcr := aget_rel hf hc
    split at h
    case h_2 => cases h
    generalize hlv : a.eval l = lv at hlr
    generalize hcv : a.eval c = cv at hcr
    cases hlr
    cases hcr
    simp only [Option.bind_eq_some_iff] at h
    obtain ⟨z, hz, h⟩ := h
    split at h <;> cases h
    rename_i hbb
    refine ⟨Nat.le_refl _, fun hK => good_makeR (hT.facts hti) hk (hT.facts htj) hop hlv hcv hz hbb hi hid K Q fun v w' E' hE m hinv hrel => hK v w' ⟨E', hE.trans hd, hinv.mono fun i h => h.elim .inl fun h => .inr (.inl h), ?_, hb.mono m⟩⟩
    exact (hf.mono m).put hrel
  · rename_i c hop
    obtain ⟨cal, xs, ts⟩ := c
    split at h
    · rename_i hcal
      subst hcal
      simp only [Option.bind_eq_some_iff] at h
      obtain ⟨as, has, h⟩ := h
      split at h
      case h_2 => cases h
      rename_i hts
      rename_i t t' x y
      have e1 : ts = #[t, t'] := by apply Array.ext'; simpa using hts
      subst e1
      have hn : s'.next = s.next := by
        unfold aappR at h
        split at h
        · cases h
        simp only [Option.bind_eq_some_iff] at h
        obtain ⟨i, hti, h⟩ := h
        split at h
        case h_2 => cases h
        simp only [Option.bind_eq_some_iff] at h
        obtain ⟨j, htj, zs, hzs, h⟩ := h
        split at h
        · cases h
        split at h
        · split at h <;> cases h
          rfl
        · split at h
          · cases h
          simp only [Option.bind_eq_some_iff] at h
          obtain ⟨ys', hys', h⟩ := h
          split at h <;> cases h
          rfl
        · cases h
      exact ⟨Nat.le_of_eq hn.symm, fun hK => aappR_sound hT hop (agets_rel hf has) hd hi hid hf hb h fun v w' ⟨E', h1, h2, h3, h4⟩ => hK v w' ⟨E', h1, h2.mono fun i h => h.elim .inl fun h => .inr (.inl h), h3, h4⟩⟩
    · rename_i f hcal
      subst hcal
      simp only [Option.bind_eq_some_iff] at h
      obtain ⟨g, hg, as, has, h⟩ := h
      split at h
      case h_2 => cases h
      rename_i q caps
      simp only [Option.bind_eq_some_iff] at h
      obtain ⟨⟨r, s1⟩, hr, h⟩ := h
      cases h
      obtain ⟨hn, hspec⟩ := hI _ _ _ _ _ hr
      simp only at hn
      refine ⟨Nat.le_trans (Nat.le_max_left _ _) hn, fun hK => ?_⟩
      have hgr := aget_rel hf hg
      generalize hfv : a.eval f = fv at hgr
      cases hgr with
      | fn _ _ _ cvs hs hc =>
      have hcaps : RelL w E caps cvs := ⟨hs, hc⟩
      have hall := (agets_rel hf has).append hcaps
      obtain ⟨hent, hcalls⟩ := hspec B0 ok0 w0 used w E _ a.tmps bv hd hi hlim hall hf hb
      have hr0 : (execOp a.eval o).run P w = (callFunc q ((xs.toList.map a.eval).toArray ++ cvs)).run P w := by
        simp only [execOp, hop, resolve, hfv, Sem.run_bind]
        have : (Deferred.ofValue (.func (.func q) #[] cvs) (xs.map a.eval)).run P w = .ok { target := .fn (.func q) cvs, args := xs.map a.eval } w := by
          simp [Deferred.ofValue]
        rw [this]
        simp only [Result.andThen_ok, invoke]
        have e : xs.map a.eval ++ cvs = (xs.toList.map a.eval).toArray ++ cvs := by congr 1; apply Array.ext'; simp
        rw [e]
      unfold Oper.wp
      rw [hr0, hent, Oper.upon_enter]
      refine hcalls.mono fun e w' h => ?_
      obtain ⟨v, E', rfl, hE, hinv, hrel, hfr, hbg⟩ := h
      refine hK v w' ⟨E', hE, hinv.mono fun i h => ?_, hfr.put hrel, hbg⟩
      rcases h with h | ⟨h1, h2⟩
      · exact .inl h
      · exact .inr (.inr ⟨Nat.le_trans (Nat.le_max_right _ _) h1, h2⟩)
    · cases h
  · cases h

/-- One operation. -/
theorem astep_sound (hT : TOK P T) (hO : OOK P GL O) (hI : IOK P GL I) {ops : Array Oper} {lim i : Nat} {s s' : AS} {Q : Exit → Act → World → Prop} {K : Act → World → Prop} (hs : Sim GL B0 ok0 w0 bv used s a w) (hid : ¬ used id) (hlim : ∀ i, used i → i < max s.next lim) (ho : ops[i]? = some o)
    (h : astep T O X I ops.toList lim id o s = some s') : s.next ≤ s'.next ∧ ((∀ a' w', Sim GL B0 ok0 w0 bv (fun i => used i ∨ i = id ∨ (lim ≤ i ∧ i < s'.next)) s' a' w' → a'.defers = a.defers → K a' w') → wpOp P ops Q i K a w) := by
  obtain ⟨E, hd, hi, hf, hbg⟩ := hs
  unfold wpOp
  rw [ho]
  simp only [astep, Option.bind_eq_some_iff] at h
  obtain ⟨b, hb, h⟩ := h
  simp only [awanted_sound hf hb]
  have hput : ∀ (d : Option Nat) (v : Value), (a.put d v).defers = a.defers := by
    intro d v
    cases d <;> rfl
  have weak : ∀ {E : Env} {w : World} {n : Nat}, Inv GL B0 ok0 w0 w E (fun i => used i ∨ i = id) → Inv GL B0 ok0 w0 w E (fun i => used i ∨ i = id ∨ (lim ≤ i ∧ i < n)) := fun h => h.mono fun i h => h.elim .inl fun h => .inr (.inl h)
  split at h
  · rename_i hfalse
    subst hfalse
    cases h
    refine ⟨Nat.le_refl _, fun hK => ?_⟩
    simp only [Bool.false_eq_true, if_false]
    exact hK _ _ ⟨E, hd, weak (hi.mono fun i h => .inl h), hf.put (.tup _ _ _ rfl fun i a v h => by simp [lget] at h), hbg⟩ (hput _ _)
  · rename_i hne
    have hbt : b = true := by simpa using hne
    simp only [hbt, if_true]
    split at h
    · obtain ⟨h1, h2⟩ := aeff_sound (K := K) (Q := Q) hT hI hd hi hid hlim hf hbg h
      exact ⟨h1, fun hK => .inl (h2 fun v w' hs => hK _ _ hs (hput _ _))⟩
    · split at h
      · rename_i t x y hop
        split at h
        · cases h
        rename_i hdst
        have hdst : o.dst = none := by
          cases hh : o.dst
          · rfl
          · simp [hh] at hdst
        simp only [Option.bind_eq_some_iff] at h
        obtain ⟨ti, hti, p, hp, v, hv, h⟩ := h
        split at h
        · rename_i q off cs
          split at h
          · cases h
          rename_i hcond
          cases h
          have h1 : ocells v.cells = true := by
            cases hh : ocells v.cells
            · exact absurd (.inl hh) hcond
            · rfl
          have h2 : ocells cs = true := by
            cases hh : ocells cs
            · exact absurd (.inr (.inl hh)) hcond
            · rfl
          have h3 : v.cells.length = ti.sz := Decidable.byContradiction fun hh => hcond (.inr (.inr (.inl hh)))
          have h4 : off + ti.sz ≤ cs.length := Decidable.byContradiction fun hh => hcond (.inr (.inr (.inr (by omega))))
          obtain ⟨w', hr, hi', hf'⟩ := sim_store hT hti (aget_rel hf hp) (aget_rel hf hv) h1 h2 h3 h4 hi
          have hrun : (execOp a.eval o).run P w = .ok .skip w' := by
            simp [execOp, hop, hr]
          refine ⟨Nat.le_refl _, fun hK => .inl ?_⟩
          unfold Oper.wp
          rw [hrun, Oper.upon_skip, hdst]
          exact hK _ _ ⟨E, hd, weak (hi'.mono fun i h => .inl h), hf' _ _ hf, hf' _ _ hbg⟩ rfl
        · rename_i q e u xs n off
          split at h
          · cases h
          rename_i hcond
          have h1 : ocells v.cells = true := by
            cases hh : ocells v.cells
            · exact absurd (.inl hh) hcond
            · rfl
          have h3 : v.cells.length = ti.sz := Decidable.byContradiction fun hh => hcond (.inr hh)
          simp only [Option.bind_eq_some_iff] at h
          obtain ⟨z, hz, z', hz', h⟩ := h
          cases h
          obtain ⟨w', hr, hi', hf'⟩ := sim_store_rel hT hti (aget_rel hf hp) (aget_rel hf hv) h1 h3 hz hz' hi
          have hrun : (execOp a.eval o).run P w = .ok .skip w' := by
            simp [execOp, hop, hr]
          refine ⟨Nat.le_refl _, fun hK => .inl ?_⟩
          unfold Oper.wp
          rw [hrun, Oper.upon_skip, hdst]
          exact hK _ _ ⟨E, hd, weak (hi'.mono fun i h => .inl h), hf' _ _ hf, hf' _ _ hbg⟩ rfl
        · cases h
      · simp only [Option.bind_eq_some_iff] at h
        obtain ⟨r, hr, d, hk, h⟩ := h
        cases h
        rw [← hd] at hk
        refine ⟨Nat.le_refl _, fun hK => .inl (aval_sound hT hO hf hi hid hr hk K Q fun v w' E' hE' m hinv hrel => ?_)⟩
        exact hK _ _ ⟨E', hE', weak hinv, (hf.mono m).put hrel, hbg.mono m⟩ (hput _ _)
end
end Go.Ai

set_option linter.unusedSimpArgs false
set_option linter.unusedVariables false
namespace Go.Ai
open Go Go.RowKit
section
variable {T : Nat → Option TI} {O : Nat → List AV → Option AV} {X : Oper → Bool} {I : Nat → List AV → AS → Option (AV × AS)} {lim : Nat} {ops : List Oper} {id id' : Nat} {o x y : Oper}

theorem agets_congr {fr fr' : List AV} : ∀ {xs : List Operand}, (∀ x ∈ xs, aget fr x = aget fr' x) → agets fr xs = agets fr' xs
  | [], _ => rfl
  | x :: l, h => by
    simp only [agets]
    rw [h x (by simp), agets_congr (xs := l) fun y hy => h y (by simp [hy])]

theorem aparts_congr {fr fr' : List AV} : ∀ {xs : List (Nat × Operand)}, (∀ x ∈ xs, aget fr x.2 = aget fr' x.2) → aparts fr xs = aparts fr' xs
  | [], _ => rfl
  | (i, x) :: l, h => by
    simp only [aparts]
    rw [h (i, x) (by simp), aparts_congr (xs := l) fun y hy => h y (by simp [hy])]

theorem agetO_congr {fr fr' : List AV} {x : Option Operand} (h : ∀ y, x = some y → aget fr y = aget fr' y) : agetO fr x = agetO fr' x := by
  cases x with
  | none => rfl
  | some y => simp only [agetO]; rw [h y rfl]

theorem aval_congr {fr fr' : List AV} (h : ∀ x ∈ o.op.operands.toList, aget fr x = aget fr' x) : aval T O id o fr = aval T O id o fr' := by
  obtain ⟨dst, op, type, pos, after, guard⟩ := o
  cases op <;> simp only [Op.operands] at h <;> simp only [aval]
  case move x => rw [h x (by simp)]
  case assign x => rw [h x (by simp)]
  case pick c a b => rw [h c (by simp), h a (by simp), h b (by simp)]
  case box t x => rw [h x (by simp)]
  case load t x => rw [h x (by simp)]
  case nilCheck x => rw [h x (by simp)]
  case unOp op t x => cases op <;> simp only [aval] <;> rw [h x (by simp)]
  case convert s t x => rw [h x (by simp)]
  case fieldAddr t x f => rw [h x (by simp)]
  case field t x f => rw [h x (by simp)]
  case extract x i => rw [h x (by simp)]
  case build t ps => rw [aparts_congr fun p hp => h p.2 (by simp; exact ⟨p.1, by simpa using hp⟩)]
  case buildSlice t n ps => rw [aparts_congr fun p hp => h p.2 (by simp; exact ⟨p.1, by simpa using hp⟩)]
  case binOp op t x y t' => rw [h x (by simp), h y (by simp)]
  case indexAddr t x y => rw [h x (by simp), h y (by simp)]
  case index t x y => rw [h x (by simp), h y (by simp)]
  case makeSlice t x y => rw [h x (by simp), h y (by simp)]
  case makeFunc fn first caps =>
    cases fn <;> simp only [aval]
    rw [agets_congr fun x hx => h x (by simp [Array.mem_toList_iff.1 hx])]
  case slice t x lo hi mx =>
    rw [h x (by simp), agetO_congr (x := lo) fun y e => h y (by simp [e]), agetO_congr (x := hi) fun y e => h y (by simp [e]), agetO_congr (x := mx) fun y e => h y (by simp [e])]
  case call c =>
    obtain ⟨cal, xs, ts⟩ := c
    have hx : agets fr xs.toList = agets fr' xs.toList := agets_congr fun x hx => h x (by simp [Call.operands]; exact .inr (by simpa using hx))
    cases cal <;> simp only [hx]
    rename_i f
    rw [h f (by simp [Call.operands])]

/-- An operation that stores nothing. -/
def astepV (T : Nat → Option TI) (O : Nat → List AV → Option AV) (ops : List Oper) (id : Nat) (o : Oper) (fr : List AV) : Option (AV × Option Nat) :=
  (awanted ops o fr).bind fun b => if b = false then some (.tup [], none) else aval T O id o fr

theorem astep_form (hl : local? X o = true) (s : AS) : astep T O X I ops lim id o s = (astepV T O ops id o s.fr).bind fun r => (akill r.2 s.dead).bind fun d => some { s with fr := aput s.fr o.dst r.1, dead := d } := by
  unfold astep astepV
  cases hw : awanted ops o s.fr with
  | none => rfl
  | some b =>
    simp only [Option.bind_some]
    cases b with
    | false => simp [akill]
    | true =>
      have hx : X o = false := by
        cases hx : X o
        · rfl
        · simp [local?, hx] at hl
      simp only [Bool.true_eq_false, if_false, hx, Bool.false_eq_true]
      split
      · rename_i h
        simp [local?, h] at hl
      · rfl

theorem aget_put {fr : List AV} {d : Option Nat} {v : AV} {x : Operand} (h : ∀ t, d = some t → x ≠ .tmp t) : aget (aput fr d v) x = aget fr x := by
  cases d with
  | none => rfl
  | some d =>
    cases x with
    | tmp t =>
      have hne : d ≠ t := fun e => h d rfl (by rw [e])
      simp [aget, aput, lget_eq, lset_eq, List.getElem?_set_ne hne]
    | _ => rfl

theorem astepV_put {fr : List AV} {d : Option Nat} {v : AV} (ops' : Array Oper) (hops : ops = ops'.toList) (h : ∀ t, d = some t → t ∉ o.looksAt ops') : astepV T O ops id o (aput fr d v) = astepV T O ops id o fr := by
  have h1 : awanted ops o (aput fr d v) = awanted ops o fr := by
    unfold awanted
    cases hg : o.guard with
    | none => rfl
    | some g =>
      obtain ⟨j, want⟩ := g
      simp only
      cases hp : lget ops j with
      | none => rfl
      | some p =>
        simp only [Option.bind_some]
        cases hd : p.dst with
        | none => rfl
        | some t =>
          simp only [Option.bind_some]
          have : lget (aput fr d v) t = lget fr t := by
            have := aget_put (fr := fr) (d := d) (v := v) (x := .tmp t) (fun t' e => by
              rintro e2
              injection e2 with e2
              subst e2
              refine h _ e ?_
              simp only [Oper.looksAt, hg, List.mem_append]
              refine .inr ?_
              have : ops'[j]? = some p := by rw [lget_eq, hops] at hp; simpa using hp
              simp [this, hd])
            simpa [aget] using this
          rw [this]
  have h2 : aval T O id o (aput fr d v) = aval T O id o fr := by
    apply aval_congr
    intro x hx
    refine aget_put fun t e e2 => h t e ?_
    subst e2
    simp only [Oper.looksAt, List.mem_append]
    exact .inl (List.mem_filterMap.2 ⟨.tmp t, hx, rfl⟩)
  unfold astepV
  rw [h1, h2]

theorem akill_comm (a b : Option Nat) (d : Nat → Bool) : ((akill a d).bind fun d => akill b d) = (akill b d).bind fun d => akill a d := by
  cases a with
  | none =>
    show akill b d = _
    cases akill b d <;> rfl
  | some i =>
  cases b with
  | none =>
    show _ = akill (some i) d
    cases akill (some i) d <;> rfl
  | some j =>
  by_cases hi : d i = true <;> by_cases hj : d j = true <;> by_cases e : i = j
  all_goals first | (subst e; simp [akill, hi]; done) | (simp [akill, hi, hj, e, Ne.symm e]; done) | simp [akill, hi, hj, e, Ne.symm e]
  funext q
  by_cases h1 : q = i <;> by_cases h2 : q = j <;> simp [h1, h2]

theorem aput_comm (fr : List AV) {x y : Option Nat} (v u : AV) (h : ∀ d, x = some d → y ≠ some d) : aput (aput fr x v) y u = aput (aput fr y u) x v := by
  cases x with
  | none => rfl
  | some d =>
    cases y with
    | none => rfl
    | some e =>
      have hne : d ≠ e := fun he => h d rfl (he ▸ rfl)
      simp [aput, lset_eq, List.set_comm _ _ hne]

/-- Two operations that do not meet may change places. -/
theorem astep_comm (ops' : Array Oper) (hops : ops = ops'.toList) (hx : local? X x = true) (hy : local? X y = true) (ha : x.apart ops' y = true) (s : AS) :
    ((astep T O X I ops lim id x s).bind fun s => astep T O X I ops lim id' y s) = (astep T O X I ops lim id' y s).bind fun s => astep T O X I ops lim id x s := by
  obtain ⟨h1, h2, h3⟩ := Oper.apart_spec ha
  have e1 : ∀ s : AS, astep T O X I ops lim id x s = (astepV T O ops id x s.fr).bind fun r => (akill r.2 s.dead).bind fun d => some { s with fr := aput s.fr x.dst r.1, dead := d } := astep_form hx
  have e2 : ∀ s : AS, astep T O X I ops lim id' y s = (astepV T O ops id' y s.fr).bind fun r => (akill r.2 s.dead).bind fun d => some { s with fr := aput s.fr y.dst r.1, dead := d } := astep_form hy
  simp only [e1, e2]
  simp only [Option.bind_assoc, Option.bind_some, Option.bind_fun_some]
  have f1 : ∀ v, astepV T O ops id x (aput s.fr y.dst v) = astepV T O ops id x s.fr := fun v => astepV_put ops' hops fun t e => h3 t e
  have f2 : ∀ v, astepV T O ops id' y (aput s.fr x.dst v) = astepV T O ops id' y s.fr := fun v => astepV_put ops' hops fun t e => h1 t e
  simp only [f1, f2]
  cases hA : astepV T O ops id x s.fr with
  | none => cases astepV T O ops id' y s.fr <;> simp
  | some r =>
    cases hB : astepV T O ops id' y s.fr with
    | none => simp
    | some q =>
      simp only [Option.bind_some]
      have hk := akill_comm r.2 q.2 s.dead
      cases hr : akill r.2 s.dead with
      | none =>
        rw [hr] at hk
        cases hq : akill q.2 s.dead with
        | none => rfl
        | some d2 =>
          rw [hq] at hk
          simp only [Option.bind_some, Option.bind_none] at hk ⊢
          rw [← hk]; rfl
      | some d1 =>
        rw [hr] at hk
        cases hq : akill q.2 s.dead with
        | none =>
          rw [hq] at hk
          simp only [Option.bind_some, Option.bind_none] at hk ⊢
          rw [hk]; rfl
        | some d2 =>
          rw [hq] at hk
          simp only [Option.bind_some] at hk ⊢
          rw [hk]
          cases akill r.2 d2 with
          | none => rfl
          | some d3 => simp only [Option.bind_some]; rw [aput_comm _ _ _ fun d e => h2 d e]

/-! ### A store, and what does not look at memory -/
structure Tame (f : AV → AV) : Prop where
  int : ∀ k n, f (.int k n) = .int k n
  bool : ∀ b, f (.bool b) = .bool b
  str : ∀ s, f (.str s) = .str s
  snil : f .snil = .snil
  bot : f .bot = .bot
  fn : ∀ g, f (.fn g []) = .fn g []
  kint : ∀ a k n, f a = .int k n → a = .int k n
  kbool : ∀ a b, f a = .bool b → a = .bool b
  kstr : ∀ a s, f a = .str s → a = .str s
  tup : ∀ vs, f (.tup vs) = .tup (vs.map f)
  ktup : ∀ a vs, f a = .tup vs → ∃ us, a = .tup us

theorem updL_map (q : Nat) (new : List AV) : ∀ l, updL q new l = l.map (AV.upd q new)
  | [] => rfl
  | a :: l => by simp [updL, updL_map q new l]
theorem stL_map (q : Nat) (u : Ty) (n : Nat) (z : u.den) : ∀ l, stL q u n z l = l.map (AV.st q u n z)
  | [] => rfl
  | a :: l => by simp [stL, stL_map q u n z l]

theorem tame_upd (q : Nat) (new : List AV) : Tame (AV.upd q new) := by
  refine ⟨fun _ _ => rfl, fun _ => rfl, fun _ => rfl, rfl, rfl, fun _ => rfl, fun a k n h => ?_, fun a b h => ?_, fun a s h => ?_, fun vs => by simp only [AV.upd, updL_map], fun a vs h => ?_⟩ <;> cases a <;> simp only [AV.upd] at h <;> (try split at h) <;> (try cases h) <;> first | rfl | exact ⟨_, rfl⟩
theorem tame_st (q : Nat) (u : Ty) (n : Nat) (z : u.den) : Tame (AV.st q u n z) := by
  refine ⟨fun _ _ => rfl, fun _ => rfl, fun _ => rfl, rfl, rfl, fun _ => rfl, fun a k n h => ?_, fun a b h => ?_, fun a s h => ?_, fun vs => by simp only [AV.st, stL_map], fun a vs h => ?_⟩ <;> cases a <;> simp only [AV.st] at h <;> (try split at h) <;> (try split at h) <;> (try cases h) <;> first | rfl | exact ⟨_, rfl⟩

/-- What a store does to the values. -/
def sto (T : Nat → Option TI) (o : Oper) (fr : List AV) : Option (AV → AV) :=
  match o.op with
  | .store t x y => if o.dst.isSome = true then none else (T t).bind fun ti => (aget fr x).bind fun p => (aget fr y).bind fun v => match p with
    | .box id off cs => if ocells v.cells = false ∨ ocells cs = false ∨ v.cells.length ≠ ti.sz ∨ off + ti.sz > cs.length then none else some (AV.upd id (cs.take off ++ v.cells ++ cs.drop (off + ti.sz)))
    | .rel q e u xs n off => if ocells v.cells = false ∨ v.cells.length ≠ ti.sz then none else (listAt xs n).bind fun z => (splice u z off v.cells).bind fun z' => some (AV.st q u n.toNat z')
    | _ => none
  | _ => none

theorem sto_tame {fr : List AV} {f : AV → AV} (h : sto T o fr = some f) : Tame f := by
  unfold sto at h
  split at h
  case h_2 => cases h
  split at h
  · cases h
  simp only [Option.bind_eq_some_iff] at h
  obtain ⟨ti, _, p, _, v, _, h⟩ := h
  split at h
  · split at h <;> cases h
    exact tame_upd _ _
  · split at h
    · cases h
    simp only [Option.bind_eq_some_iff] at h
    obtain ⟨z, _, z', _, h⟩ := h
    cases h
    exact tame_st _ _ _ _
  · cases h

theorem astep_still (hx : still? X o = true) (s : AS) : astep T O X I ops lim id o s = (sto T o s.fr).bind fun f => some { s with fr := s.fr.map f, bg := s.bg.map f } := by
  unfold still? at hx
  simp only [Bool.and_eq_true, Bool.not_eq_true'] at hx
  obtain ⟨⟨h1, h2⟩, h3⟩ := hx
  have hg : o.guard = none := by cases hh : o.guard with | none => rfl | some _ => rw [hh] at h2; cases h2
  unfold astep awanted sto
  rw [hg]
  simp only [Option.bind_some, Bool.true_eq_false, if_false, h1, Bool.false_eq_true]
  cases hop : o.op <;> rw [hop] at h3 <;> (try cases h3)
  rename_i t x y
  simp only
  split
  · rfl
  cases T t with
  | none => rfl
  | some ti =>
    cases aget s.fr x with
    | none => rfl
    | some p =>
      cases aget s.fr y with
      | none => rfl
      | some v =>
        simp only [Option.bind_some]
        cases p with
        | box q off cs => simp only [updL_map]; split <;> rfl
        | rel q e u xs n off =>
          simp only [stL_map]
          split
          · rfl
          · cases listAt xs n with
            | none => rfl
            | some z =>
              simp only [Option.bind_some]
              cases splice u z off v.cells <;> rfl
        | _ => rfl

/-- What such an operation gives. -/
def pv (T : Nat → Option TI) (o : Oper) (fr : List AV) : Option AV :=
  match o.op with
  | .move x => aget fr x
  | .assign x => aget fr x
  | .binOp op t x y _ => (aget fr x).bind fun a => (aget fr y).bind fun b => abinT T op t a b
  | .extract x ix => (aget fr x).bind fun a => match a with
    | .tup vs => lget vs ix
    | _ => none
  | _ => none

theorem astep_plain (hx : plain? X o = true) (s : AS) : astep T O X I ops lim id o s = (pv T o s.fr).bind fun v => some { s with fr := aput s.fr o.dst v } := by
  unfold plain? at hx
  simp only [Bool.and_eq_true, Bool.not_eq_true'] at hx
  obtain ⟨⟨h1, h2⟩, h3⟩ := hx
  have hg : o.guard = none := by cases hh : o.guard with | none => rfl | some _ => rw [hh] at h2; cases h2
  unfold astep awanted pv
  rw [hg]
  simp only [Option.bind_some, Bool.true_eq_false, if_false, h1, Bool.false_eq_true]
  cases hop : o.op <;> rw [hop] at h3 <;> (try cases h3) <;> simp only [aval, hop]
  · rename_i x
    cases aget s.fr x <;> simp [akill]
  · rename_i x
    cases aget s.fr x <;> simp [akill]
  · rename_i op t x y t'
    cases aget s.fr x with
    | none => rfl
    | some a =>
      cases aget s.fr y with
      | none => rfl
      | some b =>
        simp only [Option.bind_some]
        cases abinT T op t a b <;> simp [akill]
  · rename_i x ix
    cases aget s.fr x with
    | none => rfl
    | some a =>
      simp only [Option.bind_some]
      cases a <;> (try rfl)
      rename_i vs
      simp only
      cases lget vs ix <;> simp [akill]

theorem aget_map {f : AV → AV} (hf : Tame f) (fr : List AV) (x : Operand) : aget (fr.map f) x = (aget fr x).map f := by
  cases x with
  | tmp t => simp [aget, lget_eq]
  | const v =>
    simp only [aget]
    unfold aconst
    split <;> simp [hf.int, hf.bool, hf.str, hf.snil, hf.bot]
  | global g => rfl
  | func g => simp [aget, hf.fn]

theorem abinT_tame {f : AV → AV} (hf : Tame f) (op : BinOp) (t : TypeId) (a b : AV) : abinT T op t (f a) (f b) = (abinT T op t a b).map f := by
  have key : ∀ c, abinT T op t a b = some c → f c = c := by
    intro c hc
    unfold abinT at hc
    split at hc
    · simp only [Option.bind_eq_some_iff] at hc
      obtain ⟨i, _, hc⟩ := hc
      split at hc <;> cases hc <;> exact hf.bool _
    · unfold abin at hc
      split at hc
      · split at hc
        · split at hc <;> cases hc
          exact hf.int _ _
        · split at hc <;> cases hc
          exact hf.int _ _
        · split at hc
          case isFalse => cases hc
          unfold aint at hc
          split at hc <;> (try split at hc) <;> (try cases hc) <;> first | exact hf.int _ _ | exact hf.bool _
      · split at hc <;> (try split at hc) <;> (try cases hc) <;> first | exact hf.str _ | exact hf.bool _
      · cases hc
  have e : abinT T op t (f a) (f b) = abinT T op t a b := by
    have h0 : ∀ x : AV, f x = x ∨ ((∀ k n, f x ≠ .int k n) ∧ (∀ c, f x ≠ .bool c) ∧ (∀ s, f x ≠ .str s) ∧ (∀ k n, x ≠ .int k n) ∧ (∀ c, x ≠ .bool c) ∧ (∀ s, x ≠ .str s)) := by
      intro x
      by_cases h : f x = x
      · exact .inl h
      · refine .inr ⟨fun k n e => h (by rw [e, hf.kint x k n e]), fun c e => h (by rw [e, hf.kbool x c e]), fun s e => h (by rw [e, hf.kstr x s e]), fun k n e => h (by rw [e, hf.int]), fun c e => h (by rw [e, hf.bool]), fun s e => h (by rw [e, hf.str])⟩
    have hn1 : ∀ x y : AV, (∀ k n, x ≠ .int k n) → (∀ c, x ≠ .bool c) → (∀ s, x ≠ .str s) → abinT T op t x y = none := by
      intro x y h1 h2 h3
      cases x <;> first | exact absurd rfl (h1 _ _) | exact absurd rfl (h2 _) | exact absurd rfl (h3 _) | (cases y <;> rfl)
    have hn2 : ∀ x y : AV, (∀ k n, y ≠ .int k n) → (∀ c, y ≠ .bool c) → (∀ s, y ≠ .str s) → abinT T op t x y = none := by
      intro x y h1 h2 h3
      cases y <;> first | exact absurd rfl (h1 _ _) | exact absurd rfl (h2 _) | exact absurd rfl (h3 _) | (cases x <;> rfl)
    rcases h0 a with ha | ⟨a1, a2, a3, a4, a5, a6⟩
    · rcases h0 b with hb | ⟨b1, b2, b3, b4, b5, b6⟩
      · rw [ha, hb]
      · rw [hn2 _ _ b1 b2 b3, hn2 _ _ b4 b5 b6]
    · rw [hn1 _ _ a1 a2 a3, hn1 _ _ a4 a5 a6]
  rw [e]
  cases h : abinT T op t a b with
  | none => rfl
  | some c => simp [key c h]

theorem pv_map {f : AV → AV} (hf : Tame f) (fr : List AV) : pv T o (fr.map f) = (pv T o fr).map f := by
  unfold pv
  split
  · exact aget_map hf _ _
  · exact aget_map hf _ _
  · simp only [aget_map hf]
    rename_i op t x y t' _
    cases aget fr x with
    | none => rfl
    | some a =>
      cases aget fr y with
      | none => rfl
      | some b => simp only [Option.map_some, Option.bind_some]; exact abinT_tame hf op t a b
  · simp only [aget_map hf]
    rename_i x ix _
    cases aget fr x with
    | none => rfl
    | some a =>
      simp only [Option.map_some, Option.bind_some]
      cases h : f a with
      | tup ws =>
        obtain ⟨us, rfl⟩ := hf.ktup a ws h
        rw [hf.tup] at h
        cases h
        simp [lget_eq]
      | _ =>
        cases a <;> (try rfl)
        rw [hf.tup] at h
        cases h
  · rfl

theorem sto_put {fr : List AV} {d : Option Nat} {v : AV} (ops' : Array Oper) (h : ∀ t, d = some t → t ∉ o.looksAt ops') : sto T o (aput fr d v) = sto T o fr := by
  unfold sto
  split
  case h_2 => rfl
  rename_i t x y hop
  have hx : ∀ z : Operand, (z = x ∨ z = y) → aget (aput fr d v) z = aget fr z := by
    intro z hz
    refine aget_put fun t' e e2 => h t' e ?_
    subst e2
    simp only [Oper.looksAt, List.mem_append]
    refine .inl (List.mem_filterMap.2 ⟨.tmp t', ?_, rfl⟩)
    rw [hop]
    simp only [Op.operands]
    rcases hz with rfl | rfl <;> simp
  rw [hx x (.inl rfl), hx y (.inr rfl)]

theorem map_put {f : AV → AV} (fr : List AV) (d : Option Nat) (v : AV) : (aput fr d v).map f = aput (fr.map f) d (f v) := by
  cases d with
  | none => rfl
  | some d => simp [aput, lset_eq, List.map_set]

theorem still_plain (ops' : Array Oper) (hx : still? X x = true) (hy : plain? X y = true) (h : ∀ t, y.dst = some t → t ∉ x.looksAt ops') (s : AS) :
    ((astep T O X I ops lim id x s).bind fun s => astep T O X I ops lim id' y s) = (astep T O X I ops lim id' y s).bind fun s => astep T O X I ops lim id x s := by
  simp only [astep_still hx, astep_plain hy, Option.bind_assoc, Option.bind_some]
  have h1 : ∀ v, sto T x (aput s.fr y.dst v) = sto T x s.fr := fun v => sto_put ops' h
  simp only [h1]
  cases hs : sto T x s.fr with
  | none => cases pv T y s.fr <;> rfl
  | some f =>
    simp only [Option.bind_some]
    rw [pv_map (sto_tame hs)]
    cases pv T y s.fr with
    | none => rfl
    | some v => simp [map_put]

/-- Two operations that do not meet may change places. -/
theorem astep_comm' (ops' : Array Oper) (hops : ops = ops'.toList) (hk : (local? X x && local? X y || still? X x && plain? X y || plain? X x && still? X y) = true) (ha : x.apart ops' y = true) (s : AS) :
    ((astep T O X I ops lim id x s).bind fun s => astep T O X I ops lim id' y s) = (astep T O X I ops lim id' y s).bind fun s => astep T O X I ops lim id x s := by
  obtain ⟨h1, h2, h3⟩ := Oper.apart_spec ha
  simp only [Bool.or_eq_true, Bool.and_eq_true] at hk
  rcases hk with (⟨hx, hy⟩ | ⟨hx, hy⟩) | ⟨hx, hy⟩
  · exact astep_comm ops' hops hx hy ha s
  · exact still_plain ops' hx hy (fun t e => h3 t e) s
  · exact (still_plain ops' hy hx (fun t e => h1 t e) s).symm
end
end Go.Ai

set_option linter.unusedSimpArgs false
set_option linter.unusedVariables false
namespace Go.Ai
open Go Go.RowKit
section
variable {P : Program} {GL : World → Prop} {B0 : Nat} {ok0 : Bool → Nat → Nat → Prop} {w0 w : World} {a : Act} {Q : Exit → Act → World → Prop}
variable {T : Nat → Option TI} {O : Nat → List AV → Option AV} {X : Oper → Bool} {I : Nat → List AV → AS → Option (AV × AS)} {bv : Array Value} {ops : Array Oper} {base : Nat}

def stepIx (T : Nat → Option TI) (O : Nat → List AV → Option AV) (X : Oper → Bool) (I : Nat → List AV → AS → Option (AV × AS)) (ops : Array Oper) (base i : Nat) (s : AS) : Option AS :=
  match lget ops.toList i with
  | some o => astep T O X I ops.toList (base + ops.toList.length) (base + i) o s
  | none => some s

def runIx (T : Nat → Option TI) (O : Nat → List AV → Option AV) (X : Oper → Bool) (I : Nat → List AV → AS → Option (AV × AS)) (ops : Array Oper) (base : Nat) : List Nat → AS → Option AS
  | [], s => some s
  | i :: l, s => (stepIx T O X I ops base i s).bind fun s => runIx T O X I ops base l s

theorem asteps_runIx : ∀ (l : List Oper) (i : Nat) (s : AS), ops.toList.drop i = l → asteps T O X I ops.toList base i l s = runIx T O X I ops base (List.range' i l.length) s
  | [], i, s, h => rfl
  | o :: l, i, s, h => by
    have ho : lget ops.toList i = some o := by
      rw [lget_eq]
      have : (ops.toList.drop i)[0]? = some o := by rw [h]; rfl
      simpa using this
    have hl : ops.toList.drop (i + 1) = l := by
      have : (ops.toList.drop i).drop 1 = l := by rw [h]; rfl
      rw [← this, List.drop_drop]
    simp only [asteps, List.length_cons, List.range'_succ, runIx, stepIx, ho]
    congr 1
    funext s
    exact asteps_runIx l (i + 1) s hl

theorem Sim.mono {used used' : Nat → Prop} {s : AS} (h : Sim GL B0 ok0 w0 bv used s a w) (hu : ∀ i, used i → used' i) : Sim GL B0 ok0 w0 bv used' s a w :=
  let ⟨E, h1, h2, h3⟩ := h; ⟨E, h1, h2.mono hu, h3⟩

theorem aappR_next {T : Nat → Option TI} {id t t' : Nat} {x y : AV} {dst : Option Nat} {s s' : AS} (h : aappR T id t t' x y dst s = some s') : s'.next = s.next := by
  unfold aappR at h
  split at h
  · cases h
  simp only [Option.bind_eq_some_iff] at h
  obtain ⟨i, hti, h⟩ := h
  split at h
  case h_2 => cases h
  simp only [Option.bind_eq_some_iff] at h
  obtain ⟨j, htj, zs, hzs, h⟩ := h
  split at h
  · cases h
  split at h
  · split at h <;> cases h
    rfl
  · split at h
    · cases h
    simp only [Option.bind_eq_some_iff] at h
    obtain ⟨ys', hys', h⟩ := h
    split at h <;> cases h
    rfl
  · cases h

theorem aeff_next (hI : IOK P GL I) {lim id : Nat} {o : Oper} {s s' : AS} (h : aeff T I lim id o s = some s') : s.next ≤ s'.next := by
  unfold aeff at h
  split at h
  · simp only [Option.bind_eq_some_iff] at h
    obtain ⟨i, hti, h⟩ := h
    split at h
    case h_2 => cases h
    simp only [Option.bind_eq_some_iff] at h
    obtain ⟨j, htj, l', hl, c', hc, h⟩ := h
    split at h
    case h_2 => cases h
    simp only [Option.bind_eq_some_iff] at h
    obtain ⟨z, hz, h⟩ := h
    split at h <;> cases h
    exact Nat.le_refl _
  · split at h
    · simp only [Option.bind_eq_some_iff] at h
      obtain ⟨as, has, h⟩ := h
      split at h
      case h_2 => cases h
      exact Nat.le_of_eq (aappR_next h).symm
    · simp only [Option.bind_eq_some_iff] at h
      obtain ⟨g, hg, as, has, h⟩ := h
      split at h
      case h_2 => cases h
      simp only [Option.bind_eq_some_iff] at h
      obtain ⟨⟨r, s1⟩, hr, h⟩ := h
      cases h
      have := (hI _ _ _ _ _ hr).1
      simp only at this ⊢
      omega
    · cases h
  · cases h

theorem astep_next (hI : IOK P GL I) {ops : List Oper} {lim id : Nat} {o : Oper} {s s' : AS} (h : astep T O X I ops lim id o s = some s') : s.next ≤ s'.next := by
  simp only [astep, Option.bind_eq_some_iff] at h
  obtain ⟨b, hb, h⟩ := h
  split at h
  · cases h; exact Nat.le_refl _
  split at h
  · exact aeff_next hI h
  split at h
  · split at h
    · cases h
    simp only [Option.bind_eq_some_iff] at h
    obtain ⟨ti, hti, p, hp, v, hv, h⟩ := h
    split at h
    · split at h <;> cases h
      exact Nat.le_refl _
    · split at h
      · cases h
      simp only [Option.bind_eq_some_iff] at h
      obtain ⟨z, hz, z', hz', h⟩ := h
      cases h
      exact Nat.le_refl _
    · cases h
  · simp only [Option.bind_eq_some_iff] at h
    obtain ⟨r, hr, d, hk, h⟩ := h
    cases h
    exact Nat.le_refl _

theorem stepIx_next (hI : IOK P GL I) {i : Nat} {s s' : AS} (h : stepIx T O X I ops base i s = some s') : s.next ≤ s'.next := by
  unfold stepIx at h
  split at h
  · exact astep_next hI h
  · cases h; exact Nat.le_refl _

theorem runIx_next (hI : IOK P GL I) : ∀ (l : List Nat) (s s' : AS), runIx T O X I ops base l s = some s' → s.next ≤ s'.next
  | [], s, s', h => by cases h; exact Nat.le_refl _
  | i :: l, s, s', h => by
    simp only [runIx, Option.bind_eq_some_iff] at h
    obtain ⟨s1, h1, h2⟩ := h
    exact Nat.le_trans (stepIx_next hI h1) (runIx_next hI l s1 s' h2)

theorem stepIx_sound (hT : TOK P T) (hO : OOK P GL O) (hI : IOK P GL I) {i : Nat} {s s' : AS} {used : Nat → Prop} {K : Act → World → Prop} (hs : Sim GL B0 ok0 w0 bv used s a w) (hid : ¬ used (base + i)) (hlim : ∀ i, used i → i < max s.next (base + ops.size))
    (h : stepIx T O X I ops base i s = some s') : s.next ≤ s'.next ∧ ((∀ a' w', Sim GL B0 ok0 w0 bv (fun q => used q ∨ q = base + i ∨ (base + ops.size ≤ q ∧ q < s'.next)) s' a' w' → a'.defers = a.defers → K a' w') → wpOp P ops Q i K a w) := by
  unfold stepIx at h
  cases ho : ops[i]? with
  | none =>
    have : lget ops.toList i = none := by rw [lget_eq]; simpa using ho
    rw [this] at h
    cases h
    refine ⟨Nat.le_refl _, fun hK => ?_⟩
    unfold wpOp
    rw [ho]
    exact hK _ _ (hs.mono fun q h => .inl h) rfl
  | some o =>
    have : lget ops.toList i = some o := by rw [lget_eq]; simpa using ho
    rw [this] at h
    have hlen : ops.toList.length = ops.size := by simp
    simp only [hlen] at h
    exact astep_sound hT hO hI hs hid hlim ho h

theorem runIx_sound (hT : TOK P T) (hO : OOK P GL O) (hI : IOK P GL I) : ∀ (l : List Nat) (s s' : AS) (used : Nat → Prop) (a : Act) (w : World), l.Nodup → (∀ i ∈ l, i < ops.size) → (∀ i ∈ l, ¬ used (base + i)) → (∀ i, used i → i < max s.next (base + ops.size)) → Sim GL B0 ok0 w0 bv used s a w → runIx T O X I ops base l s = some s' →
    s.next ≤ s'.next ∧ ((∀ a' w', Sim GL B0 ok0 w0 bv (fun q => used q ∨ (∃ i ∈ l, q = base + i) ∨ (base + ops.size ≤ q ∧ q < s'.next)) s' a' w' → a'.defers = a.defers → Q .normal a' w') → wpOps P ops Q l a w)
  | [], s, s', used, a, w, _, _, _, _, hs, h => by
    cases h
    exact ⟨Nat.le_refl _, fun hK => hK a w (hs.mono fun q h => .inl h) rfl⟩
  | i :: l, s, s', used, a, w, hn, hb, hu, hlim, hs, h => by
    simp only [runIx, Option.bind_eq_some_iff] at h
    obtain ⟨s1, h1, h2⟩ := h
    have hib : i < ops.size := hb i (by simp)
    obtain ⟨hn1, hst⟩ := stepIx_sound (Q := Q) (K := fun a' w' => wpOps P ops Q l a' w') hT hO hI hs (hu i (by simp)) hlim h1
    have hlim' : ∀ q, (used q ∨ q = base + i ∨ (base + ops.size ≤ q ∧ q < s1.next)) → q < max s1.next (base + ops.size) := by
      rintro q (hq | hq | hq)
      · have := hlim q hq; omega
      · omega
      · omega
    have hu' : ∀ j ∈ l, ¬ (used (base + j) ∨ base + j = base + i ∨ (base + ops.size ≤ base + j ∧ base + j < s1.next)) := by
      rintro j hj (hx | hx | hx)
      · exact hu j (by simp [hj]) hx
      · have : j = i := by omega
        subst this
        exact (List.nodup_cons.1 hn).1 hj
      · have := hb j (by simp [hj]); omega
    have hmono : s1.next ≤ s'.next := by
      -- the rest leaves names alone, whatever the world
      exact runIx_next hI l s1 s' h2
    refine ⟨Nat.le_trans hn1 hmono, fun hK => ?_⟩
    rw [wpOps_cons]
    refine hst fun a' w' hs' hd => ?_
    refine (runIx_sound hT hO hI l s1 s' _ a' w' (List.nodup_cons.1 hn).2 (fun j hj => hb j (by simp [hj])) hu' hlim' hs' h2).2 fun a'' w'' hs'' hd' => hK a'' w'' (hs''.mono fun q hq => ?_) (hd'.trans hd)
    rcases hq with (hq | hq | hq) | ⟨j, hj, hq⟩ | hq
    · exact .inl hq
    · exact .inr (.inl ⟨i, by simp, hq⟩)
    · exact .inr (.inr ⟨hq.1, by omega⟩)
    · exact .inr (.inl ⟨j, by simp [hj], hq⟩)
    · exact .inr (.inr hq)

/-! ### An order that is drawn -/
def unl (listed : Array Bool) (n : Nat) : List Nat := (List.range n).filter fun i => !(listed.getD i false)

theorem runIx_front {i : Nat} : ∀ (l1 l2 : List Nat) (s : AS), (∀ j ∈ l1, ∀ s : AS, ((stepIx T O X I ops base j s).bind fun s => stepIx T O X I ops base i s) = (stepIx T O X I ops base i s).bind fun s => stepIx T O X I ops base j s) →
    runIx T O X I ops base (l1 ++ i :: l2) s = (stepIx T O X I ops base i s).bind fun s => runIx T O X I ops base (l1 ++ l2) s
  | [], l2, s, _ => rfl
  | j :: l1, l2, s, h => by
    simp only [List.cons_append, runIx]
    have ih := fun s => runIx_front l1 l2 s fun k hk => h k (by simp [hk])
    simp only [ih]
    have hc := h j (by simp) s
    rw [← Option.bind_assoc, hc, Option.bind_assoc]

theorem befB_listed {listed : Array Bool} (hdown : ∀ k o, listed.getD k false = true → lget ops.toList k = some o → ∀ e ∈ o.after, Region.binds .any e = true → listed.getD e.on false = true) :
    ∀ (f j k : Nat), (listed.getD k false = true ∨ ∀ o, lget ops.toList k = some o → ∀ e ∈ o.after, Region.binds .any e = true → listed.getD e.on false = true) → befB ops.toList f j k = true → listed.getD j false = true
  | 0, j, k, _, h => by simp [befB] at h
  | f + 1, j, k, hk, h => by
    have hk' : ∀ o, lget ops.toList k = some o → ∀ e ∈ o.after, Region.binds .any e = true → listed.getD e.on false = true := by
      rcases hk with hk | hk
      · exact fun o ho => hdown k o hk ho
      · exact hk
    simp only [befB, Bool.or_eq_true, edge] at h
    cases ho : lget ops.toList k with
    | none => simp [ho] at h
    | some o =>
      simp only [ho, Option.map_some, Option.getD_some] at h
      rcases h with h | h
      · obtain ⟨i, hi, h⟩ := Array.any_eq_true.1 h
        simp only [Bool.and_eq_true, beq_iff_eq] at h
        rw [← h.2]
        exact hk' o ho _ (Array.getElem_mem hi) h.1
      · obtain ⟨i, hi, h⟩ := Array.any_eq_true.1 h
        simp only [Bool.and_eq_true] at h
        exact befB_listed hdown f j _ (.inl (hk' o ho _ (Array.getElem_mem hi) h.1)) h.2

theorem wpAny_runIx (hT : TOK P T) (hO : OOK P GL O) (hI : IOK P GL I) (hok : drawOK X ops.toList = true) {U0 : Nat → Prop} (hU0 : ∀ q, U0 q → q < base) : ∀ (fuel : Nat) (listed : Array Bool) (s s' : AS) (a : Act) (w : World), listed.size = ops.size → (unl listed ops.size).length = fuel →
    (∀ k o, listed.getD k false = true → lget ops.toList k = some o → ∀ e ∈ o.after, Region.binds .any e = true → listed.getD e.on false = true) →
    Sim GL B0 ok0 w0 bv (fun q => U0 q ∨ (∃ i, listed.getD i false = true ∧ q = base + i) ∨ (base + ops.size ≤ q ∧ q < s.next)) s a w → runIx T O X I ops base (unl listed ops.size) s = some s' →
    (∀ a' w', Sim GL B0 ok0 w0 bv (fun q => U0 q ∨ (base ≤ q ∧ q < max s'.next (base + ops.size))) s' a' w' → a'.defers = a.defers → Q .normal a' w') → wpAny P .any ops Q fuel listed a w := by
  intro fuel
  simp only [drawOK, Bool.and_eq_true, List.all_eq_true, List.mem_range, Bool.or_eq_true] at hok
  obtain ⟨hok1, hok2⟩ := hok
  have hgetD : ∀ (listed : Array Bool) (i : Nat), listed.size = ops.size → i < ops.size → listed.getD i true = listed.getD i false := by
    intro listed i h1 h2
    simp [Array.getD, h1, h2]
  have hready : ∀ (listed : Array Bool) (i : Nat), listed.size = ops.size → (i ∈ Region.ready .any ops listed ↔ i < ops.size ∧ listed.getD i false = false ∧ ∀ o, lget ops.toList i = some o → ∀ e ∈ o.after, Region.binds .any e = true → listed.getD e.on false = true) := by
    intro listed i hsz
    simp only [Region.ready, List.mem_filter, List.mem_range, Bool.and_eq_true]
    constructor
    · rintro ⟨h1, h2, h3⟩
      refine ⟨h1, by rw [hgetD listed i hsz h1] at h2; simpa using h2, fun o ho e he hb => ?_⟩
      have ho' : ops[i]? = some o := by rw [lget_eq] at ho; simpa using ho
      rw [ho'] at h3
      simp only [Option.map_some, Option.getD_some, Array.all_eq_true] at h3
      obtain ⟨q, hq, rfl⟩ := Array.mem_iff_getElem.1 he
      have := h3 q hq
      rw [hb] at this
      simpa using this
    · rintro ⟨h1, h2, h3⟩
      refine ⟨h1, by rw [hgetD listed i hsz h1]; simpa using h2, ?_⟩
      have ho' : ops[i]? = some ops[i] := by simp [h1]
      rw [ho']
      simp only [Option.map_some, Option.getD_some, Array.all_eq_true]
      intro q hq
      cases hb : Region.binds .any ops[i].after[q] with
      | false => simp
      | true =>
        have := h3 ops[i] (by rw [lget_eq]; simp [h1]) _ (Array.getElem_mem hq) hb
        simpa using this
  induction fuel with
  | zero =>
    intro listed s s' a w hsz hlen hdown hs hrun hK
    have hnil : unl listed ops.size = [] := List.eq_nil_of_length_eq_zero hlen
    have hall : ∀ i, i < ops.size → listed.getD i false = true := by
      intro i hi
      cases h : listed.getD i false with
      | false =>
        have : i ∈ unl listed ops.size := List.mem_filter.2 ⟨List.mem_range.2 hi, by simp only [h]; rfl⟩
        rw [hnil] at this; cases this
      | true => rfl
    refine ⟨?_, ?_⟩
    · cases hr : Region.ready .any ops listed with
      | nil => rfl
      | cons i l =>
        have hi : i ∈ Region.ready .any ops listed := by rw [hr]; simp
        obtain ⟨h1, h2, _⟩ := (hready listed i hsz).1 hi
        rw [hall i h1] at h2; cases h2
    · rw [hnil] at hrun
      cases hrun
      refine hK a w (hs.mono fun q hq => ?_) rfl
      rcases hq with hq | ⟨i, hi, rfl⟩ | hq
      · exact .inl hq
      · have : i < listed.size := by
          refine Decidable.byContradiction fun hge => ?_
          simp [Array.getD, hge] at hi
        exact .inr ⟨by omega, by omega⟩
      · exact .inr ⟨by omega, by omega⟩
  | succ fuel ih =>
    intro listed s s' a w hsz hlen hdown hs hrun hK
    have hmem : ∀ j, j ∈ unl listed ops.size → j < ops.size ∧ listed.getD j false = false := by
      intro j hj
      obtain ⟨h1, h2⟩ := List.mem_filter.1 hj
      exact ⟨List.mem_range.1 h1, by simpa only [Bool.not_eq_true'] using h2⟩
    refine ⟨fun hnil => ?_, fun i hi => ?_⟩
    · exfalso
      cases hu : unl listed ops.size with
      | nil => rw [hu] at hlen; simp at hlen
      | cons m rest =>
        have hm : m ∈ unl listed ops.size := by rw [hu]; simp
        have hm' : m < ops.size ∧ listed.getD m false = false := hmem m hm
        have hsort : (unl listed ops.size).Pairwise (· < ·) := List.Pairwise.filter _ List.pairwise_lt_range
        rw [hu] at hsort
        have : m ∈ Region.ready .any ops listed := (hready listed m hsz).2 ⟨hm'.1, hm'.2, fun o ho e he hb => by
          have h1 := hok1 m (by simpa using hm'.1)
          rw [ho] at h1
          simp only [Option.map_some, Option.getD_some, Array.all_eq_true] at h1
          obtain ⟨q, hq, rfl⟩ := Array.mem_iff_getElem.1 he
          have := h1 q hq
          rw [hb] at this
          have hlt : o.after[q].on < m := by simpa using this
          cases hx : listed.getD o.after[q].on false with
          | true => rfl
          | false =>
            have hmem : o.after[q].on ∈ unl listed ops.size := List.mem_filter.2 ⟨List.mem_range.2 (by omega), by simp only [hx]; rfl⟩
            rw [hu] at hmem
            rcases List.mem_cons.1 hmem with h | h
            · omega
            · have := List.rel_of_pairwise_cons hsort h
              omega⟩
        rw [hnil] at this
        cases this
    · obtain ⟨h1, h2, h3⟩ := (hready listed i hsz).1 hi
      have hmemi : i ∈ unl listed ops.size := List.mem_filter.2 ⟨List.mem_range.2 h1, by simp only [h2]; rfl⟩
      obtain ⟨l1, l2, hu⟩ := List.append_of_mem hmemi
      have hsort : (unl listed ops.size).Pairwise (· < ·) := List.Pairwise.filter _ List.pairwise_lt_range
      rw [hu] at hsort
      have hl1 : ∀ j ∈ l1, j < i := fun j hj => (List.pairwise_append.1 hsort).2.2 j hj i (by simp)
      have hl2 : ∀ j ∈ l2, i < j := fun j hj => List.rel_of_pairwise_cons (List.pairwise_append.1 hsort).2.1 hj
      have hl1u : ∀ j ∈ l1, j < ops.size ∧ listed.getD j false = false := fun j hj => by
        have : j ∈ unl listed ops.size := by rw [hu]; simp [hj]
        exact hmem j this
      have hcomm : ∀ j ∈ l1, ∀ s : AS, ((stepIx T O X I ops base j s).bind fun s => stepIx T O X I ops base i s) = (stepIx T O X I ops base i s).bind fun s => stepIx T O X I ops base j s := by
        intro j hj s
        have hb := hok2 i (by simpa using h1) j (hl1 j hj)
        rcases hb with hb | hb
        · have := befB_listed hdown _ j i (.inr h3) hb
          rw [(hl1u j hj).2] at this
          cases this
        · have hjlt : j < ops.size := (hl1u j hj).1
          have e1 : lget ops.toList j = some ops[j] := by rw [lget_eq]; simp [hjlt]
          have e2 : lget ops.toList i = some ops[i] := by rw [lget_eq]; simp [h1]
          rw [e1, e2] at hb
          rw [Bool.and_eq_true] at hb
          simp only [stepIx, e1, e2]
          exact astep_comm' ops rfl hb.1 hb.2 s
      rw [hu, runIx_front l1 l2 s hcomm] at hrun
      simp only [Option.bind_eq_some_iff] at hrun
      obtain ⟨s1, hs1, hrun⟩ := hrun
      have hget : ∀ q, (listed.setIfInBounds i true).getD q false = if q = i then true else listed.getD q false := by
        intro q
        simp only [Array.getD_eq_getD_getElem?, Array.getElem?_setIfInBounds]
        by_cases e : q = i
        · subst e; simp [hsz, h1]
        · rw [if_neg (Ne.symm e), if_neg e]
      have hu' : unl (listed.setIfInBounds i true) ops.size = l1 ++ l2 := by
        have : unl (listed.setIfInBounds i true) ops.size = (unl listed ops.size).filter (fun q => q != i) := by
          simp only [unl, List.filter_filter]
          congr 1
          funext q
          rw [hget]
          by_cases e : q = i <;> simp [e]
        rw [this, hu, List.filter_append, List.filter_cons]
        simp only [bne_self_eq_false, Bool.false_eq_true, if_false]
        rw [List.filter_eq_self.2, List.filter_eq_self.2]
        · intro q hq; have := hl2 q hq; simp; omega
        · intro q hq; have := hl1 q hq; simp; omega
      refine (stepIx_sound hT hO hI hs ?_ ?_ hs1).2 fun a' w' hs' hd => ?_
      · rintro (hx | ⟨q, hq, hx⟩ | hx)
        · have := hU0 _ hx; omega
        · have : q = i := by omega
          subst this
          rw [h2] at hq; cases hq
        · omega
      · rintro q (hx | ⟨k, hk, hx⟩ | hx)
        · have := hU0 _ hx; omega
        · have : k < listed.size := by
            refine Decidable.byContradiction fun hge => ?_
            simp [Array.getD, hge] at hk
          omega
        · omega
      · refine ih (listed.setIfInBounds i true) s1 s' a' w' (by simpa using hsz) ?_ (fun k o hk ho e he hb => ?_) (hs'.mono fun q hq => ?_) (by rw [hu']; exact hrun) fun a'' w'' hs'' hd' => hK a'' w'' hs'' (hd'.trans hd)
        · rw [hu']
          rw [hu] at hlen
          simp at hlen ⊢
          omega
        · rw [hget] at hk ⊢
          split
          · rfl
          · split at hk
            · rename_i e'
              subst e'
              exact h3 o ho e he hb
            · exact hdown k o hk ho e he hb
        · have hnx := stepIx_next hI hs1
          rcases hq with (hq | ⟨k, hk, hq⟩ | hq) | hq | hq
          · exact .inl hq
          · exact .inr (.inl ⟨k, by rw [hget]; split <;> first | rfl | exact hk, hq⟩)
          · exact .inr (.inr ⟨hq.1, by omega⟩)
          · exact .inr (.inl ⟨i, by rw [hget]; simp, hq⟩)
          · exact .inr (.inr hq)

/-- A region. -/
theorem aregion_sound (hT : TOK P T) (hO : OOK P GL O) (hI : IOK P GL I) (hm : P.follows .mixedOrders = true) {rid : Nat} {draw : Bool} {s s' : AS} {U0 : Nat → Prop} {n0 : Nat} (hU0 : ∀ q, U0 q → q < n0) (hn0 : n0 ≤ s.next) (hs : Sim GL B0 ok0 w0 bv (fun q => U0 q ∨ (n0 ≤ q ∧ q < s.next)) s a w)
    (hdr : ¬ (draw = true ∧ drawOK X ops.toList = false)) (h : aregion T O X I ops.toList s = some s') : s.next ≤ s'.next ∧ ((∀ a' w', Sim GL B0 ok0 w0 bv (fun q => U0 q ∨ (n0 ≤ q ∧ q < s'.next)) s' a' w' → a'.defers = a.defers → Q .normal a' w') →
    (Code.region rid ops draw).wp P Q a w) := by
  simp only [aregion, Option.bind_eq_some_iff] at h
  obtain ⟨s1, h1, h⟩ := h
  cases h
  rw [asteps_runIx ops.toList 0 s rfl] at h1
  have hlen : ops.toList.length = ops.size := by simp
  have hrange : List.range' 0 ops.toList.length = List.range ops.size := by rw [hlen, List.range_eq_range']
  rw [hrange] at h1
  have hnx := runIx_next hI _ _ _ h1
  refine ⟨by simp only [hlen]; omega, fun hK => ?_⟩
  simp only [hlen] at hK
  have hup : ∀ {E : Env} {w : World}, Inv GL B0 ok0 w0 w E (fun q => (U0 q ∨ (n0 ≤ q ∧ q < s.next)) ∨ (s.next ≤ q ∧ q < max s1.next (s.next + ops.size))) → Inv GL B0 ok0 w0 w E (fun q => U0 q ∨ (n0 ≤ q ∧ q < max s1.next (s.next + ops.size))) := fun h => h.mono fun q hq => by
    rcases hq with (hq | hq) | hq
    · exact .inl hq
    · exact .inr ⟨hq.1, by omega⟩
    · exact .inr ⟨by omega, hq.2⟩
  cases draw with
  | false =>
    refine wp_region ((runIx_sound hT hO hI _ s s1 _ a w List.nodup_range (fun i hi => List.mem_range.1 hi) (fun i _ => ?_) (fun q hq => ?_) hs h1).2 fun a' w' hs' hd => hK a' w' ?_ hd)
    · rintro (h | h)
      · have := hU0 _ h; omega
      · omega
    · rcases hq with h | h
      · have := hU0 _ h; omega
      · omega
    · obtain ⟨E, g1, g2, g3, g4⟩ := hs'
      refine ⟨E, g1, hup (g2.mono fun q hq => ?_), g3, g4⟩
      rcases hq with hq | ⟨i, hi, rfl⟩ | hq
      · exact .inl hq
      · have := List.mem_range.1 hi; exact .inr ⟨by omega, by omega⟩
      · exact .inr ⟨by omega, by omega⟩
  | true =>
    have hok : drawOK X ops.toList = true := by
      cases hh : drawOK X ops.toList
      · exact absurd ⟨rfl, hh⟩ hdr
      · rfl
    have hu : unl (Array.replicate ops.size false) ops.size = List.range ops.size := by
      unfold unl
      refine List.filter_eq_self.2 fun i hi => ?_
      have := List.mem_range.1 hi
      simp [Array.getD, this]
    have hno : ∀ i, ¬ (Array.replicate ops.size false).getD i false = true := by
      intro i h
      simp [Array.getD] at h
    refine wp_region_any hm (wpAny_runIx (base := s.next) (B0 := B0) (ok0 := ok0) (w0 := w0) (bv := bv) hT hO hI hok (U0 := fun q => U0 q ∨ (n0 ≤ q ∧ q < s.next)) (fun q hq => by
      rcases hq with h | h
      · have := hU0 _ h; omega
      · exact h.2) ops.size _ s s1 a _ (by simp) (by rw [hu]; simp) (fun k o hk => absurd hk (hno k)) ?_ (by rw [hu]; exact h1) fun a' w' hs' hd => hK a' w' ?_ hd)
    · obtain ⟨E, e1, e2, e3, e4⟩ := hs
      exact ⟨E, e1, e2.drew.mono fun q h => .inl h, e3.mono (Mono.drew w E), e4.mono (Mono.drew w E)⟩
    · obtain ⟨E, g1, g2, g3, g4⟩ := hs'
      exact ⟨E, g1, hup g2, g3, g4⟩
end
end Go.Ai

set_option linter.unusedSimpArgs false
set_option linter.unusedVariables false
namespace Go.Ai
open Go Go.RowKit

def AX.exit' : AX → Exit
  | .normal => .normal
  | .exit id => .exit id
  | .ret => .ret

section
variable {P : Program} {GL : World → Prop} {B0 : Nat} {ok0 : Bool → Nat → Nat → Prop} {w0 w : World} {a : Act} {Q : Exit → Act → World → Prop}
variable {T : Nat → Option TI} {O : Nat → List AV → Option AV} {X : Oper → Bool} {I : Nat → List AV → AS → Option (AV × AS)} {L : Nat → AS → Option (AX × AS)}

def SimS (GL : World → Prop) (B0 : Nat) (ok0 : Bool → Nat → Nat → Prop) (w0 : World) (bv : Array Value) (U0 : Nat → Prop) (n0 : Nat) (s : AS) (a : Act) (w : World) : Prop := Sim GL B0 ok0 w0 bv (fun q => U0 q ∨ (n0 ≤ q ∧ q < s.next)) s a w

/-- What runs from `s` ends as `r` says. `md`: at a caller's place, too. -/
def Runs (P : Program) (GL : World → Prop) (md : Bool) (c : Code) (s : AS) (r : AX × AS) : Prop := (md = true → s.next ≤ r.2.next) ∧
  ∀ (B0 : Nat) (ok0 : Bool → Nat → Nat → Prop) (w0 : World) (bv : Array Value) (U0 : Nat → Prop) (n0 : Nat) (a : Act) (w : World) (Q : Exit → Act → World → Prop), (md = true ∨ (n0 = 0 ∧ ∀ q, ¬ U0 q)) → (∀ q, U0 q → q < n0) → n0 ≤ s.next → SimS GL B0 ok0 w0 bv U0 n0 s a w →
    (∀ a' w', SimS GL B0 ok0 w0 bv U0 n0 r.2 a' w' → a'.defers = a.defers → Q r.1.exit' a' w') → c.wp P Q a w

/-- The oracle is right at every loop of the code. -/
def LoopsOK (P : Program) (GL : World → Prop) (md : Bool) (L : Nat → AS → Option (AX × AS)) : Code → Prop
  | .seq a b => LoopsOK P GL md L a ∧ LoopsOK P GL md L b
  | .cond _ a b => LoopsOK P GL md L a ∧ LoopsOK P GL md L b
  | .block _ a => LoopsOK P GL md L a
  | .loop a => ∀ s r, L (firstRegion a) s = some r → Runs P GL md (.loop a) s r
  | _ => True

variable {md : Bool}
theorem aexec_sound (hT : TOK P T) (hO : OOK P GL O) (hI : IOK P GL I) (hm : P.follows .mixedOrders = true) : ∀ (c : Code), LoopsOK P GL md L c → ∀ (s : AS) (r : AX × AS), aexec T O X I L c s = some r → Runs P GL md c s r
  | .skip, _, s, r, h => by
    cases h
    exact ⟨fun _ => Nat.le_refl _, fun B0 ok0 w0 bv U0 n0 a w Q _ _ _ hs hK => wp_skip (hK a w hs rfl)⟩
  | .region id ops d, _, s, r, h => by
    simp only [aexec] at h
    split at h
    · cases h
    rename_i hdr
    simp only [Option.bind_eq_some_iff] at h
    obtain ⟨s1, h1, h⟩ := h
    cases h
    refine ⟨fun _ => ?_, fun B0 ok0 w0 bv U0 n0 a w Q hmd hU hn hs hK => (aregion_sound hT hO hI hm hU hn hs hdr h1).2 hK⟩
    simp only [aregion, Option.bind_eq_some_iff] at h1
    obtain ⟨s2, h2, h1⟩ := h1
    cases h1
    rw [asteps_runIx ops.toList 0 s rfl] at h2
    have := runIx_next hI _ _ _ h2
    simp only
    omega
  | .seq x y, hl, s, r, h => by
    simp only [aexec, Option.bind_eq_some_iff] at h
    obtain ⟨r1, h1, h⟩ := h
    obtain ⟨hn1, ih⟩ := aexec_sound hT hO hI hm x hl.1 s r1 h1
    obtain ⟨x1, s1⟩ := r1
    cases x1 with
    | normal =>
      obtain ⟨hn2, ih2⟩ := aexec_sound hT hO hI hm y hl.2 s1 r h
      refine ⟨fun h => Nat.le_trans (hn1 h) (hn2 h), fun B0 ok0 w0 bv U0 n0 a w Q hmd hU hn hs hK => wp_seq (ih B0 ok0 w0 bv U0 n0 a w _ hmd hU hn hs fun a' w' hs' hd => ?_)⟩
      refine ih2 B0 ok0 w0 bv U0 n0 a' w' Q hmd hU (hmd.elim (fun h => Nat.le_trans hn (hn1 h)) fun h => by rw [h.1]; exact Nat.zero_le _) hs' fun a'' w'' hs'' hd' => hK a'' w'' hs'' (hd'.trans hd)
    | exit id =>
      cases h
      exact ⟨hn1, fun B0 ok0 w0 bv U0 n0 a w Q hmd hU hn hs hK => wp_seq (ih B0 ok0 w0 bv U0 n0 a w _ hmd hU hn hs fun a' w' hs' hd => hK a' w' hs' hd)⟩
    | ret =>
      cases h
      exact ⟨hn1, fun B0 ok0 w0 bv U0 n0 a w Q hmd hU hn hs hK => wp_seq (ih B0 ok0 w0 bv U0 n0 a w _ hmd hU hn hs fun a' w' hs' hd => hK a' w' hs' hd)⟩
  | .cond c x y, hl, s, r, h => by
    simp only [aexec, Option.bind_eq_some_iff] at h
    obtain ⟨t, ht, h⟩ := h
    split at h
    case h_2 => cases h
    rename_i t
    have hc : ∀ {B0 ok0 w0 bv U0 n0} {a : Act} {w : World}, SimS GL B0 ok0 w0 bv U0 n0 s a w → a.eval c = .bool t := by
      intro B0 ok0 w0 bv U0 n0 a w hs
      obtain ⟨E, e1, e2, e3, e4⟩ := hs
      have hr := aget_rel e3 ht
      generalize a.eval c = v at hr
      cases hr; rfl
    split at h
    · rename_i e
      subst e
      obtain ⟨g1, g2⟩ := aexec_sound hT hO hI hm x hl.1 s r h
      exact ⟨g1, fun B0 ok0 w0 bv U0 n0 a w Q hmd hU hn hs hK => wp_cond (hc hs) (g2 B0 ok0 w0 bv U0 n0 a w Q hmd hU hn hs hK)⟩
    · rename_i e
      have e : t = false := by simpa using e
      subst e
      obtain ⟨g1, g2⟩ := aexec_sound hT hO hI hm y hl.2 s r h
      exact ⟨g1, fun B0 ok0 w0 bv U0 n0 a w Q hmd hU hn hs hK => wp_cond (hc hs) (g2 B0 ok0 w0 bv U0 n0 a w Q hmd hU hn hs hK)⟩
  | .block id c, hl, s, r, h => by
    simp only [aexec, Option.bind_eq_some_iff] at h
    obtain ⟨r1, h1, h⟩ := h
    obtain ⟨hn1, ih⟩ := aexec_sound hT hO hI hm c hl s r1 h1
    obtain ⟨x1, s1⟩ := r1
    cases x1 with
    | normal =>
      cases h
      exact ⟨hn1, fun B0 ok0 w0 bv U0 n0 a w Q hmd hU hn hs hK => wp_block (ih B0 ok0 w0 bv U0 n0 a w _ hmd hU hn hs fun a' w' hs' hd => hK a' w' hs' hd)⟩
    | exit j =>
      simp only at h
      split at h
      · rename_i e
        cases h
        exact ⟨hn1, fun B0 ok0 w0 bv U0 n0 a w Q hmd hU hn hs hK => wp_block (ih B0 ok0 w0 bv U0 n0 a w _ hmd hU hn hs fun a' w' hs' hd => by
          simp only [AX.exit', Exit.inBlock]
          rw [if_pos e]
          exact hK a' w' hs' hd)⟩
      · rename_i e
        cases h
        exact ⟨hn1, fun B0 ok0 w0 bv U0 n0 a w Q hmd hU hn hs hK => wp_block (ih B0 ok0 w0 bv U0 n0 a w _ hmd hU hn hs fun a' w' hs' hd => by
          simp only [AX.exit', Exit.inBlock]
          rw [if_neg e]
          exact hK a' w' hs' hd)⟩
    | ret =>
      cases h
      exact ⟨hn1, fun B0 ok0 w0 bv U0 n0 a w Q hmd hU hn hs hK => wp_block (ih B0 ok0 w0 bv U0 n0 a w _ hmd hU hn hs fun a' w' hs' hd => hK a' w' hs' hd)⟩
  | .loop c, hl, s, r, h => hl s r h
  | .exit id, _, s, r, h => by
    cases h
    exact ⟨fun _ => Nat.le_refl _, fun B0 ok0 w0 bv U0 n0 a w Q _ _ _ hs hK => wp_exit (hK a w hs rfl)⟩
  | .ret, _, s, r, h => by
    cases h
    exact ⟨fun _ => Nat.le_refl _, fun B0 ok0 w0 bv U0 n0 a w Q _ _ _ hs hK => wp_ret (hK a w hs rfl)⟩
  | .label _, _, s, r, h => by simp [aexec] at h
  | .goto _, _, s, r, h => by simp [aexec] at h
  | .rangeFunc .., _, s, r, h => by simp [aexec] at h

/-- A loop, by rounds that are counted. -/
theorem wp_loop_fuel {c : Code} (I : Nat → Act → World → Prop) (round : ∀ n a w, I n a w → c.wp P (Exit.then (fun a' w' => ∃ m, m < n ∧ I m a' w') Q) a w) {n : Nat} (h : I n a w) : (Code.loop c).wp P Q a w := by
  intro b k cs
  have key : ∀ n a w, I n a w → ∃ e a' w', Q e a' w' ∧ Arrives P (lone (b.at a (.code c :: .inLoop c :: k)) cs w) b k cs e a' w' := by
    intro n
    induction n using Nat.strongRecOn with
    | _ n ih =>
      intro a w hI
      obtain ⟨e, a₁, w₁, hq, harr⟩ := round n a w hI b (.inLoop c :: k) cs
      cases e with
      | normal =>
        obtain ⟨m, hlt, hI₁⟩ := hq
        obtain ⟨e₂, a₂, w₂, hq₂, harr₂⟩ := ih m hlt a₁ w₁ hI₁
        exact ⟨e₂, a₂, w₂, hq₂, .of_steps (Steps.trans harr (.one step_inLoop)) harr₂⟩
      | exit id => exact ⟨_, a₁, w₁, hq, .pass (x := .inLoop c) rfl (fun _ _ => .inl (by simp)) harr⟩
      | goto l => exact ⟨_, a₁, w₁, hq, .pass (x := .inLoop c) rfl (fun _ _ => .inl (by simp)) harr⟩
      | ret => exact ⟨_, a₁, w₁, hq, .pass (x := .inLoop c) rfl (fun _ _ => .inl (by simp)) harr⟩
      | panic ch => exact ⟨_, a₁, w₁, hq, .pass (x := .inLoop c) rfl (fun _ _ => .inl (by simp)) harr⟩
      | outgrown => exact ⟨_, a₁, w₁, hq, .pass (x := .inLoop c) rfl (fun _ _ => .inl (by simp)) harr⟩
  obtain ⟨e, a', w', hq, harr⟩ := key _ a w h
  exact ⟨e, a', w', hq, .of_steps (.one step_loop) harr⟩

/-! ### Results -/
theorem aresults_sound (hT : TOK P T) {f : AV → AV} {E E1 : Env} (hff : ∀ x v, Rel w E x v → Rel w E1 (f x) v) {fr : List AV} (hf : RelL w E fr a.tmps) : ∀ {l : List ResultVar} {rs : List AV}, aresultsF T f fr l = some rs →
    ∃ vs : List Value, (l.mapM (m := Sem) fun
      | .tmp t => pure (a.tmps.getD t undef)
      | .cell q t => do loadVar t (← asAddr (a.tmps.getD q undef))).run P w = .ok vs w ∧ vs.length = rs.length ∧ ∀ i x v, lget rs i = some x → vs[i]? = some v → Rel w E1 x v
  | [], rs, h => by
    cases h
    exact ⟨[], rfl, rfl, fun i x v h => by simp [lget] at h⟩
  | .tmp t :: l, rs, h => by
    simp only [aresultsF, Option.bind_eq_some_iff] at h
    obtain ⟨x, hx, xs, hxs, h⟩ := h
    cases h
    obtain ⟨vs, h1, h2, h3⟩ := aresults_sound hT hff hf hxs
    have hlt : t < a.tmps.size := by rw [hf.1]; rw [lget_eq] at hx; exact (List.getElem?_eq_some_iff.1 hx).1
    have hr : Rel w E x (a.tmps.getD t undef) := hf.2 t x _ hx (by simp [hlt])
    refine ⟨a.tmps.getD t undef :: vs, ?_, by simp [h2], fun i y v hy hv => ?_⟩
    · simp only [List.mapM_cons, Sem.run_bind, Sem.run_pure, Result.andThen_ok, h1]
    · cases i with
      | zero =>
        have e1 : f x = y := by simpa [lget] using hy
        have e2 : a.tmps.getD t undef = v := Option.some.inj hv
        rw [← e1, ← e2]
        exact hff _ _ hr
      | succ n => exact h3 n y v (by simpa [lget] using hy) (by simpa using hv)
  | .cell q t :: l, rs, h => by
    simp only [aresultsF, Option.bind_eq_some_iff] at h
    obtain ⟨i, hi, p, hp, h⟩ := h
    split at h
    case h_2 => cases h
    rename_i qid off cs
    simp only [Option.bind_eq_some_iff] at h
    obtain ⟨x, hx, xs, hxs, h⟩ := h
    cases h
    obtain ⟨vs, h1, h2, h3⟩ := aresults_sound hT hff hf hxs
    have hlt : q < a.tmps.size := by rw [hf.1]; rw [lget_eq] at hp; exact (List.getElem?_eq_some_iff.1 hp).1
    have hr : Rel w E (.box qid off cs) (a.tmps.getD q undef) := hf.2 q _ _ hp (by simp [hlt])
    obtain ⟨b, hb, hc⟩ := (place_cells hr).1 _ _ _ rfl
    obtain ⟨u, h4, h5⟩ := run_load_part (hT.facts hi) hc hx
    refine ⟨u :: vs, ?_, by simp [h2], fun i y v hy hv => ?_⟩
    · have ha : (asAddr (a.tmps.getD q undef)).run P w = .ok ⟨b, off, none⟩ w := by rw [hb]; rfl
      rw [Nat.zero_add] at h4
      simp only [List.mapM_cons, Sem.run_bind, ha, Sem.run_pure, Result.andThen_ok, h4, h1]
    · cases i with
      | zero => simp [lget] at hy hv; subst hy; subst hv; exact hff _ _ h5
      | succ n => exact h3 n y v (by simpa [lget] using hy) (by simpa using hv)

theorem results_run (hT : TOK P T) {f : AV → AV} {E E1 : Env} (hff : ∀ x v, Rel w E x v → Rel w E1 (f x) v) {fr : List AV} (hf : RelL w E fr a.tmps) {fn : Func} {rs : List AV} (hrs : aresultsF T f fr fn.results.toList = some rs) :
    ∃ v, (results fn a.tmps).run P w = .ok v w ∧ Rel w E1 (tupled rs) v := by
  obtain ⟨us, h1, h2, h3⟩ := aresults_sound hT hff hf hrs
  have hmap : (fn.results.mapM (m := Sem) fun
      | .tmp t => pure (a.tmps.getD t undef)
      | .cell q t => do loadVar t (← asAddr (a.tmps.getD q undef))).run P w = .ok us.toArray w := by
    rw [← Array.toArray_toList (xs := fn.results), List.mapM_toArray]
    rw [Sem.run_map, h1]
    rfl
  have hrun : (results fn a.tmps).run P w = .ok (if h : us.toArray.size = 1 then us.toArray[0] else .tuple us.toArray) w := by
    unfold results
    rw [Sem.run_bind]
    exact congrArg (fun q : Result (Array Value) => q.andThen fun vs w => (pure (if h : vs.size = 1 then vs[0] else .tuple vs) : Sem Value).run P w) hmap
  refine ⟨_, hrun, ?_⟩
  match us, rs, h2, h3 with
  | [u], [x], _, h3 => simpa [tupled] using h3 0 x u rfl rfl
  | [], [], _, h3 => exact .tup _ _ _ rfl fun i a v h => by simp [lget] at h
  | u1 :: u2 :: us, x1 :: x2 :: xs, h2, h3 =>
    simp only [tupled]
    have : (u1 :: u2 :: us).toArray.size ≠ 1 := by simp
    rw [dif_neg this]
    exact .tup _ _ _ (by simpa using h2) fun i a v ha hv => h3 i a v ha (by simpa using hv)

theorem startFrame_rel {E : Env} {fn : Func} {args : List AV} {vs : Array Value} (h1 : RelL w E args vs) : RelL w E (startFrame fn args) (vs ++ Array.replicate (fn.ntmps - vs.size) undef) := by
  have h2 : RelL w E (List.replicate (fn.ntmps - args.length) (.tup [])) (Array.replicate (fn.ntmps - vs.size) undef) := by
    refine ⟨by simp [h1.1], fun i y v hy hv => ?_⟩
    rw [lget_eq, List.getElem?_replicate] at hy
    rw [Array.getElem?_replicate] at hv
    split at hy
    · split at hv
      · cases hy; cases hv
        exact .tup _ _ _ rfl fun i a v h => by simp [lget] at h
      · cases hv
    · cases hy
  exact h1.append h2

/-- What a body gives, the function gives. -/
theorem contract_of_body (hT : TOK P T) (hO : OOK P GL O) (hI : IOK P GL I) (hm : P.follows .mixedOrders = true) {g : FuncId} {fn : Func} {c : Code} {args : List AV} {r : AV} (hf : P.funcs[g]? = some fn) (hname : (fn.name == "runtime.NumGoroutine") = false)
    (hb : fn.body = some c) (hl : LoopsOK P GL false L c) (hcl : clL args = true) (h : abody T O X I L fn args = some r) : Contract P GL g args r := by
  intro w ok vs hglo hok hokm hargs
  refine .inr ⟨?_, ?_⟩
  · have h1 : fn.name ≠ "runtime.NumGoroutine" := by simpa using hname
    simp [callFunc, hf, h1, hb]
  simp only [abody, hb, Option.bind_some, Option.bind_eq_some_iff] at h
  obtain ⟨⟨x, s'⟩, hx, h⟩ := h
  refine calls_of_wp hf hb ?_
  let E0 : Env := ⟨ok, fun i => i, fun _ _ => False, fun _ => false⟩
  have hsim : SimS GL w.heap.size ok w #[] (fun _ => False) 0 { fr := startFrame fn args, dead := fun _ => false, next := 0, bg := [] } { tmps := vs ++ Array.replicate (fn.ntmps - vs.size) undef, defers := [] } w := by
    refine ⟨E0, rfl, ⟨Below.refl _ _, Nat.le_refl _, hok, hokm, fun _ _ h => h.elim, fun _ _ h => h.elim, fun _ _ _ _ h => h.elim, fun _ h => h.elim, fun _ _ _ h => h, fun _ _ _ h => .inl h, hglo⟩, ?_, ⟨rfl, fun i a v h => by simp [lget] at h⟩⟩
    exact startFrame_rel ⟨hargs.1, fun i y v hy hv => (hargs.2 i y v hy hv).ofClosed (clL_get hcl hy) fun _ _ _ h => h⟩
  refine (aexec_sound hT hO hI hm c hl _ _ hx).2 w.heap.size ok w #[] (fun _ => False) 0 _ w _ (.inr ⟨rfl, fun _ h => h⟩) (fun _ h => h.elim) (Nat.le_refl _) hsim fun a' w' hs' hd => ?_
  obtain ⟨E, _, hinv, hrel, _⟩ := hs'
  have hcl' : ∀ rs, aresults T s'.fr fn.results.toList = some rs → (tupled rs).cl = true := by
    have : ∀ {l : List ResultVar} {rs : List AV}, aresultsF T AV.fin s'.fr l = some rs → clL rs = true := by
      intro l
      induction l with
      | nil => intro rs h; cases h; rfl
      | cons x l ih =>
        intro rs h
        cases x <;> simp only [aresultsF, Option.bind_eq_some_iff] at h
        · obtain ⟨y, _, ys, hys, h⟩ := h
          cases h
          simp [clL, AV.fin_cl, ih hys]
        · obtain ⟨_, _, p, _, h⟩ := h
          split at h
          case h_2 => cases h
          simp only [Option.bind_eq_some_iff] at h
          obtain ⟨y, _, ys, hys, h⟩ := h
          cases h
          simp [clL, AV.fin_cl, ih hys]
    intro rs hrs
    have hc := this hrs
    match rs, hc with
    | [x], hc => simpa [clL, tupled] using hc
    | [], _ => rfl
    | x1 :: x2 :: xs, hc => simpa [tupled, AV.cl] using hc
  have hfin : ∀ rs, aresults T s'.fr fn.results.toList = some rs → r = tupled rs → a'.defers = [] ∧ ∃ v, (results fn a'.tmps).run P w' = .ok v w' ∧ (∃ v' ok', Ending.returned v = .returned v' ∧ Below w.heap.size w w' ∧ (∀ k b o, ok k b o → ok' k b o) ∧ (∀ k b o, ok' k b o → b < w'.heap.size) ∧
      (∀ k b o, ok' k b o → ok k b o ∨ w.heap.size ≤ b) ∧ (∀ b o, ok' true b o → ok' false b o) ∧ Rel w' ⟨ok', fun i => i, fun _ _ => False, fun _ => true⟩ r v') := by
    intro rs hrs hr
    obtain ⟨v, h1, h2⟩ := results_run hT (E1 := E.fin) (fun x v h => h.fin) hrel hrs
    subst hr
    refine ⟨hd, v, h1, v, E.fin.ok, rfl, hinv.below, fun k b o h => .inl (hinv.oke k b o h), fun k b o h => ?_, fun k b o h => ?_, fun b o h => ?_, h2.ofClosed (hcl' rs hrs) fun _ _ _ h => h⟩
    · rcases h with h | ⟨i, h, rfl⟩
      · exact hinv.okB _ _ _ h
      · exact (hinv.lvb _ _ h).2
    · rcases h with h | ⟨i, h, rfl⟩
      · exact hinv.okN _ _ _ h
      · exact .inr (hinv.lvb _ _ h).1
    · rcases h with h | h
      · exact .inl (hinv.okm _ _ h)
      · exact .inr h
  cases x with
  | normal =>
    obtain ⟨rs, hrs, h⟩ := Option.bind_eq_some_iff.1 h
    exact hfin rs hrs (Option.some.inj h).symm
  | ret =>
    obtain ⟨rs, hrs, h⟩ := Option.bind_eq_some_iff.1 h
    exact hfin rs hrs (Option.some.inj h).symm
  | exit id => cases h

/-- A function without loops, at its caller's place. -/
theorem ainline_ok (hT : TOK P T) (hO : OOK P GL O) (hI : IOK P GL I) (hm : P.follows .mixedOrders = true) {g : FuncId} {fn : Func} {c : Code} (hf : P.funcs[g]? = some fn) (hname : (fn.name == "runtime.NumGoroutine") = false)
    (hb : fn.body = some c) (hl : LoopsOK P GL true (fun _ _ => none) c) {as : List AV} {s s' : AS} {r : AV} (h : ainline T O X I fn as s = some (r, s')) : s.next ≤ s'.next ∧
    ∀ (B0 : Nat) (ok0 : Bool → Nat → Nat → Prop) (w0 : World) (used : Nat → Prop) (w : World) (E : Env) (vs tv bv : Array Value), E.dead = s.dead → Inv GL B0 ok0 w0 w E used → (∀ i, used i → i < s.next) → RelL w E as vs → RelL w E s.fr tv → RelL w E s.bg bv →
      (callFunc g vs).run P w = .ok (.enter g vs) w ∧ Calls P g vs w fun e w' => ∃ v E', e = .returned v ∧ E'.dead = s'.dead ∧ Inv GL B0 ok0 w0 w' E' (fun i => used i ∨ (s.next ≤ i ∧ i < s'.next)) ∧ Rel w' E' r v ∧ RelL w' E' s'.fr tv ∧ RelL w' E' s'.bg bv := by
  simp only [ainline, hb, Option.bind_some, Option.bind_eq_some_iff] at h
  obtain ⟨⟨x, s1⟩, hx, h⟩ := h
  obtain ⟨hn, hrun⟩ := aexec_sound hT hO hI hm c hl _ _ hx
  have hres : ∃ rs, aresultsF T (fun a => a) s1.fr fn.results.toList = some rs ∧ r = tupled rs ∧ s' = { fr := s1.bg.take s.fr.length, dead := s1.dead, next := s1.next, bg := s1.bg.drop s.fr.length } ∧ (x = .normal ∨ x = .ret) := by
    cases x with
    | exit id => cases h
    | normal =>
      obtain ⟨rs, hrs, h⟩ := Option.bind_eq_some_iff.1 h
      cases h
      exact ⟨rs, hrs, rfl, rfl, .inl rfl⟩
    | ret =>
      obtain ⟨rs, hrs, h⟩ := Option.bind_eq_some_iff.1 h
      cases h
      exact ⟨rs, hrs, rfl, rfl, .inr rfl⟩
  obtain ⟨rs, hrs, rfl, rfl, hxx⟩ := hres
  refine ⟨hn rfl, fun B0 ok0 w0 used w E vs tv bv hd hi hu has hfr hbg => ⟨?_, ?_⟩⟩
  · have h1 : fn.name ≠ "runtime.NumGoroutine" := by simpa using hname
    simp [callFunc, hf, h1, hb]
  refine calls_of_wp hf hb ?_
  have hsim : SimS GL B0 ok0 w0 (tv ++ bv) used s.next { fr := startFrame fn as, dead := s.dead, next := s.next, bg := s.fr ++ s.bg } { tmps := vs ++ Array.replicate (fn.ntmps - vs.size) undef, defers := [] } w :=
    ⟨E, hd, hi.mono fun i h => .inl h, startFrame_rel has, hfr.append hbg⟩
  refine hrun B0 ok0 w0 (tv ++ bv) used s.next _ w _ (.inl rfl) hu (Nat.le_refl _) hsim fun a' w' hs' hdd => ?_
  obtain ⟨E', hE, hinv, hrel, hbg'⟩ := hs'
  have hlen : tv.size = s.fr.length := hfr.1
  have hlen2 : tv.size + bv.size = s1.bg.length := by have := hbg'.1; simpa using this
  have e1 : RelL w' E' (s1.bg.take s.fr.length) tv := by
    refine ⟨by simp; omega, fun i y v hy hv => ?_⟩
    rw [lget_take] at hy
    split at hy
    · rename_i hlt
      exact hbg'.2 i y v hy (by rw [Array.getElem?_append, if_pos (by omega)]; exact hv)
    · cases hy
  have e2 : RelL w' E' (s1.bg.drop s.fr.length) bv := by
    refine ⟨by simp; omega, fun i y v hy hv => ?_⟩
    rw [lget_drop] at hy
    refine hbg'.2 _ y v hy ?_
    rw [Array.getElem?_append, if_neg (by omega)]
    rw [show s.fr.length + i - tv.size = i by omega]
    exact hv
  have hfin : a'.defers = [] ∧ ∃ v, (results fn a'.tmps).run P w' = .ok v w' ∧ (∃ v' E', Ending.returned v = .returned v' ∧ E'.dead = s1.dead ∧ Inv GL B0 ok0 w0 w' E' (fun i => used i ∨ (s.next ≤ i ∧ i < s1.next)) ∧ Rel w' E' (tupled rs) v' ∧ RelL w' E' (s1.bg.take s.fr.length) tv ∧ RelL w' E' (s1.bg.drop s.fr.length) bv) := by
    obtain ⟨v, h1, h2⟩ := results_run hT (E1 := E') (f := fun a => a) (fun x v h => h) hrel hrs
    exact ⟨hdd, v, h1, v, E', rfl, hE, hinv, h2, e1, e2⟩
  rcases hxx with rfl | rfl
  · exact hfin
  · exact hfin
end
end Go.Ai

set_option linter.unusedSimpArgs false
set_option linter.unusedVariables false
namespace Go.Ai
open Go Go.RowKit

/-- Shapes of (sequences of) values: what is data in them, and what is fixed. -/
inductive Sh where
  | nil
  | snil
  | int (k : IntKind)
  | bool
  | str
  | list (t : Ty)
  | own (id e : Nat) (t : Ty)
  | row (id e : Nat) (t : Ty)
  | agg (t : Ty)
  | fn (f : Nat) (l : Sh)
  | box (id : Nat) (l : Sh)
  | ptr (l : Sh)
  | tup (l : Sh)
  | pair (s l : Sh)

def Sh.den : Sh → Type
  | .nil => Unit
  | .snil => Unit
  | .int _ => Int
  | .bool => Bool
  | .str => ByteArray
  | .list t => List t.den
  | .own _ _ t => List t.den
  | .row _ _ t => List t.den
  | .agg t => t.den
  | .fn _ l => l.den
  | .box _ l => l.den
  | .ptr l => l.den
  | .tup l => l.den
  | .pair s l => s.den × l.den

def encX : (s : Sh) → s.den → List AV
  | .nil, _ => []
  | .snil, _ => [.snil]
  | .int k, n => [.int k n]
  | .bool, b => [.bool b]
  | .str, s => [.str s]
  | .list t, xs => [.tl t xs]
  | .own id e t, xs => [.own id e t xs]
  | .row id e t, xs => [.row id e t xs]
  | .agg t, x => [.agg (emb t x)]
  | .fn f l, x => [.fn f (encX l x)]
  | .box id l, x => [.box id 0 (encX l x)]
  | .ptr l, x => [.eptr (encX l x)]
  | .tup l, x => [.tup (encX l x)]
  | .pair s l, x => encX s x.1 ++ encX l x.2

/-- Nothing in it may be written. -/
def Sh.clo : Sh → Bool
  | .own _ _ _ => false
  | .row _ _ _ => false
  | .box _ _ => false
  | .fn _ l => l.clo
  | .tup l => l.clo
  | .pair s l => s.clo && l.clo
  | _ => true

def AV.asSnil : AV → Option Unit
  | .snil => some ()
  | _ => none
def AV.asInt (k : IntKind) : AV → Option Int
  | .int k' n => if k' = k then some n else none
  | _ => none
def AV.asBool : AV → Option Bool
  | .bool b => some b
  | _ => none
def AV.asStr : AV → Option ByteArray
  | .str s => some s
  | _ => none
/-- A row's data, and its name if it has one. -/
def AV.asOwn (e : Nat) (t : Ty) : AV → Option (List t.den × Option Nat)
  | .snil => some ([], none)
  | .own i e' u xs => if e' = e then (cast u t xs).bind fun xs => some (xs, some i) else none
  | _ => none
def AV.asRow (e : Nat) (t : Ty) : AV → Option (List t.den × Option Nat)
  | .snil => some ([], none)
  | .row i e' u xs => if e' = e then (cast u t xs).bind fun xs => some (xs, some i) else none
  | _ => none
def AV.asAgg : AV → Option (List AV)
  | .agg cs => some cs
  | _ => none
def AV.asFn (f : Nat) : AV → Option (List AV)
  | .fn g cs => if g = f then some cs else none
  | _ => none
def AV.asBox : AV → Option (Nat × List AV)
  | .box i 0 cs => some (i, cs)
  | _ => none
def AV.asPtr : AV → Option (List AV)
  | .eptr cs => some cs
  | _ => none
def AV.asTup : AV → Option (List AV)
  | .tup cs => some cs
  | _ => none

/-- What was read, the names that were met (with the shape's names for them), and what is left. -/
structure Got (α : Type) where
  val : α
  ids : List (Bool × Nat × Nat)
  rest : List AV

def one {α : Type} (cs : List AV) (f : AV → Option (α × List (Bool × Nat × Nat))) : Option (Got α) :=
  match cs with
  | [] => none
  | a :: r => (f a).bind fun x => some ⟨x.1, x.2, r⟩

def whole {α : Type} (g : Got α) : Option (α × List (Bool × Nat × Nat)) :=
  match g.rest with
  | [] => some (g.val, g.ids)
  | _ => none

def decX : (s : Sh) → List AV → Option (Got s.den)
  | .nil, cs => some ⟨(), [], cs⟩
  | .snil, cs => one cs fun a => a.asSnil.bind fun n => some (n, [])
  | .int k, cs => one cs fun a => (a.asInt k).bind fun n => some (n, [])
  | .bool, cs => one cs fun a => a.asBool.bind fun n => some (n, [])
  | .str, cs => one cs fun a => a.asStr.bind fun n => some (n, [])
  | .list t, cs => one cs fun a => (a.elems t).bind fun n => some (n, [])
  | .own id e t, cs => one cs fun a => (a.asOwn e t).bind fun x => some (x.1, match x.2 with | some i => [(false, id, i)] | none => [])
  | .row id e t, cs => one cs fun a => (a.asRow e t).bind fun x => some (x.1, match x.2 with | some i => [(true, id, i)] | none => [])
  | .agg t, cs => one cs fun a => a.asAgg.bind fun l => (dec t l).bind fun x => some (x, [])
  | .fn f l, cs => one cs fun a => (a.asFn f).bind fun m => (decX l m).bind whole
  | .box id l, cs => one cs fun a => a.asBox.bind fun p => (decX l p.2).bind fun g => (whole g).bind fun x => some (x.1, (true, id, p.1) :: x.2)
  | .ptr l, cs => one cs fun a => a.asPtr.bind fun m => if l.clo = true then (decX l m).bind whole else none
  | .tup l, cs => one cs fun a => a.asTup.bind fun m => (decX l m).bind whole
  | .pair s l, cs => (decX s cs).bind fun x => (decX l x.rest).bind fun y => some ⟨(x.val, y.val), x.ids ++ y.ids, y.rest⟩

def idsOK (dead : Nat → Bool) (N : Nat) (l : List (Bool × Nat × Nat)) : Bool :=
  l.all fun p => decide (p.2.1 < N) && (p.1 || !dead p.2.2) && l.all fun q => (decide (p.2.1 = q.2.1) == decide (p.2.2 = q.2.2)) && (p.1 == q.1 || !decide (p.2.1 = q.2.1))

/-- The slots that count, by number, and their shape; `n`: how many there are in all; `N`: the first name that is free. -/
structure Spec where
  n : Nat
  N : Nat
  slots : List Nat
  shape : Sh

def gets (fr : List AV) : List Nat → Option (List AV)
  | [] => some []
  | i :: l => (lget fr i).bind fun a => (gets fr l).bind fun as => some (a :: as)

def putAt : List Nat → List AV → Nat → AV
  | i :: l, a :: m, q => if q = i then a else putAt l m q
  | _, _, _ => .bot

def Spec.frame (sp : Spec) (as : List AV) : List AV := (List.range sp.n).map (putAt sp.slots as)

def Spec.enc (sp : Spec) (x : sp.shape.den) : AS := ⟨sp.frame (encX sp.shape x), fun _ => false, sp.N, []⟩

def Spec.dec (sp : Spec) (s : AS) : Option sp.shape.den :=
  if s.fr.length = sp.n ∧ s.bg.length = 0 then (gets s.fr sp.slots).bind fun as => (decX sp.shape as).bind fun g => (whole g).bind fun x => if idsOK s.dead sp.N x.2 = true then some x.1 else none else none

/-! ### It stands for no less -/
def Env.ren (E : Env) (m : List (Bool × Nat × Nat)) : Env :=
  ⟨E.ok, fun j => match m.find? (fun p => p.2.1 == j) with | some p => E.σ p.2.2 | none => 0, fun k j => ∃ i, (k, j, i) ∈ m ∧ E.lv k i, fun _ => false⟩

section
variable {w : World} {E : Env} {dead : Nat → Bool} {N : Nat} {m : List (Bool × Nat × Nat)}

theorem idsOK_spec (h : idsOK dead N m = true) : (∀ k j i, (k, j, i) ∈ m → j < N) ∧ (∀ j i, (false, j, i) ∈ m → dead i = false) ∧
    (∀ k j i k' j' i', (k, j, i) ∈ m → (k', j', i') ∈ m → (j = j' ↔ i = i') ∧ (j = j' → k = k')) := by
  simp only [idsOK, List.all_eq_true, Bool.and_eq_true, decide_eq_true_eq, Bool.or_eq_true] at h
  refine ⟨fun k j i hm => (h _ hm).1.1, fun j i hm => ?_, fun k j i k' j' i' h1 h2 => ?_⟩
  · have := (h _ hm).1.2
    simpa using this
  · obtain ⟨h3, h4⟩ := (h _ h1).2 _ h2
    refine ⟨?_, fun e => ?_⟩
    · by_cases e1 : j = j' <;> by_cases e2 : i = i' <;> simp [e1, e2] at h3 ⊢
    · rcases h4 with h4 | h4
      · simpa using h4
      · simp [e] at h4

theorem ren_σ (h : idsOK dead N m = true) {k : Bool} {j i : Nat} (hm : (k, j, i) ∈ m) : (E.ren m).σ j = E.σ i := by
  obtain ⟨_, _, h3⟩ := idsOK_spec h
  simp only [Env.ren]
  cases hf : m.find? (fun p => p.2.1 == j) with
  | none =>
    have := List.find?_eq_none.1 hf _ hm
    simp at this
  | some p =>
    obtain ⟨k', j', i'⟩ := p
    have h4 := List.mem_of_find?_eq_some hf
    have h5 := List.find?_some hf
    simp only [beq_iff_eq] at h5
    have := ((h3 _ _ _ _ _ _ h4 hm).1).1 h5
    simp only [this]

theorem Inv.ren {GL : World → Prop} {B0 : Nat} {ok0 : Bool → Nat → Nat → Prop} {w0 : World} {used : Nat → Prop} (hi : Inv GL B0 ok0 w0 w E used) (h : idsOK E.dead N m = true) : Inv GL B0 ok0 w0 w (E.ren m) (fun q => q < N) := by
  obtain ⟨h1, h2, h3⟩ := idsOK_spec h
  refine ⟨hi.below, hi.base, hi.okB, hi.okm, fun k j hl => ?_, fun k j hl => ?_, fun k j k' j' hl hl' e => ?_, fun j hl k o => ?_, hi.oke, hi.okN, hi.glo⟩
  · obtain ⟨i, hm, _⟩ := hl
    exact h1 _ _ _ hm
  · obtain ⟨i, hm, hl⟩ := hl
    rw [ren_σ h hm]
    exact hi.lvb _ _ hl
  · obtain ⟨i, hm, hl⟩ := hl
    obtain ⟨i', hm', hl'⟩ := hl'
    rw [ren_σ h hm, ren_σ h hm'] at e
    obtain ⟨e1, e2⟩ := hi.inj _ _ _ _ hl hl' e
    exact ⟨e1, ((h3 _ _ _ _ _ _ hm hm').1).2 e2⟩
  · obtain ⟨i, hm, hl⟩ := hl
    rw [ren_σ h hm]
    exact hi.box _ hl k o

theorem agg_dec {t : Ty} {cs : List AV} {d : t.den} {v : Value} (h : dec t cs = some d) (hr : Rel w E (.agg cs) v) {E' : Env} (hok : ∀ k b o, E.ok k b o → E'.ok k b o) : Rel w E' (.agg (emb t d)) v := by
  cases hr with
  | agg _ _ vs hs h1 hr =>
  obtain ⟨hl, hle⟩ := dec_le h
  refine .agg _ _ _ (by rw [emb_length, hs, hl]) h1 fun j c u hc hu => ?_
  obtain ⟨a, ha, hca⟩ := hle j c hc
  exact ((hca w E u (hr j a u ha hu)).1).ofClosed (clL_get (emb_cl t d) hc) hok


/-- A sequence of values. -/
def Seq (w : World) (E : Env) (as : List AV) (vs : List Value) : Prop := vs.length = as.length ∧ ∀ i a v, lget as i = some a → vs[i]? = some v → Rel w E a v

theorem Seq.nil : Seq w E [] [] := ⟨rfl, fun i a v h => by simp [lget] at h⟩
theorem Seq.cons {a : AV} {v : Value} {as : List AV} {vs : List Value} (h : Rel w E a v) (k : Seq w E as vs) : Seq w E (a :: as) (v :: vs) := by
  refine ⟨by simp [k.1], fun i x u hx hu => ?_⟩
  cases i with
  | zero => simp [lget] at hx hu; subst hx; subst hu; exact h
  | succ n => exact k.2 n x u (by simpa [lget] using hx) (by simpa using hu)
theorem Seq.uncons {a : AV} {as : List AV} {vs : List Value} (h : Seq w E (a :: as) vs) : ∃ v us, vs = v :: us ∧ Rel w E a v ∧ Seq w E as us := by
  cases vs with
  | nil => have := h.1; simp at this
  | cons v us => exact ⟨v, us, rfl, h.2 0 a v rfl rfl, by have := h.1; simpa using this, fun i x u hx hu => h.2 (i + 1) x u (by simpa [lget] using hx) (by simpa using hu)⟩
theorem Seq.append {as bs : List AV} {vs us : List Value} (h : Seq w E as vs) (k : Seq w E bs us) : Seq w E (as ++ bs) (vs ++ us) := by
  induction as generalizing vs with
  | nil =>
    have : vs = [] := List.eq_nil_of_length_eq_zero h.1
    subst this
    exact k
  | cons a as ih =>
    obtain ⟨v, ws, rfl, h1, h2⟩ := h.uncons
    exact .cons h1 (ih h2)
theorem clL_append : ∀ {l l' : List AV}, clL l = true → clL l' = true → clL (l ++ l') = true
  | [], _, _, h => h
  | a :: l, l', h, h' => by simp [clL] at h ⊢; exact ⟨h.1, clL_append h.2 h'⟩

theorem one_some {α : Type} {cs : List AV} {f : AV → Option (α × List (Bool × Nat × Nat))} {g : Got α} (h : one cs f = some g) : ∃ a, cs = a :: g.rest ∧ f a = some (g.val, g.ids) := by
  cases cs with
  | nil => simp [one] at h
  | cons a r =>
    simp only [one, Option.bind_eq_some_iff] at h
    obtain ⟨x, hx, h⟩ := h
    cases h
    exact ⟨a, rfl, hx⟩
theorem whole_some {α : Type} {g : Got α} {x : α × List (Bool × Nat × Nat)} (h : whole g = some x) : g.rest = [] ∧ x = (g.val, g.ids) := by
  unfold whole at h
  split at h
  · rename_i hr; exact ⟨hr, (Option.some.inj h).symm⟩
  · cases h

theorem asSnil_some {a : AV} {n : Unit} (h : a.asSnil = some n) : a = .snil := by
  cases a <;> simp [AV.asSnil] at h ⊢
theorem asInt_some {k : IntKind} {a : AV} {n : Int} (h : a.asInt k = some n) : a = .int k n := by
  cases a <;> simp only [AV.asInt] at h <;> (try cases h)
  split at h <;> cases h
  rename_i e
  rw [e]
theorem asBool_some {a : AV} {n : Bool} (h : a.asBool = some n) : a = .bool n := by
  cases a <;> simp only [AV.asBool] at h <;> (try cases h)
  rfl
theorem asStr_some {a : AV} {n : ByteArray} (h : a.asStr = some n) : a = .str n := by
  cases a <;> simp only [AV.asStr] at h <;> (try cases h)
  rfl
theorem asAgg_some {a : AV} {l : List AV} (h : a.asAgg = some l) : a = .agg l := by
  cases a <;> simp only [AV.asAgg] at h <;> (try cases h)
  rfl
theorem asFn_some {f : Nat} {a : AV} {l : List AV} (h : a.asFn f = some l) : a = .fn f l := by
  cases a <;> simp only [AV.asFn] at h <;> (try cases h)
  split at h <;> cases h
  rename_i e
  rw [e]
theorem asBox_some {a : AV} {p : Nat × List AV} (h : a.asBox = some p) : a = .box p.1 0 p.2 := by
  unfold AV.asBox at h
  split at h <;> cases h
  rfl
theorem asPtr_some {a : AV} {l : List AV} (h : a.asPtr = some l) : a = .eptr l := by
  cases a <;> simp only [AV.asPtr] at h <;> (try cases h)
  rfl
theorem asTup_some {a : AV} {l : List AV} (h : a.asTup = some l) : a = .tup l := by
  cases a <;> simp only [AV.asTup] at h <;> (try cases h)
  rfl
theorem pair_inj {α β : Type} {a c : α} {b d : β} (h : some (a, b) = some (c, d)) : a = c ∧ b = d := by
  cases h
  exact ⟨rfl, rfl⟩

/-- Read with a shape in which nothing may be written. -/
theorem enc_clo {E' : Env} (hok : ∀ k b o, E.ok k b o → E'.ok k b o) {s : Sh} : ∀ {cs : List AV} {g : Got s.den} {vs : List Value}, s.clo = true → decX s cs = some g → Seq w E cs vs →
    clL (encX s g.val) = true ∧ ∃ us ws, vs = us ++ ws ∧ Seq w E' (encX s g.val) us ∧ Seq w E g.rest ws := by
  induction s generalizing E E' with
  | nil =>
    intro cs g vs hc h hs
    cases h
    exact ⟨rfl, [], vs, rfl, .nil, hs⟩
  | snil =>
    intro cs g vs hc h hs
    obtain ⟨a, h0, h1⟩ := one_some h
    subst h0
    obtain ⟨v, us, rfl, hr, hs1⟩ := hs.uncons
    obtain ⟨n, hn, h2⟩ := Option.bind_eq_some_iff.1 h1
    have h4 := asSnil_some hn
    subst h4
    cases hr
    exact ⟨rfl, [_], us, rfl, .cons (.snil _) .nil, hs1⟩
  | int k =>
    intro cs g vs hc h hs
    obtain ⟨a, h0, h1⟩ := one_some h
    subst h0
    obtain ⟨v, us, rfl, hr, hs1⟩ := hs.uncons
    obtain ⟨n, hn, h2⟩ := Option.bind_eq_some_iff.1 h1
    have h3 := (pair_inj h2).1
    have h4 := asInt_some hn
    subst h4
    cases hr
    exact ⟨rfl, [_], us, rfl, .cons (by rw [← h3]; exact .int _ _ _) .nil, hs1⟩
  | bool =>
    intro cs g vs hc h hs
    obtain ⟨a, h0, h1⟩ := one_some h
    subst h0
    obtain ⟨v, us, rfl, hr, hs1⟩ := hs.uncons
    obtain ⟨n, hn, h2⟩ := Option.bind_eq_some_iff.1 h1
    have h3 := (pair_inj h2).1
    have h4 := asBool_some hn
    subst h4
    cases hr
    exact ⟨rfl, [_], us, rfl, .cons (by rw [← h3]; exact .bool _ _) .nil, hs1⟩
  | str =>
    intro cs g vs hc h hs
    obtain ⟨a, h0, h1⟩ := one_some h
    subst h0
    obtain ⟨v, us, rfl, hr, hs1⟩ := hs.uncons
    obtain ⟨n, hn, h2⟩ := Option.bind_eq_some_iff.1 h1
    have h3 := (pair_inj h2).1
    have h4 := asStr_some hn
    subst h4
    cases hr
    exact ⟨rfl, [_], us, rfl, .cons (by rw [← h3]; exact .str _ _) .nil, hs1⟩
  | list t =>
    intro cs g vs hc h hs
    obtain ⟨a, h0, h1⟩ := one_some h
    subst h0
    obtain ⟨v, us, rfl, hr, hs1⟩ := hs.uncons
    obtain ⟨n, hn, h2⟩ := Option.bind_eq_some_iff.1 h1
    have h3 := (pair_inj h2).1
    exact ⟨rfl, [_], us, rfl, .cons (by rw [← h3]; exact ((elems_le hn w E v hr).1).ofClosed rfl hok) .nil, hs1⟩
  | own id e t => intro cs g vs hc; simp [Sh.clo] at hc
  | row id e t => intro cs g vs hc; simp [Sh.clo] at hc
  | agg t =>
    intro cs g vs hc h hs
    obtain ⟨a, h0, h1⟩ := one_some h
    subst h0
    obtain ⟨v, us, rfl, hr, hs1⟩ := hs.uncons
    obtain ⟨l, hl, h2⟩ := Option.bind_eq_some_iff.1 h1
    obtain ⟨x, hx, h3⟩ := Option.bind_eq_some_iff.1 h2
    have h4 := (pair_inj h3).1
    have h5 := asAgg_some hl
    subst h5
    have := agg_dec hx hr hok
    rw [h4] at this
    exact ⟨by simp only [encX, clL, AV.cl, Bool.and_true]; exact emb_cl _ _, [_], us, rfl, .cons this .nil, hs1⟩
  | fn f l ih =>
    intro cs g vs hc h hs
    obtain ⟨a, h0, h1⟩ := one_some h
    subst h0
    obtain ⟨v, us, rfl, hr, hs1⟩ := hs.uncons
    obtain ⟨m', hm, h2⟩ := Option.bind_eq_some_iff.1 h1
    obtain ⟨g', hg', h3⟩ := Option.bind_eq_some_iff.1 h2
    have h5 := asFn_some hm
    subst h5
    obtain ⟨hrest, h6⟩ := whole_some h3
    have h7 : g.val = g'.val := (Prod.mk.inj h6).1
    cases hr with
    | fn _ _ _ vs hs' hr =>
    obtain ⟨k1, us', ws', k2, k3, k4⟩ := ih hok (vs := vs.toList) hc hg' ⟨by simpa using hs', fun i a v ha hv => hr i a v ha (by simpa using hv)⟩
    rw [hrest] at k4
    have hw : ws' = [] := List.eq_nil_of_length_eq_zero k4.1
    subst hw
    simp only [List.append_nil] at k2
    subst k2
    refine ⟨by simp only [encX, clL, AV.cl, Bool.and_true]; rw [h7]; exact k1, [_], us, rfl, .cons ?_ .nil, hs1⟩
    rw [h7]
    exact .fn _ _ _ _ (by have := k3.1; simpa using this) fun i a v ha hv => k3.2 i a v ha (by simpa using hv)
  | box id l => intro cs g vs hc; simp [Sh.clo] at hc
  | ptr l ih =>
    intro cs g vs hc h hs
    obtain ⟨a, h0, h1⟩ := one_some h
    subst h0
    obtain ⟨v, us, rfl, hr, hs1⟩ := hs.uncons
    obtain ⟨m', hm, h2⟩ := Option.bind_eq_some_iff.1 h1
    split at h2
    case isFalse => cases h2
    rename_i hclo
    obtain ⟨g', hg', h3⟩ := Option.bind_eq_some_iff.1 h2
    have h5 := asPtr_some hm
    subst h5
    obtain ⟨hrest, h6⟩ := whole_some h3
    have h7 : g.val = g'.val := (Prod.mk.inj h6).1
    cases hr with
    | eptr _ _ b o cv hcs hcell hr =>
    obtain ⟨k1, us', ws', k2, k3, k4⟩ := ih (E := E.closed) (E' := E'.closed) hok (vs := (List.range m'.length).map cv) hclo hg' ⟨by simp, fun i a v ha hv => by
      have hlt : i < m'.length := (List.getElem?_eq_some_iff.1 (lget_eq _ _ ▸ ha)).1
      simp [hlt] at hv
      subst hv
      exact hr i a ha⟩
    rw [hrest] at k4
    have hw : ws' = [] := List.eq_nil_of_length_eq_zero k4.1
    subst hw
    simp only [List.append_nil] at k2
    subst k2
    have hlen : (encX l g'.val).length = m'.length := by have := k3.1; simpa using this.symm
    have hlt : ∀ j c, lget (encX l g'.val) j = some c → j < m'.length := fun j c hj => by
      have := (List.getElem?_eq_some_iff.1 (lget_eq _ _ ▸ hj)).1
      rwa [hlen] at this
    refine ⟨rfl, [_], us, rfl, .cons ?_ .nil, hs1⟩
    rw [h7]
    refine .eptr _ _ _ _ cv k1 (fun j c hj => ?_) (fun j c hj => k3.2 j c _ hj (by simp [hlt j c hj]))
    have hj' := hlt j c hj
    obtain ⟨c', hc'⟩ : ∃ c, lget m' j = some c := ⟨m'[j], by rw [lget_eq]; simp [hj']⟩
    exact ⟨(hcell j c' hc').1, (hcell j c' hc').2.1, hok _ _ _ (hcell j c' hc').2.2⟩
  | tup l ih =>
    intro cs g vs hc h hs
    obtain ⟨a, h0, h1⟩ := one_some h
    subst h0
    obtain ⟨v, us, rfl, hr, hs1⟩ := hs.uncons
    obtain ⟨m', hm, h2⟩ := Option.bind_eq_some_iff.1 h1
    obtain ⟨g', hg', h3⟩ := Option.bind_eq_some_iff.1 h2
    have h5 := asTup_some hm
    subst h5
    obtain ⟨hrest, h6⟩ := whole_some h3
    have h7 : g.val = g'.val := (Prod.mk.inj h6).1
    cases hr with
    | tup _ _ vs hs' hr =>
    obtain ⟨k1, us', ws', k2, k3, k4⟩ := ih hok (vs := vs.toList) hc hg' ⟨by simpa using hs', fun i a v ha hv => hr i a v ha (by simpa using hv)⟩
    rw [hrest] at k4
    have hw : ws' = [] := List.eq_nil_of_length_eq_zero k4.1
    subst hw
    simp only [List.append_nil] at k2
    subst k2
    refine ⟨by simp only [encX, clL, AV.cl, Bool.and_true]; rw [h7]; exact k1, [_], us, rfl, .cons ?_ .nil, hs1⟩
    rw [h7]
    exact .tup _ _ _ (by have := k3.1; simpa using this) fun i a v ha hv => k3.2 i a v ha (by simpa using hv)
  | pair s l ih1 ih2 =>
    intro cs g vs hc h hs
    simp only [Sh.clo, Bool.and_eq_true] at hc
    simp only [decX, Option.bind_eq_some_iff] at h
    obtain ⟨x, hx, y, hy, h⟩ := h
    cases h
    obtain ⟨h1, us, ws, rfl, h2, h3⟩ := ih1 hok hc.1 hx hs
    obtain ⟨k1, us', ws', rfl, k2, k3⟩ := ih2 hok hc.2 hy h3
    exact ⟨clL_append h1 k1, us ++ us', ws', by simp, h2.append k2, k3⟩

theorem asOwn_some {e : Nat} {t : Ty} {a : AV} {x : List t.den × Option Nat} (h : a.asOwn e t = some x) : (a = .snil ∧ x = ([], none)) ∨ ∃ i, a = .own i e t x.1 ∧ x.2 = some i := by
  unfold AV.asOwn at h
  split at h
  · exact .inl ⟨rfl, (Option.some.inj h).symm⟩
  · rename_i i e' u xs
    split at h
    case isFalse => cases h
    rename_i he
    subst he
    obtain ⟨ys, hy, h⟩ := Option.bind_eq_some_iff.1 h
    cases h
    obtain ⟨eu, ey⟩ := cast_eq hy
    subst eu
    subst ey
    exact .inr ⟨i, rfl, rfl⟩
  · cases h

theorem asRow_some {e : Nat} {t : Ty} {a : AV} {x : List t.den × Option Nat} (h : a.asRow e t = some x) : (a = .snil ∧ x = ([], none)) ∨ ∃ i, a = .row i e t x.1 ∧ x.2 = some i := by
  unfold AV.asRow at h
  split at h
  · exact .inl ⟨rfl, (Option.some.inj h).symm⟩
  · rename_i i e' u xs
    split at h
    case isFalse => cases h
    rename_i he
    subst he
    obtain ⟨ys, hy, h⟩ := Option.bind_eq_some_iff.1 h
    cases h
    obtain ⟨eu, ey⟩ := cast_eq hy
    subst eu
    subst ey
    exact .inr ⟨i, rfl, rfl⟩
  · cases h

/-- Read with any shape: under the shape's names. -/
theorem enc_ren (hids : idsOK E.dead N m = true) {s : Sh} : ∀ {cs : List AV} {g : Got s.den} {vs : List Value}, decX s cs = some g → (∀ p ∈ g.ids, p ∈ m) → Seq w E cs vs →
    ∃ us ws, vs = us ++ ws ∧ Seq w (E.ren m) (encX s g.val) us ∧ Seq w E g.rest ws := by
  have hok : ∀ k b o, E.ok k b o → (E.ren m).ok k b o := fun _ _ _ h => h
  obtain ⟨hN, hdead, hfun⟩ := idsOK_spec hids
  induction s with
  | nil => intro cs g vs h hm hs; obtain ⟨_, h⟩ := enc_clo hok (by rfl) h hs; exact h
  | snil => intro cs g vs h hm hs; obtain ⟨_, h⟩ := enc_clo hok (by rfl) h hs; exact h
  | int k => intro cs g vs h hm hs; obtain ⟨_, h⟩ := enc_clo hok (by rfl) h hs; exact h
  | bool => intro cs g vs h hm hs; obtain ⟨_, h⟩ := enc_clo hok (by rfl) h hs; exact h
  | str => intro cs g vs h hm hs; obtain ⟨_, h⟩ := enc_clo hok (by rfl) h hs; exact h
  | list t => intro cs g vs h hm hs; obtain ⟨_, h⟩ := enc_clo hok (by rfl) h hs; exact h
  | agg t => intro cs g vs h hm hs; obtain ⟨_, h⟩ := enc_clo hok (by rfl) h hs; exact h
  | ptr l ih =>
    intro cs g vs h hm hs
    obtain ⟨_, h⟩ := enc_clo hok (by rfl) h hs
    exact h
  | own id e t =>
    intro cs g vs h hm hs
    obtain ⟨a, h0, h1⟩ := one_some h
    subst h0
    obtain ⟨v, us, rfl, hr, hs1⟩ := hs.uncons
    obtain ⟨x, hx, h2⟩ := Option.bind_eq_some_iff.1 h1
    obtain ⟨h3, h4⟩ := pair_inj h2
    refine ⟨[v], us, rfl, .cons ?_ .nil, hs1⟩
    rcases asOwn_some hx with ⟨h0', hx2⟩ | ⟨i, h0', hi⟩
    · subst h0'
      have h5 : g.val = ([] : List t.den) := by rw [← h3, hx2]
      rw [h5]
      cases hr
      exact .own _ _ _ _ _ _ (.tl _ _ [] none 0 0 0 (fun _ _ => undef) (by simp) (fun h => absurd rfl h) (fun i x j c h => by simp at h) fun i x j c h => by simp at h) fun _ => .inl rfl
    · subst h0'
      rw [← h3]
      rw [hi] at h4
      have hmem : (false, id, i) ∈ m := hm _ (by rw [← h4]; simp)
      cases hr with
      | own _ _ _ _ _ _ htl ho =>
      refine .own _ _ _ _ _ _ (htl.ofClosed rfl fun _ _ _ h => h) fun _ => ?_
      rcases ho (hdead _ _ hmem) with hn | ⟨o1, o2, o3, o4⟩
      · exact .inl hn
      · exact .inr ⟨⟨i, hmem, o1⟩, o2, by rw [ren_σ hids hmem]; exact o3, fun k o h => by rw [ren_σ hids hmem]; exact o4 k o h⟩
  | row id e t =>
    intro cs g vs h hm hs
    obtain ⟨a, h0, h1⟩ := one_some h
    subst h0
    obtain ⟨v, us, rfl, hr, hs1⟩ := hs.uncons
    obtain ⟨x, hx, h2⟩ := Option.bind_eq_some_iff.1 h1
    obtain ⟨h3, h4⟩ := pair_inj h2
    refine ⟨[v], us, rfl, .cons ?_ .nil, hs1⟩
    rcases asRow_some hx with ⟨h0', hx2⟩ | ⟨i, h0', hi⟩
    · subst h0'
      have h5 : g.val = ([] : List t.den) := by rw [← h3, hx2]
      rw [h5]
      cases hr
      exact .rowN _ _ _ _
    · subst h0'
      rw [← h3]
      rw [hi] at h4
      have hmem : (true, id, i) ∈ m := hm _ (by rw [← h4]; simp)
      generalize x.1 = ys at hr ⊢
      cases hr with
      | rowN => exact .rowN _ _ _ _
      | row _ _ _ _ _ cap arr hl hh hn hm' hs' h1' hok' hr' =>
      have := Rel.row (w := w) (E.ren m) id e t ys cap arr ⟨i, hmem, hl⟩ (by rw [ren_σ hids hmem]; exact hh) hn hm' hs' h1' (fun k o => by rw [ren_σ hids hmem]; exact hok' k o) fun i' y j c u hy hj hu => (hr' i' y j c u hy hj hu).ofClosed (clL_get (emb_cl t y) hj) fun _ _ _ h => h
      rw [ren_σ hids hmem] at this
      exact this
  | fn f l ih =>
    intro cs g vs h hm hs
    obtain ⟨a, h0, h1⟩ := one_some h
    subst h0
    obtain ⟨v, us, rfl, hr, hs1⟩ := hs.uncons
    obtain ⟨m', hm', h2⟩ := Option.bind_eq_some_iff.1 h1
    obtain ⟨g', hg', h3⟩ := Option.bind_eq_some_iff.1 h2
    have h5 := asFn_some hm'
    subst h5
    obtain ⟨hrest, h6⟩ := whole_some h3
    have h7 : g.val = g'.val := (Prod.mk.inj h6).1
    have h8 : g.ids = g'.ids := (Prod.mk.inj h6).2
    cases hr with
    | fn _ _ _ vs hs' hr =>
    obtain ⟨us', ws', k2, k3, k4⟩ := ih (vs := vs.toList) hg' (by rw [← h8]; exact hm) ⟨by simpa using hs', fun i a v ha hv => hr i a v ha (by simpa using hv)⟩
    rw [hrest] at k4
    have hw : ws' = [] := List.eq_nil_of_length_eq_zero k4.1
    subst hw
    simp only [List.append_nil] at k2
    subst k2
    refine ⟨[_], us, rfl, .cons ?_ .nil, hs1⟩
    rw [h7]
    exact .fn _ _ _ _ (by have := k3.1; simpa using this) fun i a v ha hv => k3.2 i a v ha (by simpa using hv)
  | box id l ih =>
    intro cs g vs h hm hs
    obtain ⟨a, h0, h1⟩ := one_some h
    subst h0
    obtain ⟨v, us, rfl, hr, hs1⟩ := hs.uncons
    obtain ⟨p, hp, h2⟩ := Option.bind_eq_some_iff.1 h1
    obtain ⟨g', hg', h3⟩ := Option.bind_eq_some_iff.1 h2
    obtain ⟨x, hx, h4⟩ := Option.bind_eq_some_iff.1 h3
    have h5 := asBox_some hp
    subst h5
    obtain ⟨hrest, h6⟩ := whole_some hx
    obtain ⟨h7, h8⟩ := pair_inj h4
    rw [h6] at h7 h8
    simp only at h7 h8
    have hmem : (true, id, p.1) ∈ m := hm _ (by rw [← h8]; simp)
    cases hr with
    | box _ _ _ _ arr TT hl hh hs' h1' hok' hr =>
    obtain ⟨us', ws', k2, k3, k4⟩ := ih (vs := arr.toList) hg' (fun q hq => hm _ (by rw [← h8]; simp [hq])) ⟨by simpa using hs', fun i a v ha hv => hr i a v ha (by simpa using hv)⟩
    rw [hrest] at k4
    have hw : ws' = [] := List.eq_nil_of_length_eq_zero k4.1
    subst hw
    simp only [List.append_nil] at k2
    subst k2
    refine ⟨[_], us, rfl, .cons ?_ .nil, hs1⟩
    rw [← h7]
    have := Rel.box (w := w) (E.ren m) id 0 (encX l g'.val) arr TT ⟨p.1, hmem, hl⟩ (by rw [ren_σ hids hmem]; exact hh) (by have := k3.1; simpa using this) h1' (fun k o => by rw [ren_σ hids hmem]; exact hok' k o)
      fun i a v ha hv => k3.2 i a v ha (by simpa using hv)
    rw [ren_σ hids hmem] at this
    exact this
  | tup l ih =>
    intro cs g vs h hm hs
    obtain ⟨a, h0, h1⟩ := one_some h
    subst h0
    obtain ⟨v, us, rfl, hr, hs1⟩ := hs.uncons
    obtain ⟨m', hm', h2⟩ := Option.bind_eq_some_iff.1 h1
    obtain ⟨g', hg', h3⟩ := Option.bind_eq_some_iff.1 h2
    have h5 := asTup_some hm'
    subst h5
    obtain ⟨hrest, h6⟩ := whole_some h3
    have h7 : g.val = g'.val := (Prod.mk.inj h6).1
    have h8 : g.ids = g'.ids := (Prod.mk.inj h6).2
    cases hr with
    | tup _ _ vs hs' hr =>
    obtain ⟨us', ws', k2, k3, k4⟩ := ih (vs := vs.toList) hg' (by rw [← h8]; exact hm) ⟨by simpa using hs', fun i a v ha hv => hr i a v ha (by simpa using hv)⟩
    rw [hrest] at k4
    have hw : ws' = [] := List.eq_nil_of_length_eq_zero k4.1
    subst hw
    simp only [List.append_nil] at k2
    subst k2
    refine ⟨[_], us, rfl, .cons ?_ .nil, hs1⟩
    rw [h7]
    exact .tup _ _ _ (by have := k3.1; simpa using this) fun i a v ha hv => k3.2 i a v ha (by simpa using hv)
  | pair s l ih1 ih2 =>
    intro cs g vs h hm hs
    simp only [decX, Option.bind_eq_some_iff] at h
    obtain ⟨x, hx, y, hy, h⟩ := h
    cases h
    obtain ⟨us, ws, rfl, h2, h3⟩ := ih1 hx (fun p hp => hm p (by simp [hp])) hs
    obtain ⟨us', ws', rfl, k2, k3⟩ := ih2 hy (fun p hp => hm p (by simp [hp])) h3
    exact ⟨us ++ us', ws', by simp, h2.append k2, k3⟩

theorem gets_seq {fr : List AV} {tmps : Array Value} (hf : RelL w E fr tmps) : ∀ {l : List Nat} {as : List AV}, gets fr l = some as → as.length = l.length ∧ Seq w E as (l.map fun i => tmps.getD i undef)
  | [], as, h => by cases h; exact ⟨rfl, .nil⟩
  | i :: l, as, h => by
    simp only [gets, Option.bind_eq_some_iff] at h
    obtain ⟨a, ha, bs, hb, h⟩ := h
    cases h
    obtain ⟨h1, h2⟩ := gets_seq hf hb
    have hlt : i < tmps.size := by rw [hf.1]; rw [lget_eq] at ha; exact (List.getElem?_eq_some_iff.1 ha).1
    exact ⟨by simp [h1], .cons (hf.2 i a _ ha (by simp [Array.getD, hlt])) h2⟩

theorem putAt_rel {tmps : Array Value} {q : Nat} {v : Value} (hv : tmps[q]? = some v) : ∀ {l : List Nat} {as : List AV}, Seq w E as (l.map fun i => tmps.getD i undef) → Rel w E (putAt l as q) v
  | [], as, h => by
    cases as <;> exact .bot _ _
  | i :: l, [], h => .bot _ _
  | i :: l, a :: as, h => by
    obtain ⟨v', us, h1, h2, h3⟩ := h.uncons
    simp only [List.map_cons, List.cons.injEq] at h1
    obtain ⟨rfl, rfl⟩ := h1
    simp only [putAt]
    split
    · rename_i e
      subst e
      have hlt : q < tmps.size := (Array.getElem?_eq_some_iff.1 hv).1
      have : tmps.getD q undef = v := by
        simp only [Array.getD, hlt, dif_pos]
        exact (Array.getElem?_eq_some_iff.1 hv).2
      rw [← this]; exact h2
    · exact putAt_rel hv h3

/-- What was read stands for no less. -/
theorem Spec.dec_sound {sp : Spec} {s : AS} {x : sp.shape.den} (h : sp.dec s = some x) {GL : World → Prop} {B0 : Nat} {ok0 : Bool → Nat → Nat → Prop} {w0 : World} {bv : Array Value} {U0 : Nat → Prop} {n0 : Nat} {a : Act} (h0 : n0 = 0 ∧ ∀ q, ¬ U0 q) (hs : SimS GL B0 ok0 w0 bv U0 n0 s a w) : SimS GL B0 ok0 w0 bv U0 n0 (sp.enc x) a w := by
  obtain ⟨E, hd, hi, hf, hbg⟩ := hs
  unfold Spec.dec at h
  split at h
  case isFalse => cases h
  rename_i hlen
  obtain ⟨hlen, hbl⟩ := hlen
  simp only [Option.bind_eq_some_iff] at h
  obtain ⟨as, has, g, hg, y, hy, h⟩ := h
  split at h
  case isFalse => cases h
  rename_i hids
  cases h
  obtain ⟨hrest, rfl⟩ := whole_some hy
  simp only at hids ⊢
  rw [← hd] at hids
  obtain ⟨h1, h2⟩ := gets_seq hf has
  obtain ⟨us, ws, e, k1, k2⟩ := enc_ren hids hg (fun p hp => hp) h2
  rw [hrest] at k2
  have hw : ws = [] := List.eq_nil_of_length_eq_zero k2.1
  subst hw
  simp only [List.append_nil] at e
  refine ⟨E.ren g.ids, rfl, (hi.ren hids).mono fun q hq => .inr ⟨by rw [h0.1]; exact Nat.zero_le _, hq⟩, ?_, ⟨by rw [hbg.1, hbl]; rfl, fun i a v h => by simp [Spec.enc, lget] at h⟩⟩
  refine ⟨by simp [Spec.enc, Spec.frame, hf.1, hlen], fun i b v hb hv => ?_⟩
  simp only [Spec.enc, Spec.frame, lget_eq, List.getElem?_map] at hb
  have hlt : i < sp.n := by
    rw [← hlen, ← hf.1]; exact (Array.getElem?_eq_some_iff.1 hv).1
  simp [hlt] at hb
  subst hb
  exact putAt_rel hv (by rw [e]; exact k1)
end
end Go.Ai

set_option linter.unusedSimpArgs false
set_option linter.unusedVariables false
namespace Go.Ai
open Go Go.RowKit

/-! ### Loops -/
def OutT : List (AX × Spec) → Type
  | [] => Empty
  | p :: l => p.2.shape.den ⊕ OutT l

def encOut : (l : List (AX × Spec)) → OutT l → AX × AS
  | [], x => nomatch x
  | p :: l, .inl x => (p.1, p.2.enc x)
  | _ :: l, .inr x => encOut l x

def decOut : (l : List (AX × Spec)) → AX → AS → Option (OutT l)
  | [], _, _ => none
  | p :: l, x, s => if x = p.1 then (p.2.dec s).bind fun y => some (.inl y) else (decOut l x s).bind fun y => some (.inr y)

/-- How a round ends. -/
def lres (head : Spec) (exits : List (AX × Spec)) (k : head.shape.den → Option (OutT exits)) (x : AX) (s : AS) : Option (OutT exits) :=
  match x with
  | .normal => (head.dec s).bind k
  | x => decOut exits x s

theorem decOut_sound : ∀ {l : List (AX × Spec)} {x : AX} {s : AS} {o : OutT l}, decOut l x s = some o → (encOut l o).1 = x ∧ ∀ GL B0 ok0 w0 bv U0 n0 a w, (n0 = 0 ∧ ∀ q, ¬ U0 q) → SimS GL B0 ok0 w0 bv U0 n0 s a w → SimS GL B0 ok0 w0 bv U0 n0 (encOut l o).2 a w
  | [], x, s, o, h => by simp [decOut] at h
  | p :: l, x, s, o, h => by
    unfold decOut at h
    split at h
    · rename_i e
      obtain ⟨y, hy, h⟩ := Option.bind_eq_some_iff.1 h
      cases h
      exact ⟨e.symm, fun GL B0 ok0 w0 bv U0 n0 a w h0 hs => Spec.dec_sound hy h0 hs⟩
    · obtain ⟨y, hy, h⟩ := Option.bind_eq_some_iff.1 h
      cases h
      have ih := decOut_sound (l := l) hy
      exact ih

section
variable {P : Program} {GL : World → Prop} {T : Nat → Option TI} {O : Nat → List AV → Option AV} {X : Oper → Bool} {I : Nat → List AV → AS → Option (AV × AS)} {L : Nat → AS → Option (AX × AS)}

theorem loop_sound (hT : TOK P T) (hO : OOK P GL O) (hI : IOK P GL I) (hm : P.follows .mixedOrders = true) {c : Code} (hl : LoopsOK P GL false L c) {head : Spec} {exits : List (AX × Spec)} {F : Nat → head.shape.den → Option (OutT exits)}
    (h0 : ∀ st, F 0 st = none) (hF : ∀ n st, F (n + 1) st = (aexec T O X I L c (head.enc st)).bind fun r => lres head exits (F n) r.1 r.2) {n : Nat} {st : head.shape.den} {o : OutT exits} (h : F n st = some o) :
    Runs P GL false (.loop c) (head.enc st) (encOut exits o) := by
  refine ⟨fun h => (nomatch h), ?_⟩
  intro B0 ok0 w0 bv U0 n0 a w Q hmd hU hn0 hs hK
  have hz : n0 = 0 ∧ ∀ q, ¬ U0 q := hmd.elim (fun h => nomatch h) id
  refine wp_loop_fuel (fun n a' w' => ∃ st, F n st = some o ∧ SimS GL B0 ok0 w0 bv U0 n0 (head.enc st) a' w' ∧ a'.defers = a.defers) (fun n a1 w1 h1 => ?_) ⟨st, h, hs, rfl⟩
  obtain ⟨st, h1, h2, h3⟩ := h1
  cases n with
  | zero => rw [h0] at h1; cases h1
  | succ n =>
    rw [hF] at h1
    obtain ⟨⟨x, s'⟩, hr, h1⟩ := Option.bind_eq_some_iff.1 h1
    refine (aexec_sound hT hO hI hm c hl _ _ hr).2 B0 ok0 w0 bv U0 n0 a1 w1 _ hmd hU (by rw [hz.1]; exact Nat.zero_le _) h2 fun a2 w2 hs2 hd2 => ?_
    cases x with
    | normal =>
      simp only [lres] at h1
      obtain ⟨st', hst, h1⟩ := Option.bind_eq_some_iff.1 h1
      exact ⟨n, by omega, st', h1, Spec.dec_sound hst hz hs2, hd2.trans h3⟩
    | exit id =>
      obtain ⟨e, hsim⟩ := decOut_sound (show decOut exits (.exit id) s' = some o from h1)
      have := hK a2 w2 (hsim _ _ _ _ _ _ _ _ _ hz hs2) (hd2.trans h3)
      rw [e] at this
      exact this
    | ret =>
      obtain ⟨e, hsim⟩ := decOut_sound (show decOut exits .ret s' = some o from h1)
      have := hK a2 w2 (hsim _ _ _ _ _ _ _ _ _ hz hs2) (hd2.trans h3)
      rw [e] at this
      exact this

/-- A loop, as it is known: by its first region. -/
structure LEnt where
  id : Nat
  head : Spec
  exits : List (AX × Spec)
  f : head.shape.den → Option (OutT exits)

def ltab : List LEnt → Nat → AS → Option (AX × AS)
  | [], _, _ => none
  | e :: l, id, s => if e.id = id then (e.head.dec s).bind fun st => (e.f st).bind fun o => some (encOut e.exits o) else ltab l id s

/-- All the loops' bodies. -/
def loops : Code → List Code
  | .seq a b => loops a ++ loops b
  | .cond _ a b => loops a ++ loops b
  | .block _ a => loops a
  | .loop a => a :: loops a
  | _ => []

def LOK (P : Program) (GL : World → Prop) (L : Nat → AS → Option (AX × AS)) (a : Code) : Prop := ∀ s r, L (firstRegion a) s = some r → Runs P GL false (.loop a) s r

theorem loopsOK_of : ∀ {c : Code}, (∀ a ∈ loops c, LOK P GL L a) → LoopsOK P GL false L c
  | .seq a b, h => ⟨loopsOK_of fun x hx => h x (by simp [loops, hx]), loopsOK_of fun x hx => h x (by simp [loops, hx])⟩
  | .cond _ a b, h => ⟨loopsOK_of fun x hx => h x (by simp [loops, hx]), loopsOK_of fun x hx => h x (by simp [loops, hx])⟩
  | .block _ a, h => loopsOK_of (c := a) fun x hx => h x (by simp [loops, hx])
  | .loop a, h => h a (by simp [loops])
  | .skip, _ => trivial
  | .region .., _ => trivial
  | .rangeFunc .., _ => trivial
  | .exit _, _ => trivial
  | .scope _, _ => trivial
  | .label _, _ => trivial
  | .goto _, _ => trivial
  | .ret, _ => trivial
  | .refuse _, _ => trivial

theorem runs_of_dec {c : Code} {sp : Spec} {s : AS} {x : sp.shape.den} {r : AX × AS} (h : sp.dec s = some x) (hr : Runs P GL false c (sp.enc x) r) : Runs P GL false c s r :=
  ⟨fun h => (nomatch h), fun B0 ok0 w0 bv U0 n0 a w Q hmd hU hn hs hK => hr.2 B0 ok0 w0 bv U0 n0 a w Q hmd hU (by rw [(hmd.elim (fun h => nomatch h) id : n0 = 0 ∧ ∀ q, ¬ U0 q).1]; exact Nat.zero_le _) (Spec.dec_sound h (hmd.elim (fun h => nomatch h) id) hs) hK⟩

/-- An entry is right if its function is the loop's, at some count of rounds. -/
theorem lok_of (hT : TOK P T) (hO : OOK P GL O) (hI : IOK P GL I) (hm : P.follows .mixedOrders = true) {c : Code} (hl : LoopsOK P GL false L c) (e : LEnt) {F : Nat → e.head.shape.den → Option (OutT e.exits)} (fuel : e.head.shape.den → Nat)
    (hL : ∀ s, L (firstRegion c) s = (e.head.dec s).bind fun st => (e.f st).bind fun o => some (encOut e.exits o)) (hf : ∀ st, e.f st = F (fuel st) st)
    (h0 : ∀ st, F 0 st = none) (hF : ∀ n st, F (n + 1) st = (aexec T O X I L c (e.head.enc st)).bind fun r => lres e.head e.exits (F n) r.1 r.2) : LOK P GL L c := by
  intro s r h
  rw [hL] at h
  obtain ⟨st, hst, h⟩ := Option.bind_eq_some_iff.1 h
  obtain ⟨o, ho, h⟩ := Option.bind_eq_some_iff.1 h
  cases h
  rw [hf] at ho
  exact runs_of_dec hst (loop_sound hT hO hI hm hl h0 hF ho)

/-! ### Functions -/
/-- What is known of a function: at data of this shape it gives `f` of the data. -/
structure FSpec where
  g : Nat
  arg : Sh
  res : Sh
  f : arg.den → Option res.den

def headAV : List AV → AV
  | a :: _ => a
  | [] => .bot

def SpecOK (P : Program) (GL : World → Prop) (sp : FSpec) : Prop := ∀ x y, sp.f x = some y → CX P GL sp.g (encX sp.arg x) (headAV (encX sp.res y))

def otab : List FSpec → Nat → List AV → Option AV
  | [], _, _ => none
  | sp :: l, g, as =>
    if sp.g = g ∧ sp.arg.clo = true then
      match (decX sp.arg as).bind whole with
      | some x => (sp.f x.1).bind fun y => some (headAV (encX sp.res y))
      | none => otab l g as
    else otab l g as

theorem contract_dec {sp : FSpec} {as : List AV} {x : sp.arg.den × List (Bool × Nat × Nat)} {r : AV} (hc : sp.arg.clo = true) (hx : (decX sp.arg as).bind whole = some x) (h : CX P GL sp.g (encX sp.arg x.1) r) : CX P GL sp.g as r := by
  have key : ∀ (w : World) (ok : Bool → Nat → Nat → Prop) (vs : Array Value), RelL w ⟨ok, fun i => i, fun _ _ => False, fun _ => true⟩ as vs → RelL w ⟨ok, fun i => i, fun _ _ => False, fun _ => true⟩ (encX sp.arg x.1) vs := by
    intro w ok vs h3
    obtain ⟨g, hg, hw⟩ := Option.bind_eq_some_iff.1 hx
    obtain ⟨hrest, rfl⟩ := whole_some hw
    obtain ⟨_, us, ws, e, k1, k2⟩ := enc_clo (E := ⟨ok, fun i => i, fun _ _ => False, fun _ => true⟩) (E' := ⟨ok, fun i => i, fun _ _ => False, fun _ => true⟩) (fun _ _ _ h => h) hc hg (vs := vs.toList) ⟨by simpa using h3.1, fun i a v ha hv => h3.2 i a v ha (by simpa using hv)⟩
    rw [hrest] at k2
    have hw : ws = [] := List.eq_nil_of_length_eq_zero k2.1
    subst hw
    simp only [List.append_nil] at e
    subst e
    exact ⟨by have := k1.1; simpa using this, fun i a v ha hv => k1.2 i a v ha (by simpa using hv)⟩
  cases r <;> exact fun w ok vs h0 h1 h2 h3 => h w ok vs h0 h1 h2 (key w ok vs h3)

theorem ook_of : ∀ {l : List FSpec}, (∀ sp ∈ l, SpecOK P GL sp) → OOK P GL (otab l)
  | [], _ => fun g as r h => by simp [otab] at h
  | sp :: l, hl => fun g as r h => by
    have ih := ook_of (l := l) fun q hq => hl q (by simp [hq])
    unfold otab at h
    split at h
    · rename_i hc
      split at h
      · rename_i x hx
        obtain ⟨y, hy, h⟩ := Option.bind_eq_some_iff.1 h
        cases h
        rw [← hc.1]
        exact contract_dec hc.2 hx (hl sp (by simp) _ _ hy)
      · exact ih g as r h
    · exact ih g as r h

theorem rel_res {w : World} {ok : Bool → Nat → Nat → Prop} {r : AV} {v : Value} {res : Sh} {y : Got res.den} (hres : res.clo = true) (h : Rel w ⟨ok, fun i => i, fun _ _ => False, fun _ => true⟩ r v) (hd : decX res [r] = some y) (hw : y.rest = []) (h1 : ∃ v, encX res y.val = [v]) :
    Rel w ⟨ok, fun i => i, fun _ _ => False, fun _ => true⟩ (headAV (encX res y.val)) v := by
  obtain ⟨_, us, ws, e, r1, r2⟩ := enc_clo (E' := ⟨ok, fun i => i, fun _ _ => False, fun _ => true⟩) (fun _ _ _ h => h) hres hd (vs := [v]) (.cons h .nil)
  rw [hw] at r2
  have hw' : ws = [] := List.eq_nil_of_length_eq_zero r2.1
  subst hw'
  simp only [List.append_nil] at e
  subst e
  obtain ⟨u, hu⟩ := h1
  rw [hu] at r1 ⊢
  exact r1.2 0 u v rfl rfl

theorem contract_res {g : Nat} {as : List AV} {r : AV} {res : Sh} {y : Got res.den} (hres : res.clo = true) (h : Contract P GL g as r) (hd : decX res [r] = some y) (hw : y.rest = []) (h1 : ∃ v, encX res y.val = [v]) : Contract P GL g as (headAV (encX res y.val)) := by
  intro w ok vs k0 k1 k2 k3
  rcases h w ok vs k0 k1 k2 k3 with ⟨v, h2, h3⟩ | ⟨h2, h3⟩
  · exact .inl ⟨v, h2, rel_res hres h3 hd hw h1⟩
  · refine .inr ⟨h2, h3.mono fun e w' h => ?_⟩
    obtain ⟨v, ok', rfl, q1, q2, q3, q4, q5, q6⟩ := h
    exact ⟨v, ok', rfl, q1, q2, q3, q4, q5, rel_res hres q6 hd hw h1⟩

/-- A single value. -/
def Sh.single : Sh → Bool
  | .nil => false
  | .pair _ _ => false
  | _ => true

theorem single_enc {s : Sh} (h : s.single = true) (x : s.den) : ∃ v, encX s x = [v] := by
  cases s <;> simp [Sh.single] at h <;> exact ⟨_, rfl⟩

/-- A body, in data. -/
def bodyF (T : Nat → Option TI) (O : Nat → List AV → Option AV) (X : Oper → Bool) (I : Nat → List AV → AS → Option (AV × AS)) (L : Nat → AS → Option (AX × AS)) (fn : Func) (arg res : Sh) (x : arg.den) : Option res.den :=
  (abody T O X I L fn (encX arg x)).bind fun r => (decX res [r]).bind fun g => (whole g).bind fun y => some y.1

theorem enc_closed : ∀ {s : Sh} (x : s.den), s.clo = true → clL (encX s x) = true := by
  intro s
  induction s with
  | own => intro x h; simp [Sh.clo] at h
  | row => intro x h; simp [Sh.clo] at h
  | box => intro x h; simp [Sh.clo] at h
  | agg t => intro x h; simp only [encX, clL, AV.cl, Bool.and_true]; exact emb_cl _ _
  | fn f l ih => intro x h; simp only [encX, clL, AV.cl, Bool.and_true]; exact ih x h
  | tup l ih => intro x h; simp only [encX, clL, AV.cl, Bool.and_true]; exact ih x h
  | pair s l ih1 ih2 => intro x h; simp only [Sh.clo, Bool.and_eq_true] at h; exact clL_append (ih1 x.1 h.1) (ih2 x.2 h.2)
  | _ => intro x h; rfl

theorem spec_of_body (hT : TOK P T) (hO : OOK P GL O) (hI : IOK P GL I) (hm : P.follows .mixedOrders = true) {sp : FSpec} {fn : Func} {c : Code} (hf : P.funcs[sp.g]? = some fn) (hname : (fn.name == "runtime.NumGoroutine") = false)
    (hb : fn.body = some c) (hl : LoopsOK P GL false L c) (ha : ∀ x, clL (encX sp.arg x) = true) (hr : sp.res.clo = true) (hs : sp.res.single = true) (h : ∀ x, sp.f x = bodyF T O X I L fn sp.arg sp.res x) : SpecOK P GL sp := by
  intro x y hy
  rw [h] at hy
  unfold bodyF at hy
  obtain ⟨r, hr', hy⟩ := Option.bind_eq_some_iff.1 hy
  obtain ⟨g, hg, hy⟩ := Option.bind_eq_some_iff.1 hy
  obtain ⟨z, hz, hy⟩ := Option.bind_eq_some_iff.1 hy
  obtain ⟨hrest, rfl⟩ := whole_some hz
  cases hy
  obtain ⟨v, hv⟩ := single_enc hs g.val
  have hcl := enc_closed g.val hr
  refine CX.of (contract_res hr (contract_of_body hT hO hI hm hf hname hb hl (ha x) hr') hg hrest ⟨v, hv⟩) ?_
  rw [hv] at hcl ⊢
  simpa [clL, headAV] using hcl

end
end Go.Ai

set_option linter.unusedSimpArgs false
set_option linter.unusedVariables false
namespace Go.Ai
open Go Go.RowKit

/-- What a callee knows of the blocks. -/
def okEnv (ok : Bool → Nat → Nat → Prop) : Env := ⟨ok, fun i => i, fun _ _ => False, fun _ => true⟩

/-- A function that rewrites a row that is its caller's alone; `back`: it gives the row, cut. -/
def RowC (P : Program) (g h e : Nat) (t : Ty) (back : Bool) (f : List t.den → Option (List t.den)) : Prop :=
  ∀ xs ys, f xs = some ys → ys.length ≤ xs.length ∧
    (∀ args w, (callFunc g args).run P w = .ok (.enter g args) w) ∧
    (xs = [] → ∀ w, Calls P g #[.slice none 0 0, .func (.func h) #[] #[]] w fun en w' => en = .returned (if back = true then .slice none 0 0 else .tuple #[]) ∧ Below w.heap.size w w') ∧
    ∀ (w : World) (ok : Bool → Nat → Nat → Prop) (b cap : Nat) (arr : Array Value), w.heap[b]? = some (.cells arr e (0, 0)) → xs.length ≤ cap → cap ≤ maxLen → arr.size = cap * t.sz →
      (∀ (i : Nat) (v : Value), i < xs.length * t.sz → arr[i]? = some v → v.oneCell' = true) → (∀ k o, ¬ ok k b o) → (∀ k b o, ok k b o → b < w.heap.size) →
      (∀ (i : Nat) x j c u, xs[i]? = some x → lget (emb t x) j = some c → arr[i * t.sz + j]? = some u → Rel w (okEnv ok) c u) →
      Calls P g #[.slice (some ⟨b, 0, none⟩) xs.length cap, .func (.func h) #[] #[]] w fun en w' => ∃ arr', en = .returned (if back = true then .slice (some ⟨b, 0, none⟩) ys.length cap else .tuple #[]) ∧
        w'.os = w.os ∧ w'.tape = w.tape ∧ w'.output = w.output ∧ w.heap.size ≤ w'.heap.size ∧ (∀ k, k < w.heap.size → k ≠ b → w'.heap[k]? = w.heap[k]?) ∧
        w'.heap[b]? = some (.cells arr' e (0, 0)) ∧ arr'.size = arr.size ∧ (∀ (i : Nat) (v : Value), i < ys.length * t.sz → arr'[i]? = some v → v.oneCell' = true) ∧
        (∀ (i : Nat) x j c u, ys[i]? = some x → lget (emb t x) j = some c → arr'[i * t.sz + j]? = some u → Rel w' (okEnv ok) c u) ∧ (back = false → ∀ i, ys.length * t.sz ≤ i → arr'[i]? = arr[i]?)

/-- The call of such a function. -/
def rowCall (h e : Nat) (t : Ty) (back : Bool) (f : List t.den → Option (List t.den)) (as : List AV) (s : AS) : Option (AV × AS) :=
  match as with
  | [.row id e' u xs, .fn h' []] => if e' = e ∧ h' = h then (cast u t xs).bind fun xs => (f xs).bind fun ys =>
      if back = true then some (.tl t ys, { s with fr := killL id s.fr, bg := killL id s.bg })
      else some (.tup [], { s with fr := rsL id t ys s.fr, bg := rsL id t ys s.bg })
    else none
  | _ => none

theorem RelL.rs {w w' : World} {E : Env} {q : Nat} {u : Ty} {ys : List u.den} {as : List AV} {vs : Array Value} (h : RelL w E as vs) (f : ∀ a v, Rel w E a v → Rel w' E (a.rs q u ys) v) : RelL w' E (rsL q u ys as) vs := by
  refine ⟨by rw [rsL_length]; exact h.1, fun i a v ha hv => ?_⟩
  rw [lget_rsL] at ha
  obtain ⟨b, hb, rfl⟩ := Option.map_eq_some_iff.1 ha
  exact f _ _ (h.2 i b v hb hv)

/-- Nothing is written. -/
theorem Rel.rs_nil {w : World} {E : Env} {a : AV} {v : Value} (q : Nat) (u : Ty) (h : Rel w E a v) : Rel w E (a.rs q u []) v := by
  induction h with
  | bot => exact .bot _ _
  | int => exact .int _ _ _
  | bool => exact .bool _ _
  | str => exact .str _ _
  | snil => exact .snil _
  | agg E cs vs hs h1 h ih =>
    refine .agg _ _ _ (by rw [rsL_length]; exact hs) h1 fun i a v ha hv => ?_
    rw [lget_rsL] at ha
    obtain ⟨a', ha', rfl⟩ := Option.map_eq_some_iff.1 ha
    exact ih i a' v ha' hv
  | tup E cs vs hs h ih =>
    refine .tup _ _ _ (by rw [rsL_length]; exact hs) fun i a v ha hv => ?_
    rw [lget_rsL] at ha
    obtain ⟨a', ha', rfl⟩ := Option.map_eq_some_iff.1 ha
    exact ih i a' v ha' hv
  | tl E t xs a b o cap cv hcap ha hc hr ih => exact .tl _ _ _ _ b o _ cv hcap ha hc hr
  | clip E t xs a h ih => exact .clip _ _ _ _ h
  | own E id e t xs v h ho ih => exact .own _ _ _ _ _ _ h ho
  | box E id off cs arr T hl hh hs h1 hok' h ih =>
    simp only [AV.rs]
    split
    · exact .bot _ _
    · refine .box _ _ _ _ arr T hl hh (by rw [rsL_length]; exact hs) h1 hok' fun i a v ha hv => ?_
      rw [lget_rsL] at ha
      obtain ⟨a', ha', rfl⟩ := Option.map_eq_some_iff.1 ha
      exact ih i a' v ha' hv
  | eptr E cs b o cv hcl' hc hr ih => exact .eptr _ _ _ _ cv hcl' hc hr
  | fn E f caps vs hs h ih =>
    refine .fn _ _ _ _ (by rw [rsL_length]; exact hs) fun i a v ha hv => ?_
    rw [lget_rsL] at ha
    obtain ⟨a', ha', rfl⟩ := Option.map_eq_some_iff.1 ha
    exact ih i a' v ha' hv
  | rowN E id e t =>
    simp only [AV.rs]
    split
    · split
      · rename_i e2
        subst e2
        simp
        exact .rowN _ _ _ _
      · exact .bot _ _
    · exact .rowN _ _ _ _
  | row E id e t xs cap arr hl hh hn hm hs h1 hok' hr ih =>
    simp only [AV.rs]
    split
    · split
      · rename_i e2
        subst e2
        simp
        exact .row _ _ _ _ _ cap arr hl hh hn hm hs h1 hok' hr
      · exact .bot _ _
    · exact .row _ _ _ _ _ cap arr hl hh hn hm hs h1 hok' hr
  | rel E id e t xs n off cap h0 hl h ih =>
    simp only [AV.rs]
    split
    · exact .bot _ _
    · exact .rel _ _ _ _ _ _ _ cap h0 hl h

theorem rowCall_next {h e : Nat} {t : Ty} {back : Bool} {f : List t.den → Option (List t.den)} {as : List AV} {s s' : AS} {r : AV} (hr : rowCall h e t back f as s = some (r, s')) : s'.next = s.next := by
  unfold rowCall at hr
  split at hr
  case h_2 => cases hr
  split at hr
  case isFalse => cases hr
  obtain ⟨_, _, hr⟩ := Option.bind_eq_some_iff.1 hr
  obtain ⟨_, _, hr⟩ := Option.bind_eq_some_iff.1 hr
  split at hr <;> cases hr <;> rfl

theorem rowCall_ok {P : Program} {GL : World → Prop} {g h e : Nat} {t : Ty} {back : Bool} {f : List t.den → Option (List t.den)} (hC : RowC P g h e t back f) {as : List AV} {s s' : AS} {r : AV} (hr : rowCall h e t back f as s = some (r, s')) : s.next ≤ s'.next ∧
    ∀ (B0 : Nat) (ok0 : Bool → Nat → Nat → Prop) (w0 : World) (used : Nat → Prop) (w : World) (E : Env) (vs tv bv : Array Value), E.dead = s.dead → Inv GL B0 ok0 w0 w E used → (∀ i, used i → i < s.next) → RelL w E as vs → RelL w E s.fr tv → RelL w E s.bg bv →
      (callFunc g vs).run P w = .ok (.enter g vs) w ∧ Calls P g vs w fun e w' => ∃ v E', e = .returned v ∧ E'.dead = s'.dead ∧ Inv GL B0 ok0 w0 w' E' (fun i => used i ∨ (s.next ≤ i ∧ i < s'.next)) ∧ Rel w' E' r v ∧ RelL w' E' s'.fr tv ∧ RelL w' E' s'.bg bv := by
  refine ⟨Nat.le_of_eq (rowCall_next hr).symm, ?_⟩
  unfold rowCall at hr
  split at hr
  case h_2 => cases hr
  rename_i id e' u xs0 h'
  split at hr
  case isFalse => cases hr
  rename_i hh
  obtain ⟨rfl, rfl⟩ := hh
  obtain ⟨xs, hx', hr2⟩ := Option.bind_eq_some_iff.1 hr
  clear hr
  obtain ⟨eu, ex⟩ := cast_eq hx'
  subst eu
  subst ex
  obtain ⟨ys, hys, hr⟩ := Option.bind_eq_some_iff.1 hr2
  intro B0 ok0 w0 used w E vs tv bv hd hi hu hargs hfr hbg
  obtain ⟨hlen, hent, hnil, hrun⟩ := hC _ _ hys
  refine ⟨hent _ _, ?_⟩
  obtain ⟨v1, v2, rfl, h1, h2⟩ : ∃ v1 v2, vs = #[v1, v2] ∧ Rel w E (.row id e' u xs) v1 ∧ Rel w E (.fn h' []) v2 := by
    obtain ⟨l⟩ := vs
    match l, hargs.1 with
    | [a, b], _ => exact ⟨a, b, rfl, hargs.2 0 _ a rfl rfl, hargs.2 1 _ b rfl rfl⟩
  obtain rfl : v2 = .func (.func h') #[] #[] := by
    cases h2 with
    | fn _ _ _ cvs hs _ =>
      have : cvs = #[] := Array.eq_empty_of_size_eq_zero (by simpa using hs)
      rw [this]
  cases h1 with
  | rowN =>
    refine (hnil rfl w).mono fun en w' hq => ?_
    obtain ⟨rfl, hb⟩ := hq
    have hys0 : ys = [] := List.eq_nil_of_length_eq_zero (by simpa using hlen)
    subst hys0
    have hsz := hb.size
    have hblk : ∀ k, k < w.heap.size → w'.heap[k]? = w.heap[k]? := hb.block
    have m : Mono w E w' E := ⟨fun _ _ _ h => h, fun k b' o h => cell_other (hblk _ (hi.okB _ _ _ h)), fun _ h => h, fun i h => ⟨h, rfl, hblk _ (hi.lvb _ _ h).2, fun _ _ h => h⟩, fun i _ h => ⟨h, rfl, hblk _ (hi.lvb _ _ h).2, fun _ _ h => h⟩⟩
    have m2 : Mono w (E.drop id) w' E := ⟨fun _ _ _ h => h, fun k b' o h => cell_other (hblk _ (hi.okB _ _ _ h)), fun _ h => h, fun i h => ⟨h.1, rfl, hblk _ (hi.lvb _ _ h.1).2, fun _ _ h => h⟩, fun i _ h => ⟨h.1, rfl, hblk _ (hi.lvb _ _ h.1).2, fun _ _ h => h⟩⟩
    have hbase := hi.base
    have hinv : Inv GL B0 ok0 w0 w' E used := ⟨hi.below.trans ⟨hb.os, hb.tape, hb.output, hsz, fun k hk => hblk k (by omega)⟩, by omega, fun k b o h => by have := hi.okB k b o h; omega, hi.okm, hi.lvu, fun k i h => by have := hi.lvb k i h; omega, hi.inj, hi.box, hi.oke, hi.okN, hi.glo⟩
    split at hr
    · rename_i hbk
      cases hr
      exact ⟨_, E, rfl, hd, hinv.mono fun _ h => .inl h, by rw [if_pos hbk]; exact .tl _ _ [] none 0 0 0 (fun _ _ => undef) (by simp) (fun h => absurd rfl h) (fun i x j c h => by simp at h) (fun i x j c h => by simp at h), (hfr.kill id).mono m2, (hbg.kill id).mono m2⟩
    · rename_i hbk
      cases hr
      exact ⟨_, E, rfl, hd, hinv.mono fun _ h => .inl h, by rw [if_neg hbk]; exact .tup _ _ _ rfl (fun i a v h => by simp [lget] at h), hfr.rs fun a v h => (h.mono m).rs_nil id u, hbg.rs fun a v h => (h.mono m).rs_nil id u⟩
  | row _ _ _ _ _ cap arr hl hheap hn hm hs h1' hok hrel =>
    have hel : ∀ (i : Nat) x j c v, xs[i]? = some x → lget (emb u x) j = some c → arr[i * u.sz + j]? = some v → Rel w (okEnv E.ok) c v := fun i x j c v hx hj hv => (hrel i x j c v hx hj hv).ofClosed (clL_get (emb_cl u x) hj) fun _ _ _ h => h
    refine (hrun w E.ok (E.σ id) cap arr hheap hn hm hs h1' hok hi.okB hel).mono fun en w' hq => ?_
    obtain ⟨arr', rfl, ho1, ho2, ho3, hsz, hother, hnew, hasz, hone, hrel', hout⟩ := hq
    have hbase := hi.base
    have hB0 : B0 ≤ E.σ id := (hi.lvb _ _ hl).1
    have hinv : Inv GL B0 ok0 w0 w' E used := ⟨hi.below.trans ⟨ho1, ho2, ho3, hsz, fun k hk => hother k (by omega) (by omega)⟩, by omega, fun k b o h => by have := hi.okB k b o h; omega, hi.okm, hi.lvu, fun k i h => by have := hi.lvb k i h; omega, hi.inj, hi.box, hi.oke, hi.okN, hi.glo⟩
    have hinj : ∀ k i, E.lv k i → E.σ i = E.σ id → k = true ∧ i = id := fun k i h e => hi.inj k i true id h hl e
    have hcells : ∀ k b o, E.ok k b o → w'.cell? ⟨b, o, none⟩ = w.cell? ⟨b, o, none⟩ := fun k b o h => cell_other (hother _ (hi.okB _ _ _ h) (by rintro rfl; exact hok _ _ h))
    have hrel2 : ∀ (i : Nat) x j c v, ys[i]? = some x → lget (emb u x) j = some c → arr'[i * u.sz + j]? = some v → Rel w' E.closed c v := fun i x j c v hx hj hv => (hrel' i x j c v hx hj hv).ofClosed (clL_get (emb_cl u x) hj) fun _ _ _ h => h
    split at hr
    · rename_i hbk
      cases hr
      let E' : Env := ⟨fun k b' o => E.ok k b' o ∨ (b' = E.σ id ∧ o < ys.length * u.sz), E.σ, fun k i => E.lv k i ∧ ¬ (k = true ∧ i = id), E.dead⟩
      have hne : ∀ k i, E.lv k i → ¬ (k = true ∧ i = id) → E.σ i ≠ E.σ id := fun k i h hn e => hn (hinj k i h e)
      have hno : ∀ k i, E.lv k i → ¬ (k = true ∧ i = id) → ∀ q o, ¬ E.ok q (E.σ i) o → ¬ E'.ok q (E.σ i) o := by
        rintro k i h hn q o hq (h' | ⟨h', _⟩)
        · exact hq h'
        · exact hne k i h hn h'
      have m2 : Mono w (E.drop id) w' E' := by
        refine ⟨fun _ _ _ h => .inl h, hcells, fun _ h => h, fun i h => ⟨h, rfl, hother _ (hi.lvb _ _ h.1).2 (hne _ _ h.1 h.2), fun q o hq => hno _ i h.1 h.2 q o hq⟩, fun i _ h => ⟨h, rfl, hother _ (hi.lvb _ _ h.1).2 (hne _ _ h.1 h.2), fun q o hq => hno _ i h.1 h.2 q o hq⟩⟩
      have hlvs : E.σ id < w.heap.size := (hi.lvb _ _ hl).2
      have hinv' : Inv GL B0 ok0 w0 w' E' used := by
        refine ⟨hinv.below, hinv.base, fun k b o h => ?_, fun b o h => h.imp (hi.okm _ _) fun h => h, fun k i h => hi.lvu k i h.1, fun k i h => hinv.lvb k i h.1, fun k i k' i' h h' e => hi.inj k i k' i' h.1 h'.1 e, fun i h k o => hno _ i h.1 h.2 k o (hi.box i h.1 k o), fun k b o h => .inl (hi.oke k b o h), fun k b o h => ?_, hi.glo⟩
        · rcases h with h | ⟨rfl, _⟩
          · exact hinv.okB k b o h
          · omega
        · rcases h with h | ⟨rfl, _⟩
          · exact hi.okN k b o h
          · exact .inr hB0
      refine ⟨_, E', rfl, hd, hinv'.mono fun _ h => .inl h, ?_, (hfr.kill id).mono m2, (hbg.kill id).mono m2⟩
      rw [if_pos hbk]
      have hincl : ∀ k b o, E.closed.ok k b o → E'.closed.ok k b o := fun _ _ _ h => .inl h
      refine .tl _ u ys _ (E.σ id) 0 cap (fun i j => arr'[i * u.sz + j]?.getD undef) (Nat.le_trans hlen hn) (fun _ => rfl) (fun i x j c hx hj => ?_) fun i x j c hx hj => ?_
      · have hlt := row_in (Nat.le_trans hlen hn) (hasz.trans hs) hx hj
        have hlt2 := row_in (Nat.le_refl _) rfl hx hj
        refine ⟨by simp [World.cell?, hnew, hlt], hone _ _ hlt2 (by simp [hlt]), .inr ⟨rfl, by omega⟩⟩
      · have hlt := row_in (Nat.le_trans hlen hn) (hasz.trans hs) hx hj
        exact (hrel2 i x j c _ hx hj (by simp [hlt])).ofClosed (clL_get (emb_cl u x) hj) hincl
    · rename_i hbk
      cases hr
      have hbk' : back = false := by simpa using hbk
      have key : ∀ a v, Rel w E a v → Rel w' E (a.rs id u ys) v := fun a v h => Rel.rs hl (fun b h1 h2 => hother b h1 h2) hheap hnew hasz hone hok hi.okB (fun k i h => (hi.lvb k i h).2) hinj hrel2 (hout hbk') h
      refine ⟨_, E, rfl, hd, hinv.mono fun _ h => .inl h, ?_, hfr.rs key, hbg.rs key⟩
      rw [if_neg hbk]
      exact .tup _ _ _ rfl (fun i a v h => by simp [lget] at h)
end Go.Ai

set_option linter.unusedSimpArgs false
set_option linter.unusedVariables false
namespace Go.Ai
open Go Go.RowKit

/-! The executor once more, with what follows handed in: what hangs on data stands outside, so that a body's value is a plain term. -/
variable {α : Type}

/-- A choice that hangs on data. -/
def brK (t : Bool) (x y : Option α) : Option α :=
  match t with
  | true => x
  | false => y

/-- A part that may fail, and what follows. -/
def bindK {β : Type} (o : Option β) (k : β → Option α) : Option α := o.bind k

def forceL : List AV → (List AV → Option α) → Option α
  | [], k => k []
  | a :: l, k => forceL l fun l' => k (a :: l')

def forceN (n : Nat) (k : Nat → Option α) : Option α :=
  match n with
  | 0 => k 0
  | m + 1 => k (m + 1)
theorem forceN_eq (n : Nat) (k : Nat → Option α) : forceN n k = k n := by cases n <;> rfl

theorem forceL_eq : ∀ (l : List AV) (k : List AV → Option α), forceL l k = k l
  | [], _ => rfl
  | a :: l, k => forceL_eq l _

/-- A byte of a string. -/
def strAt (s : ByteArray) (n : Int) : Option Int := if n < 0 then none else (s.data[n.toNat]?).bind fun c => some (c.toNat : Int)

def guardK (ops : List Oper) (o : Oper) (fr : List AV) (yes no : List AV → Option α) : Option α :=
  match o.guard with
  | none => yes fr
  | some (j, want) => (lget ops j).bind fun p => p.dst.bind fun d => (lget fr d).bind fun a => match a with
    | .bool b => match want with
      | true => brK b (yes (lset fr d (.bool true))) (no (lset fr d (.bool false)))
      | false => brK b (no (lset fr d (.bool true))) (yes (lset fr d (.bool false)))
    | .tup [] => no fr
    | _ => none

def setB (fr : List AV) (c : Operand) (b : Bool) : List AV :=
  match c with
  | .tmp d => lset fr d (.bool b)
  | _ => fr

def aintK (op : BinOp) (k : IntKind) (a b : Int) (K : AV → Option α) : Option α :=
  match op with
  | .quo => brK (decide (b = 0)) none (K (.int k (k.wrap (a.tdiv b))))
  | .rem => brK (decide (b = 0)) none (K (.int k (a.tmod b)))
  | op => (aint op k a b).bind K

def abinK (op : BinOp) (x y : AV) (K : AV → Option α) : Option α :=
  match x, y with
  | .int k a, .int k' b =>
    match op with
    | .shl => brK (decide (b < 0)) none (K (.int k (k.wrap (a * 2 ^ (min b.toNat k.bits)))))
    | .shr => brK (decide (b < 0)) none (K (.int k (a.fdiv (2 ^ (min b.toNat k.bits)))))
    | op => if k = k' then aintK op k a b K else none
  | .str a, .str b =>
    match op with
    | .add => brK (decide (a.size + b.size ≤ 140737488355328)) (K (.str (a ++ b))) none
    | op => (abin op (.str a) (.str b)).bind K
  | _, _ => none

section
variable (T : Nat → Option TI) (OK : Nat → List AV → (AV → Option α) → Option α)

def acallK (id : Nat) (f : AV) (as : List AV) (K : AV → Option α) : Option α :=
  match f with
  | .fn g caps => OK g (escL (as ++ caps)) fun r => match r with
    | .own _ e t xs => if nbL (as ++ caps) = true then K (.own id e t xs) else none
    | r => if (r.cl && (nbL (as ++ caps) || r.np)) = true then K r else none
  | _ => none

def aappendK (id : Nat) (t t' : Nat) (s x : AV) (K : AV → Option Nat → Option α) : Option α :=
  if t ≠ t' then none else
    (T t).bind fun i => match i.kind with
    | .slice e => (T e).bind fun j => (x.elems j.ty).bind fun zs =>
      if j.sz = 0 then none else
      match s with
      | .snil => brK (fits 0 zs.length j.bytes) (K (.own id e j.ty zs) none) none
      | .own d e' u ys => if e' ≠ e then none else (cast u j.ty ys).bind fun ys =>
        brK (fits ys.length zs.length j.bytes) (K (.own id e j.ty (ys ++ zs)) (some d)) none
      | .clip u ys => (cast u j.ty ys).bind fun ys => brK (fits ys.length zs.length j.bytes) (K (.tl j.ty (ys ++ zs)) none) none
      | _ => none
    | _ => none

def asliceK (t : Nat) (a : AV) (l hv m : Option AV) (K : AV → Option α) : Option α :=
  (T t).bind fun i => match i.kind, a, m with
    | .str, .str s, none => (abound l 0).bind fun l => (abound hv s.size).bind fun h =>
      brK (decide (0 ≤ l ∧ l ≤ h ∧ h ≤ s.size)) (K (.str (s.extract l.toNat h.toNat))) none
    | .slice e, a, none => (T e).bind fun j => (a.elems j.ty).bind fun xs => (abound l 0).bind fun l => (abound hv xs.length).bind fun h =>
      brK (decide (0 ≤ l ∧ l ≤ h ∧ h ≤ xs.length)) (K (.tl j.ty ((xs.take h.toNat).drop l.toNat))) none
    | .slice e, a, some (.int _ m) => (T e).bind fun j => (a.elems j.ty).bind fun xs => (abound hv xs.length).bind fun h =>
      if hv.isSome = true ∧ l.isNone = true then brK (decide (0 ≤ h ∧ h ≤ xs.length ∧ h = m)) (K (.clip j.ty (xs.take h.toNat))) none else none
    | _, _, _ => none

def aindexK (t : Nat) (a n : AV) (K : AV → Option α) : Option α :=
  (T t).bind fun i => match i.kind, n with
    | .slice e, .int _ n => (T e).bind fun j => match a with
      | .row q e' u xs => if e' = e ∧ u = j.ty then bindK (listAt xs n) fun _ => K (.rel q e' u xs n 0) else none
      | a => (a.elems j.ty).bind fun xs => bindK (listAt xs n) fun x => K (.eptr (emb j.ty x))
    | _, _ => none

def abinTK (op : BinOp) (t : Nat) (x y : AV) (K : AV → Option α) : Option α :=
  match x, y with
  | .bool a, .bool b => (abinT T op t (.bool a) (.bool b)).bind K
  | x, y => abinK op x y K

def avalK (id : Nat) (o : Oper) (fr : List AV) (K : List AV → AV → Option Nat → Option α) : Option α :=
  match o.op with
  | .pick c a b => (aget fr c).bind fun t => match t with
    | .bool t => brK t ((aget fr a).bind fun a => K (setB fr c true) a none) ((aget fr b).bind fun b => K (setB fr c false) b none)
    | _ => none
  | .load t x => (T t).bind fun i => (aget fr x).bind fun p => match p with
    | .box _ off cs => (apart i.kind.isAgg i.sz off cs).bind fun v => K fr v none
    | .eptr cs => (apart i.kind.isAgg i.sz 0 cs).bind fun v => K fr v none
    | .rel _ _ u xs n off => bindK (listAt xs n) fun z => (apart i.kind.isAgg i.sz off (emb u z)).bind fun v => K fr v none
    | _ => none
  | .binOp op t x y _ => (aget fr x).bind fun a => (aget fr y).bind fun b => abinTK T op t a b fun v => K fr v none
  | .slice t x lo hi mx => (aget fr x).bind fun a => (agetO fr lo).bind fun l => (agetO fr hi).bind fun h => (agetO fr mx).bind fun m => asliceK T t a l h m fun v => K fr v none
  | .indexAddr t x ix => (aget fr x).bind fun a => (aget fr ix).bind fun n => aindexK T t a n fun v => K fr v none
  | .makeSlice t l c => (T t).bind fun i => match i.kind with
    | .slice e => (T e).bind fun j => (aget fr l).bind fun l => (aget fr c).bind fun c => match l, c with
      | .int _ l, .int _ c => (dec j.ty j.zero.cells).bind fun z => brK (decide (0 ≤ l ∧ l ≤ c ∧ (j.bytes : Int) * c ≤ 281474976710656 ∧ c ≤ 9223372036854775807)) (K fr (.own id e j.ty (List.replicate l.toNat z)) none) none
      | _, _ => none
    | _ => none
  | .index t x ix => (T t).bind fun i => (aget fr x).bind fun a => (aget fr ix).bind fun n => match i.kind, a, n with
    | .str, .str s, .int _ n => bindK (strAt s n) fun c => K fr (.int .u8 c) none
    | _, _, _ => none
  | .call c => match c.callee with
    | .builtin .append => (agets fr c.args.toList).bind fun as => match c.argTypes.toList, as with
      | [t, t'], [s, x] => aappendK T id t t' s x fun v d => K fr v d
      | _, _ => none
    | .builtin b => (agets fr c.args.toList).bind fun as => (abuiltin T id b c.argTypes.toList as).bind fun r => K fr r.1 r.2
    | .value f => (aget fr f).bind fun g => (agets fr c.args.toList).bind fun as => acallK OK id g as fun r => K fr r none
    | _ => none
  | _ => (aval T (fun _ _ => none) id o fr).bind fun r => K fr r.1 r.2

variable (X : Oper → Bool) (IK : Nat → List AV → AS → (AV → AS → Option α) → Option α)

def aappRK (id : Nat) (t t' : Nat) (a x : AV) (dst : Option Nat) (s : AS) (K : AS → Option α) : Option α :=
  if t ≠ t' then none else
    (T t).bind fun i => match i.kind with
    | .slice e => (T e).bind fun j => (x.elems j.ty).bind fun zs =>
      if j.sz = 0 then none else
      match a with
      | .snil => brK (fits 0 zs.length j.bytes) (forceL (aput s.fr dst (.row id e j.ty zs)) fun fr => K { s with fr := fr }) none
      | .row d e' u ys => if e' ≠ e then none else (cast u j.ty ys).bind fun ys =>
        brK (fits ys.length zs.length j.bytes) (forceL (aput (killL d s.fr) dst (.row id e j.ty (ys ++ zs))) fun fr => forceL (killL d s.bg) fun bg => K { s with fr := fr, bg := bg }) none
      | _ => none
    | _ => none

def aeffK (lim id : Nat) (o : Oper) (s : AS) (K : AS → Option α) : Option α :=
  match o.op with
  | .makeSlice t l c => (T t).bind fun i => match i.kind with
    | .slice e => (T e).bind fun j => (aget s.fr l).bind fun l => (aget s.fr c).bind fun c => match l, c with
      | .int _ l, .int _ c => (dec j.ty j.zero.cells).bind fun z => brK (decide (0 ≤ l ∧ l ≤ c ∧ (j.bytes : Int) * c ≤ 281474976710656 ∧ c ≤ 9223372036854775807)) (forceL (aput s.fr o.dst (.row id e j.ty (List.replicate l.toNat z))) fun fr => K { s with fr := fr }) none
      | _, _ => none
    | _ => none
  | .call c => match c.callee with
    | .builtin .append => (agets s.fr c.args.toList).bind fun as => match c.argTypes.toList, as with
      | [t, t'], [a, x] => aappRK T id t t' a x o.dst s K
      | _, _ => none
    | .value f => (aget s.fr f).bind fun g => (agets s.fr c.args.toList).bind fun as => match g with
      | .fn q caps => IK q (as ++ caps) { s with next := max s.next lim } fun r s' => forceL (aput s'.fr o.dst r) fun fr => K { s' with fr := fr }
      | _ => none
    | _ => none
  | _ => none

def astepK (ops : List Oper) (lim id : Nat) (o : Oper) (s : AS) (K : AS → Option α) : Option α :=
  guardK ops o s.fr (fun fr =>
    if X o = true then aeffK T IK lim id o { s with fr := fr } K else
    match o.op with
    | .store t x y => if o.dst.isSome = true then none else (T t).bind fun ti => (aget fr x).bind fun p => (aget fr y).bind fun v => match p with
      | .box id off cs => if ocells v.cells = false ∨ ocells cs = false ∨ v.cells.length ≠ ti.sz ∨ off + ti.sz > cs.length then none else
        forceL (updL id (cs.take off ++ v.cells ++ cs.drop (off + ti.sz)) fr) fun fr => forceL (updL id (cs.take off ++ v.cells ++ cs.drop (off + ti.sz)) s.bg) fun bg => K { s with fr := fr, bg := bg }
      | .rel q e u xs n off => if ocells v.cells = false ∨ v.cells.length ≠ ti.sz then none else
        bindK (listAt xs n) fun z => (splice u z off v.cells).bind fun z' => forceL (stL q u n.toNat z' fr) fun fr => forceL (stL q u n.toNat z' s.bg) fun bg => K { s with fr := fr, bg := bg }
      | _ => none
    | _ => avalK T OK id o fr fun fr v dk => (akill dk s.dead).bind fun d => forceL (aput fr o.dst v) fun fr => K { s with fr := fr, dead := d })
    fun fr => forceL (aput fr o.dst (.tup [])) fun fr => K { s with fr := fr }

def astepsK (ops : List Oper) (base : Nat) : Nat → List Oper → AS → (AS → Option α) → Option α
  | _, [], s, K => K s
  | i, o :: l, s, K => astepK T OK X IK ops (base + ops.length) (base + i) o s fun s => astepsK ops base (i + 1) l s K

variable (LK : Nat → AS → (AX → AS → Option α) → Option α)

def aexecK : Code → AS → (AX → AS → Option α) → Option α
  | .skip, s, K => K .normal s
  | .region _ ops d, s, K => if d = true ∧ drawOK X ops.toList = false then none else astepsK T OK X IK ops.toList s.next 0 ops.toList s fun s' => forceN (max s'.next (s.next + ops.toList.length)) fun n => K .normal { s' with next := n }
  | .seq a b, s, K => aexecK a s fun x s => match x with
    | .normal => aexecK b s K
    | x => K x s
  | .cond c x y, s, K => (aget s.fr c).bind fun t => match t with
    | .bool t => brK t (aexecK x { s with fr := setB s.fr c true } K) (aexecK y { s with fr := setB s.fr c false } K)
    | _ => none
  | .block id c, s, K => aexecK c s fun x s => match x with
    | .exit j => if j = id then K .normal s else K (.exit j) s
    | x => K x s
  | .loop c, s, K => LK (firstRegion c) s K
  | .exit id, s, K => K (.exit id) s
  | .ret, s, K => K .ret s
  | _, _, _ => none

def bodyK (fn : Func) (arg res : Sh) (x : arg.den) (fin : Option res.den → Option α) : Option α :=
  fn.body.bind fun c => aexecK T OK X IK LK c { fr := startFrame fn (encX arg x), dead := fun _ => false, next := 0, bg := [] } fun x s => match x with
    | .exit _ => none
    | _ => (aresults T s.fr fn.results.toList).bind fun vs => (decX res [tupled vs]).bind fun g => (whole g).bind fun y => fin (some y.1)

def ainlineK (fn : Func) (args : List AV) (s : AS) (K : AV → AS → Option α) : Option α :=
  fn.body.bind fun c => aexecK T OK X IK (fun _ _ _ => none) c { fr := startFrame fn args, dead := s.dead, next := s.next, bg := s.fr ++ s.bg } fun x s' => match x with
    | .exit _ => none
    | _ => (aresultsF T (fun a => a) s'.fr fn.results.toList).bind fun vs => forceL (s'.bg.take s.fr.length) fun fr => forceL (s'.bg.drop s.fr.length) fun bg => K (tupled vs) { fr := fr, dead := s'.dead, next := s'.next, bg := bg }
end

/-- No operation is marked. -/
def noX : Oper → Bool := fun _ => false
/-- The marked operations: by where their results go, or by what they call. -/
def marks (ds fs : List Nat) (o : Oper) : Bool :=
  (match o.dst with | some d => ds.contains d | none => false) ||
  match o.op with
  | .call c => match c.callee with
    | .value (.func f) => fs.contains f
    | _ => false
  | _ => false

/-- Calls that may write. -/
inductive IEnt where
  | inl (g : Nat) (fn : Func) (lo : List FSpec)
  | row (g h e : Nat) (t : Ty) (back : Bool) (f : List t.den → Option (List t.den))

def rowCallK (h e : Nat) (t : Ty) (back : Bool) (f : List t.den → Option (List t.den)) (as : List AV) (s : AS) (K : AV → AS → Option α) : Option α :=
  match as with
  | [.row id e' u xs, .fn h' []] => if e' = e ∧ h' = h then (cast u t xs).bind fun xs => bindK (f xs) fun ys =>
      if back = true then forceL (killL id s.fr) fun fr => forceL (killL id s.bg) fun bg => K (.tl t ys) { s with fr := fr, bg := bg }
      else forceL (rsL id t ys s.fr) fun fr => forceL (rsL id t ys s.bg) fun bg => K (.tup []) { s with fr := fr, bg := bg }
    else none
  | _ => none

def itab (T : Nat → Option TI) : List IEnt → Nat → List AV → AS → Option (AV × AS)
  | [], _, _, _ => none
  | .inl g fn lo :: l, q, as, s => if g = q then ainline T (otab lo) (fun _ => false) (fun _ _ _ => none) fn as s else itab T l q as s
  | .row g h e t back f :: l, q, as, s => if g = q then rowCall h e t back f as s else itab T l q as s

def otabK : List FSpec → Nat → List AV → (AV → Option α) → Option α
  | [], _, _, _ => none
  | sp :: l, g, as, K =>
    if sp.g = g ∧ sp.arg.clo = true then
      match (decX sp.arg as).bind whole with
      | some x => bindK (sp.f x.1) fun y => K (headAV (encX sp.res y))
      | none => otabK l g as K
    else otabK l g as K

def itabK (T : Nat → Option TI) : List IEnt → Nat → List AV → AS → (AV → AS → Option α) → Option α
  | [], _, _, _, _ => none
  | .inl g fn lo :: l, q, as, s, K => if g = q then ainlineK T (otabK lo) (fun _ => false) (fun _ _ _ _ => none) fn as s K else itabK T l q as s K
  | .row g h e t back f :: l, q, as, s, K => if g = q then rowCallK h e t back f as s K else itabK T l q as s K

def sumK {β γ : Type} (x : β ⊕ γ) (f : β → Option α) (g : γ → Option α) : Option α :=
  match x with
  | .inl y => f y
  | .inr z => g z
def emptyK (x : Empty) : Option α := nomatch x

def encOutK : (l : List (AX × Spec)) → OutT l → (AX → AS → Option α) → Option α
  | [], x, _ => emptyK x
  | p :: l, x, K => sumK x (fun y => K p.1 (p.2.enc y)) fun z => encOutK l z K

def ltabK : List LEnt → Nat → AS → (AX → AS → Option α) → Option α
  | [], _, _, _ => none
  | e :: l, id, s, K => if e.id = id then (e.head.dec s).bind fun st => bindK (e.f st) fun o => encOutK e.exits o K else ltabK l id s K

/-! ### It is the same -/
theorem brK_if (t : Bool) (x y : Option α) : brK t x y = if t = true then x else y := by cases t <;> rfl

theorem brK_bind {β : Type} (t : Bool) (x y : Option β) (K : β → Option α) : (brK t x y).bind K = brK t (x.bind K) (y.bind K) := by cases t <;> rfl

theorem if_bind {β : Type} (p : Prop) [Decidable p] (x y : Option β) (K : β → Option α) : (if p then x else y).bind K = if p then x.bind K else y.bind K := by split <;> rfl

theorem brK_dec (p : Prop) [Decidable p] (x y : Option α) : brK (decide p) x y = if p then x else y := by
  by_cases h : p <;> simp [brK, h]

theorem abinK_eq (op : BinOp) (x y : AV) (K : AV → Option α) : abinK op x y K = (abin op x y).bind K := by
  cases x <;> cases y <;> try rfl
  · rename_i k a k' b
    by_cases e : k = k' <;> cases op <;> simp only [abinK, abin, aintK, aint, brK_dec, e, if_true, if_false, Option.bind_some, Option.bind_none] <;> first | rfl | (split <;> rfl)
  · rename_i a b
    cases op <;> simp only [abinK, abin, brK_dec, Option.bind_some, Option.bind_none] <;> first | rfl | (split <;> rfl)

theorem otabK_eq : ∀ (l : List FSpec) (g : Nat) (as : List AV) (K : AV → Option α), otabK l g as K = (otab l g as).bind K
  | [], _, _, _ => rfl
  | sp :: l, g, as, K => by
    simp only [otabK, otab]
    split
    · cases (decX sp.arg as).bind whole with
      | none => exact otabK_eq l g as K
      | some x => simp only [bindK, Option.bind_assoc, Option.bind_some]
    · exact otabK_eq l g as K

theorem encOutK_eq : ∀ (l : List (AX × Spec)) (o : OutT l) (K : AX → AS → Option α), encOutK l o K = K (encOut l o).1 (encOut l o).2
  | [], o, _ => nomatch o
  | p :: l, .inl y, K => rfl
  | p :: l, .inr y, K => encOutK_eq l y K

theorem ltabK_eq : ∀ (l : List LEnt) (id : Nat) (s : AS) (K : AX → AS → Option α), ltabK l id s K = (ltab l id s).bind fun r => K r.1 r.2
  | [], _, _, _ => rfl
  | e :: l, id, s, K => by
    unfold ltabK ltab
    split
    · simp only [bindK, Option.bind_assoc, Option.bind_some, encOutK_eq]
    · exact ltabK_eq l id s K

section
variable {T : Nat → Option TI} {OK : Nat → List AV → (AV → Option α) → Option α} {O : Nat → List AV → Option AV} {X : Oper → Bool} {IK : Nat → List AV → AS → (AV → AS → Option α) → Option α} {I : Nat → List AV → AS → Option (AV × AS)}

theorem lset_self : ∀ {l : List AV} {d : Nat} {v : AV}, lget l d = some v → lset l d v = l
  | [], _, _, h => by simp [lget] at h
  | a :: l, 0, v, h => by simp [lget] at h; simp [lset, h]
  | a :: l, n + 1, v, h => by simp only [lset]; rw [lset_self (by simpa [lget] using h)]

theorem guardK_eq (ops : List Oper) (o : Oper) (fr : List AV) (yes no : List AV → Option α) : guardK ops o fr yes no = (awanted ops o fr).bind fun b => if b = true then yes fr else no fr := by
  unfold guardK awanted
  cases o.guard with
  | none => rfl
  | some g =>
    obtain ⟨j, want⟩ := g
    simp only
    cases lget ops j with
    | none => rfl
    | some p =>
      simp only [Option.bind_some]
      cases p.dst with
      | none => rfl
      | some d =>
        simp only [Option.bind_some]
        cases hd : lget fr d with
        | none => rfl
        | some a =>
          simp only [Option.bind_some]
          cases a with
          | bool b =>
            cases b <;> cases want <;> simp [brK, lset_self hd]
          | tup l => cases l <;> rfl
          | _ => rfl

theorem setB_self {fr : List AV} {c : Operand} {b : Bool} (h : aget fr c = some (.bool b)) : setB fr c b = fr := by
  cases c with
  | tmp d => exact lset_self h
  | _ => rfl

theorem fits_bind {β : Type} (t : Bool) (x : Option β) (K : β → Option α) : brK t (x.bind K) none = (if t = true then x else none).bind K := by cases t <;> rfl

theorem aappendK_eq (id t t' : Nat) (s x : AV) (K : AV → Option Nat → Option α) : aappendK T id t t' s x K = (aappend T id t t' s x).bind fun r => K r.1 r.2 := by
  unfold aappendK aappend
  split
  · rfl
  · cases T t with
    | none => rfl
    | some i =>
      simp only [Option.bind_some]
      cases i.kind with
      | slice e =>
        simp only
        cases T e with
        | none => rfl
        | some j =>
          simp only [Option.bind_some]
          cases x.elems j.ty with
          | none => rfl
          | some zs =>
            simp only [Option.bind_some]
            split
            · rfl
            · cases s with
              | snil => simp only; cases fits 0 zs.length j.bytes <;> rfl
              | own d e' u ys =>
                simp only
                split
                · rfl
                · cases cast u j.ty ys with
                  | none => rfl
                  | some ys => simp only [Option.bind_some]; cases fits ys.length zs.length j.bytes <;> rfl
              | clip u ys =>
                simp only
                cases cast u j.ty ys with
                | none => rfl
                | some ys => simp only [Option.bind_some]; cases fits ys.length zs.length j.bytes <;> rfl
              | _ => rfl
      | _ => rfl

theorem asliceK_eq (t : Nat) (a : AV) (l hv m : Option AV) (K : AV → Option α) : asliceK T t a l hv m K = (aslice T t a l hv m).bind K := by
  unfold asliceK aslice
  cases T t with
  | none => rfl
  | some i =>
    simp only [Option.bind_some]
    cases i.kind with
    | str =>
      cases m with
      | some m => cases a <;> rfl
      | none =>
        cases a with
        | str s =>
          simp only
          cases abound l 0 with
          | none => rfl
          | some l' =>
            simp only [Option.bind_some]
            cases abound hv s.size with
            | none => rfl
            | some h' => simp only [Option.bind_some, brK_dec]; split <;> rfl
        | _ => rfl
    | slice e =>
      cases m with
      | none =>
        simp only
        cases T e with
        | none => rfl
        | some j =>
          simp only [Option.bind_some]
          cases a.elems j.ty with
          | none => rfl
          | some xs =>
            simp only [Option.bind_some]
            cases abound l 0 with
            | none => rfl
            | some l' =>
              simp only [Option.bind_some]
              cases abound hv xs.length with
              | none => rfl
              | some h' => simp only [Option.bind_some, brK_dec]; split <;> rfl
      | some m =>
        cases m with
        | int k m =>
          simp only
          cases T e with
          | none => rfl
          | some j =>
            simp only [Option.bind_some]
            cases a.elems j.ty with
            | none => rfl
            | some xs =>
              simp only [Option.bind_some]
              cases abound hv xs.length with
              | none => rfl
              | some h' =>
                simp only [Option.bind_some, brK_dec]
                by_cases h1 : hv.isSome = true ∧ l.isNone = true
                · by_cases h2 : 0 ≤ h' ∧ h' ≤ xs.length ∧ h' = m
                  · rw [if_pos h1, if_pos h2, if_pos ⟨h1.1, h1.2, h2⟩]; rfl
                  · rw [if_pos h1, if_neg h2, if_neg fun h => h2 h.2.2]; rfl
                · rw [if_neg h1, if_neg fun h => h1 ⟨h.1, h.2.1⟩]; rfl
        | _ => rfl
    | _ => cases m <;> cases a <;> rfl

theorem aindexK_eq (t : Nat) (a n : AV) (K : AV → Option α) : aindexK T t a n K = (aindex T t a n).bind K := by
  unfold aindexK aindex
  cases T t with
  | none => rfl
  | some i =>
    simp only [Option.bind_some]
    cases i.kind with
    | slice e =>
      cases n with
      | int k n =>
        simp only
        cases T e with
        | none => rfl
        | some j =>
          simp only [Option.bind_some]
          have other : ∀ a : AV, ((a.elems j.ty).bind fun xs => bindK (listAt xs n) fun x => K (.eptr (emb j.ty x))) = ((a.elems j.ty).bind fun xs => if n < 0 then none else (xs[n.toNat]?).bind fun x => some (AV.eptr (emb j.ty x))).bind K := by
            intro a
            cases a.elems j.ty with
            | none => rfl
            | some xs =>
              simp only [Option.bind_some, bindK, listAt]
              split
              · rfl
              · cases xs[n.toNat]? <;> rfl
          cases a with
          | row q e' u xs =>
            simp only
            split
            · simp only [bindK, listAt]
              split
              · rfl
              · cases xs[n.toNat]? <;> rfl
            · rfl
          | _ => exact other _
      | _ => rfl
    | _ => cases n <;> rfl

theorem abinTK_eq (op : BinOp) (t : Nat) (x y : AV) (K : AV → Option α) : abinTK T op t x y K = (abinT T op t x y).bind K := by
  unfold abinTK abinT
  cases x <;> cases y <;> simp only [abinK_eq]

theorem acallK_eq (hO : ∀ g as (K : AV → Option α), OK g as K = (O g as).bind K) (id : Nat) (f : AV) (as : List AV) (K : AV → Option α) : acallK OK id f as K = (acall O id f as).bind K := by
  cases f <;> try rfl
  rename_i g caps
  simp only [acallK, acall, hO]
  cases O g (escL (as ++ caps)) with
  | none => rfl
  | some r =>
    simp only [Option.bind_some]
    cases r <;> simp only <;> split <;> rfl

theorem avalK_eq (hO : ∀ g as (K : AV → Option α), OK g as K = (O g as).bind K) (id : Nat) (o : Oper) (fr : List AV) (K : List AV → AV → Option Nat → Option α) : avalK T OK id o fr K = (aval T O id o fr).bind fun r => K fr r.1 r.2 := by
  obtain ⟨dst, op, type, pos, after, guard⟩ := o
  cases op <;> simp only [avalK] <;> try (simp only [aval]; done)
  case pick c a b =>
    simp only [aval]
    cases hc : aget fr c with
    | none => rfl
    | some t =>
      simp only [Option.bind_some]
      cases t with
      | bool t =>
        cases t with
        | true =>
          simp only [brK, if_true, setB_self hc]
          cases aget fr a <;> rfl
        | false =>
          simp only [brK, Bool.false_eq_true, if_false, setB_self hc]
          cases aget fr b <;> rfl
      | _ => rfl
  case load t x =>
    simp only [aval]
    cases T t with
    | none => rfl
    | some i =>
      cases aget fr x with
      | none => rfl
      | some p =>
        simp only [Option.bind_some]
        cases p with
        | box q off cs => simp only; cases apart i.kind.isAgg i.sz off cs <;> rfl
        | eptr cs => simp only; cases apart i.kind.isAgg i.sz 0 cs <;> rfl
        | rel q e u xs n off =>
          simp only [bindK]
          cases listAt xs n with
          | none => rfl
          | some z => simp only [Option.bind_some]; cases apart i.kind.isAgg i.sz off (emb u z) <;> rfl
        | _ => rfl
  case binOp op t x y t' =>
    simp only [aval, abinTK_eq]
    cases aget fr x with
    | none => rfl
    | some a =>
      cases aget fr y with
      | none => rfl
      | some b => simp only [Option.bind_some]; cases abinT T op t a b <;> rfl
  case slice t x lo hi mx =>
    simp only [aval, asliceK_eq]
    cases aget fr x with
    | none => rfl
    | some a =>
      cases agetO fr lo with
      | none => rfl
      | some l =>
        cases agetO fr hi with
        | none => rfl
        | some h =>
          cases agetO fr mx with
          | none => rfl
          | some m => simp only [Option.bind_some]; cases aslice T t a l h m <;> rfl
  case indexAddr t x y =>
    simp only [aval, aindexK_eq]
    cases aget fr x with
    | none => rfl
    | some a =>
      cases aget fr y with
      | none => rfl
      | some b => simp only [Option.bind_some]; cases aindex T t a b <;> rfl
  case index t x y =>
    simp only [aval]
    cases T t with
    | none => rfl
    | some i =>
      cases aget fr x with
      | none => rfl
      | some a =>
        cases aget fr y with
        | none => rfl
        | some b =>
          simp only [Option.bind_some]
          cases i.kind with
          | str =>
            cases a with
            | str s =>
              cases b with
              | int k n =>
                simp only [bindK, strAt]
                split
                · rfl
                · cases s.data[n.toNat]? <;> rfl
              | _ => rfl
            | _ => rfl
          | _ => cases a <;> cases b <;> rfl
  case unOp op t x => cases op <;> simp only [aval]
  case makeSlice t l c =>
    simp only [aval]
    cases T t with
    | none => rfl
    | some i =>
      simp only [Option.bind_some]
      cases i.kind with
      | slice e =>
        simp only
        cases T e with
        | none => rfl
        | some j =>
          simp only [Option.bind_some]
          cases aget fr l with
          | none => rfl
          | some l =>
            simp only [Option.bind_some]
            cases aget fr c with
            | none => rfl
            | some c =>
              simp only [Option.bind_some]
              cases l <;> cases c <;> try rfl
              simp only
              cases dec j.ty j.zero.cells with
              | none => rfl
              | some z => simp only [Option.bind_some, brK_dec]; split <;> rfl
      | _ => rfl
  case makeFunc f first caps => cases f <;> simp only [aval]
  case call c =>
    obtain ⟨cal, xs, ts⟩ := c
    cases cal with
    | builtin b =>
      simp only [aval]
      cases agets fr xs.toList with
      | none => cases b <;> rfl
      | some as =>
        cases b <;> try rfl
        simp only [Option.bind_some]
        generalize ts.toList = tl
        rcases tl with _ | ⟨t, _ | ⟨t', _ | _⟩⟩ <;> rcases as with _ | ⟨s, _ | ⟨x, _ | _⟩⟩ <;> first | rfl | exact aappendK_eq ..
    | value f =>
      simp only [aval, acallK_eq hO]
      cases aget fr f with
      | none => rfl
      | some g =>
        cases agets fr xs.toList with
        | none => rfl
        | some as => simp only [Option.bind_some]; cases acall O id g as <;> rfl
    | invoke r m => rfl

theorem aappRK_eq (id t t' : Nat) (a x : AV) (dst : Option Nat) (s : AS) (K : AS → Option α) : aappRK T id t t' a x dst s K = (aappR T id t t' a x dst s).bind K := by
  unfold aappRK aappR
  split
  · rfl
  · cases T t with
    | none => rfl
    | some i =>
      simp only [Option.bind_some]
      cases i.kind with
      | slice e =>
        simp only
        cases T e with
        | none => rfl
        | some j =>
          simp only [Option.bind_some]
          cases x.elems j.ty with
          | none => rfl
          | some zs =>
            simp only [Option.bind_some]
            split
            · rfl
            · cases a with
              | snil => simp only [forceL_eq]; cases fits 0 zs.length j.bytes <;> rfl
              | row d e' u ys =>
                simp only
                split
                · rfl
                · cases cast u j.ty ys with
                  | none => rfl
                  | some ys => simp only [Option.bind_some, forceL_eq]; cases fits ys.length zs.length j.bytes <;> rfl
              | _ => rfl
      | _ => rfl

theorem aeffK_eq (hI : ∀ q as s (K : AV → AS → Option α), IK q as s K = (I q as s).bind fun r => K r.1 r.2) (lim id : Nat) (o : Oper) (s : AS) (K : AS → Option α) : aeffK T IK lim id o s K = (aeff T I lim id o s).bind K := by
  obtain ⟨dst, op, type, pos, after, guard⟩ := o
  cases op <;> simp only [aeffK, aeff] <;> try rfl
  case makeSlice t l c =>
    cases T t with
    | none => rfl
    | some i =>
      simp only [Option.bind_some]
      cases i.kind with
      | slice e =>
        simp only
        cases T e with
        | none => rfl
        | some j =>
          simp only [Option.bind_some]
          cases aget s.fr l with
          | none => rfl
          | some l =>
            simp only [Option.bind_some]
            cases aget s.fr c with
            | none => rfl
            | some c =>
              simp only [Option.bind_some]
              cases l <;> cases c <;> try rfl
              simp only
              cases dec j.ty j.zero.cells with
              | none => rfl
              | some z => simp only [Option.bind_some, brK_dec, forceL_eq]; split <;> rfl
      | _ => rfl
  case call c =>
    obtain ⟨cal, xs, ts⟩ := c
    cases cal with
    | builtin b =>
      cases b <;> try rfl
      simp only
      cases agets s.fr xs.toList with
      | none => rfl
      | some as =>
        simp only [Option.bind_some]
        generalize ts.toList = tl
        rcases tl with _ | ⟨t, _ | ⟨t', _ | _⟩⟩ <;> rcases as with _ | ⟨a, _ | ⟨x, _ | _⟩⟩ <;> first | rfl | exact aappRK_eq ..
    | value f =>
      simp only
      cases aget s.fr f with
      | none => rfl
      | some g =>
        cases agets s.fr xs.toList with
        | none => rfl
        | some as =>
          simp only [Option.bind_some]
          cases g with
          | fn q caps => simp only [hI, forceL_eq, Option.bind_assoc, Option.bind_some]
          | _ => rfl
    | invoke r m => rfl

theorem astepK_eq (hO : ∀ g as (K : AV → Option α), OK g as K = (O g as).bind K) (hI : ∀ q as s (K : AV → AS → Option α), IK q as s K = (I q as s).bind fun r => K r.1 r.2) (ops : List Oper) (lim id : Nat) (o : Oper) (s : AS) (K : AS → Option α) : astepK T OK X IK ops lim id o s K = (astep T O X I ops lim id o s).bind K := by
  unfold astepK
  rw [guardK_eq]
  unfold astep
  cases awanted ops o s.fr with
  | none => rfl
  | some b =>
    simp only [Option.bind_some]
    cases b with
    | false => simp [forceL_eq]
    | true =>
      simp only [if_true, Bool.true_eq_false, if_false]
      cases hX : X o with
      | true =>
        simp only [if_true]
        exact aeffK_eq hI lim id o s K
      | false =>
        simp only [Bool.false_eq_true, if_false]
        have hv := avalK_eq (T := T) hO id o s.fr fun fr v dk => (akill dk s.dead).bind fun d => forceL (aput fr o.dst v) fun fr => K { s with fr := fr, dead := d }
        have hg : (avalK T OK id o s.fr fun fr v dk => (akill dk s.dead).bind fun d => forceL (aput fr o.dst v) fun fr => K { s with fr := fr, dead := d }) =
            ((aval T O id o s.fr).bind fun r => (akill r.2 s.dead).bind fun d => some { s with fr := aput s.fr o.dst r.1, dead := d }).bind K := by
          rw [hv]
          cases aval T O id o s.fr with
          | none => rfl
          | some r =>
            simp only [Option.bind_some]
            cases akill r.2 s.dead with
            | none => rfl
            | some d => simp only [Option.bind_some, forceL_eq]
        obtain ⟨dst, op, type, pos, after, guard⟩ := o
        cases op with
        | store t x y =>
          simp only
          split
          · rfl
          · cases T t with
            | none => rfl
            | some ti =>
              simp only [Option.bind_some]
              cases aget s.fr x with
              | none => rfl
              | some p =>
                simp only [Option.bind_some]
                cases aget s.fr y with
                | none => rfl
                | some v =>
                  simp only [Option.bind_some]
                  cases p with
                  | box q off cs => simp only [forceL_eq]; split <;> rfl
                  | rel q e u xs n off =>
                    simp only [forceL_eq, bindK]
                    split
                    · rfl
                    · cases listAt xs n with
                      | none => rfl
                      | some z =>
                        simp only [Option.bind_some]
                        cases splice u z off v.cells <;> rfl
                  | _ => rfl
        | _ => exact hg

theorem astepsK_eq (hO : ∀ g as (K : AV → Option α), OK g as K = (O g as).bind K) (hI : ∀ q as s (K : AV → AS → Option α), IK q as s K = (I q as s).bind fun r => K r.1 r.2) (ops : List Oper) (base : Nat) : ∀ (l : List Oper) (i : Nat) (s : AS) (K : AS → Option α), astepsK T OK X IK ops base i l s K = (asteps T O X I ops base i l s).bind K
  | [], i, s, K => rfl
  | o :: l, i, s, K => by
    simp only [astepsK, asteps, astepK_eq hO hI, Option.bind_assoc]
    congr 1
    funext s'
    exact astepsK_eq hO hI ops base l (i + 1) s' K

theorem aexecK_eq (hO : ∀ g as (K : AV → Option α), OK g as K = (O g as).bind K) (hI : ∀ q as s (K : AV → AS → Option α), IK q as s K = (I q as s).bind fun r => K r.1 r.2) {LK : Nat → AS → (AX → AS → Option α) → Option α} {L : Nat → AS → Option (AX × AS)} (hL : ∀ id s (K : AX → AS → Option α), LK id s K = (L id s).bind fun r => K r.1 r.2) :
    ∀ (c : Code) (s : AS) (K : AX → AS → Option α), aexecK T OK X IK LK c s K = (aexec T O X I L c s).bind fun r => K r.1 r.2
  | .skip, s, K => rfl
  | .region id ops d, s, K => by
    simp only [aexecK, aexec]
    split
    · rfl
    · rw [astepsK_eq hO hI]
      simp only [aregion, forceN_eq]
      cases asteps T O X I ops.toList s.next 0 ops.toList s <;> rfl
  | .seq a b, s, K => by
    simp only [aexecK, aexec]
    rw [aexecK_eq hO hI hL a, Option.bind_assoc]
    congr 1
    funext r
    obtain ⟨x, s'⟩ := r
    cases x with
    | normal => exact aexecK_eq hO hI hL b s' K
    | exit id => rfl
    | ret => rfl
  | .cond c x y, s, K => by
    simp only [aexecK, aexec]
    cases hc : aget s.fr c with
    | none => rfl
    | some t =>
      simp only [Option.bind_some]
      cases t with
      | bool t =>
        cases t with
        | true =>
          simp only [brK, if_true, setB_self hc]
          exact aexecK_eq hO hI hL x s K
        | false =>
          simp only [brK, Bool.false_eq_true, if_false, setB_self hc]
          exact aexecK_eq hO hI hL y s K
      | _ => rfl
  | .block id c, s, K => by
    simp only [aexecK, aexec]
    rw [aexecK_eq hO hI hL c, Option.bind_assoc]
    congr 1
    funext r
    obtain ⟨x, s'⟩ := r
    cases x with
    | normal => rfl
    | exit j => simp only; split <;> rfl
    | ret => rfl
  | .loop c, s, K => hL _ _ _
  | .exit id, s, K => rfl
  | .ret, s, K => rfl
  | .rangeFunc .., _, _ => rfl
  | .scope _, _, _ => rfl
  | .label _, _, _ => rfl
  | .goto _, _, _ => rfl
  | .refuse _, _, _ => rfl

theorem ainlineK_eq (hO : ∀ g as (K : AV → Option α), OK g as K = (O g as).bind K) (hI : ∀ q as s (K : AV → AS → Option α), IK q as s K = (I q as s).bind fun r => K r.1 r.2) (fn : Func) (args : List AV) (s : AS) (K : AV → AS → Option α) :
    ainlineK T OK X IK fn args s K = (ainline T O X I fn args s).bind fun r => K r.1 r.2 := by
  unfold ainlineK ainline
  cases fn.body with
  | none => rfl
  | some c =>
    simp only [Option.bind_some]
    rw [aexecK_eq (LK := fun _ _ _ => none) (L := fun _ _ => none) hO hI (fun _ _ _ => rfl)]
    cases aexec T O X I (fun _ _ => none) c { fr := startFrame fn args, dead := s.dead, next := s.next, bg := s.fr ++ s.bg } with
    | none => rfl
    | some r =>
      obtain ⟨x, s'⟩ := r
      simp only [Option.bind_some, forceL_eq]
      cases x with
      | exit id => rfl
      | normal => simp only; cases aresultsF T (fun a => a) s'.fr fn.results.toList <;> rfl
      | ret => simp only; cases aresultsF T (fun a => a) s'.fr fn.results.toList <;> rfl

theorem rowCallK_eq (h e : Nat) (t : Ty) (back : Bool) (f : List t.den → Option (List t.den)) (as : List AV) (s : AS) (K : AV → AS → Option α) : rowCallK h e t back f as s K = (rowCall h e t back f as s).bind fun r => K r.1 r.2 := by
  unfold rowCallK rowCall
  split
  · rename_i id e' u xs h'
    show (if e' = e ∧ h' = h then _ else none) = Option.bind (if e' = e ∧ h' = h then _ else none) _
    by_cases hc : e' = e ∧ h' = h
    · rw [if_pos hc, if_pos hc]
      cases cast u t xs with
      | none => rfl
      | some xs =>
        simp only [Option.bind_some, bindK]
        cases f xs with
        | none => rfl
        | some ys =>
          simp only [Option.bind_some, forceL_eq]
          split <;> rfl
    · rw [if_neg hc, if_neg hc]
      rfl
  · rename_i hne
    first
      | rfl
      | (split
         · exact absurd rfl (hne _ _ _ _ _)
         · rfl)

theorem itabK_eq (T : Nat → Option TI) : ∀ (l : List IEnt) (q : Nat) (as : List AV) (s : AS) (K : AV → AS → Option α), itabK T l q as s K = (itab T l q as s).bind fun r => K r.1 r.2
  | [], _, _, _, _ => rfl
  | .inl g fn lo :: l, q, as, s, K => by
    simp only [itabK, itab]
    split
    · exact ainlineK_eq (IK := fun _ _ _ _ => none) (I := fun _ _ _ => none) (otabK_eq lo) (fun _ _ _ _ => rfl) fn as s K
    · exact itabK_eq T l q as s K
  | .row g h e t back f :: l, q, as, s, K => by
    simp only [itabK, itab]
    split
    · exact rowCallK_eq h e t back f as s K
    · exact itabK_eq T l q as s K

/-- A body in data is what the handed-on executor gives. -/
theorem bodyF_eq (T : Nat → Option TI) (lo : List FSpec) (X : Oper → Bool) (il : List IEnt) (ll : List LEnt) (fn : Func) (arg res : Sh) (x : arg.den) :
    bodyF T (otab lo) X (itab T il) (ltab ll) fn arg res x = bodyK T (otabK lo) X (itabK T il) (ltabK ll) fn arg res x fun y => y := by
  unfold bodyF bodyK abody
  cases fn.body with
  | none => rfl
  | some c =>
    simp only [Option.bind_some]
    rw [aexecK_eq (otabK_eq lo) (itabK_eq T il) (ltabK_eq ll)]
    cases aexec T (otab lo) X (itab T il) (ltab ll) c { fr := startFrame fn (encX arg x), dead := fun _ => false, next := 0, bg := [] } with
    | none => rfl
    | some r =>
      obtain ⟨x, s⟩ := r
      simp only [Option.bind_some]
      cases x with
      | exit id => rfl
      | normal => simp only; cases aresults T s.fr fn.results.toList <;> rfl
      | ret => simp only; cases aresults T s.fr fn.results.toList <;> rfl

theorem loopF_eq (T : Nat → Option TI) (lo : List FSpec) (X : Oper → Bool) (il : List IEnt) (ll : List LEnt) (c : Code) (head : Spec) (exits : List (AX × Spec)) (k : head.shape.den → Option (OutT exits)) (st : head.shape.den) :
    ((aexec T (otab lo) X (itab T il) (ltab ll) c (head.enc st)).bind fun r => lres head exits k r.1 r.2) = aexecK T (otabK lo) X (itabK T il) (ltabK ll) c (head.enc st) (lres head exits k) := by
  rw [aexecK_eq (otabK_eq lo) (itabK_eq T il) (ltabK_eq ll)]
end

/-! ### Calls that may write are right -/
section
variable {P : Program} {GL : World → Prop} {T : Nat → Option TI}

/-- A function that gives a row that nobody else has. -/
def FreshOK (P : Program) (GL : World → Prop) (g e : Nat) (t : Ty) (arg : Sh) (f : arg.den → Option (List t.den)) : Prop := ∀ x xs, f x = some xs → FreshC P GL g (encX arg x) e t xs
theorem FreshOK.spec {g e : Nat} {t : Ty} {arg : Sh} {f : arg.den → Option (List t.den)} (h : FreshOK P GL g e t arg f) : SpecOK P GL ⟨g, arg, .own 0 e t, f⟩ := fun x y hy => h x y hy

/-- What an entry must be. -/
def IEnt.ok (P : Program) (GL : World → Prop) : IEnt → Prop
  | .inl g fn lo => P.funcs[g]? = some fn ∧ (fn.name == "runtime.NumGoroutine") = false ∧ (∃ c, fn.body = some c) ∧ ∀ sp ∈ lo, SpecOK P GL sp
  | .row g h e t back f => RowC P g h e t back f

theorem iok_none : IOK P GL (fun _ _ _ => none) := fun q as s r s' h => by cases h

theorem loopsOK_none {md : Bool} : ∀ (c : Code), LoopsOK P GL md (fun _ _ => none) c
  | .seq a b => ⟨loopsOK_none a, loopsOK_none b⟩
  | .cond _ a b => ⟨loopsOK_none a, loopsOK_none b⟩
  | .block _ a => loopsOK_none a
  | .loop a => fun s r h => by cases h
  | .skip => trivial
  | .region .. => trivial
  | .rangeFunc .. => trivial
  | .exit _ => trivial
  | .scope _ => trivial
  | .label _ => trivial
  | .goto _ => trivial
  | .ret => trivial
  | .refuse _ => trivial

theorem iok_of (hT : TOK P T) (hm : P.follows .mixedOrders = true) : ∀ {l : List IEnt}, (∀ e ∈ l, e.ok P GL) → IOK P GL (itab T l)
  | [], _ => fun q as s r s' h => by simp [itab] at h
  | .inl g fn lo :: l, hl => fun q as s r s' h => by
    simp only [itab] at h
    split at h
    · rename_i e
      subst e
      obtain ⟨h1, h2, ⟨c, h3⟩, h4⟩ : IEnt.ok P GL (.inl g fn lo) := hl _ (by simp)
      exact ainline_ok hT (ook_of h4) iok_none hm h1 h2 h3 (loopsOK_none c) h
    · exact iok_of hT hm (l := l) (fun e he => hl e (by simp [he])) q as s r s' h
  | .row g hh ee t back f :: l, hl => fun q as s r s' h => by
    simp only [itab] at h
    split at h
    · rename_i e
      subst e
      have hC : IEnt.ok P GL (.row g hh ee t back f) := hl _ (by simp)
      exact rowCall_ok hC h
    · exact iok_of hT hm (l := l) (fun e he => hl e (by simp [he])) q as s r s' h
end
end Go.Ai

set_option linter.unusedSimpArgs false
set_option linter.unusedVariables false
namespace Go.Ai
open Go Go.RowKit

def tabT : List (Nat × TI) → Nat → Option TI
  | [], _ => none
  | p :: l, t => if p.1 = t then some p.2 else tabT l t

theorem tok_of {P : Program} {l : List (Nat × TI)} (h : l.all (fun p => tiOK P p.1 p.2) = true) : TOK P (tabT l) := by
  induction l with
  | nil => intro t i h; simp [tabT] at h
  | cons p l ih =>
    simp only [List.all_cons, Bool.and_eq_true] at h
    intro t i hi
    unfold tabT at hi
    split at hi
    · rename_i e
      cases hi
      rw [← e]
      exact h.1
    · exact ih h.2 t i hi
/-! ### Data of patterns -/
abbrev Pat := List ByteArray × Bool
abbrev Rul := Bool × Pat × Pat
abbrev Reg := Pat × List Pat
end Go.Ai
