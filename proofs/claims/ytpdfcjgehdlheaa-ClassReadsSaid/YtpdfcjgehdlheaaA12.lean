/- Each operation does what the abstract one says: append, copy, nil, equality. -/
import Derived.Test.YtpdfcjgehdlheaaA11
set_option linter.all false
namespace Go.Ab
section
variable {P : Program} {E : Env} {K : Ctx} {s : St} {a : Act} {w : World}

theorem exec_builtin {o : Oper} {c : Call} {b : Builtin} (ho : o.op = .call c) (hb : c.callee = .builtin b) : (execOp a.eval o).run P w = (builtin b c.argTypes o.type (c.args.map fun | .const _ => true | _ => false) (c.args.map a.eval)).run P w := by
  simp [execOp, ho, resolve, hb, invoke]
  rfl

theorem exec_append {o : Oper} {c : Call} {x' y' : Operand} {t u : TypeId} {r : Value} {w' : World} (ho : o.op = .call c) (hb : c.callee = .builtin .append) (hx : c.args.toList = [x', y']) (ht : c.argTypes.toList = [t, u])
    (h : (Builtin.append_ #[t, u] o.type #[a.eval x', a.eval y']).run P w = .ok r w') : (execOp a.eval o).run P w = .ok (.value r) w' := by
  rw [exec_builtin ho hb, two_args hx, two_args ht]
  simp [builtin, h]

/-- a new row: what was there, and what comes -/
theorem append_new (h : Sim E K s a.tmps w) {t u e : TypeId} {i : TypeInfo} {z : Value} {sz : Nat} (T : AppT P t u e i z sz) {ty : TypeId} {base : Option Addr} {sCap : Nat} {pv : Value} {es ys : List (List D)} {old : List Value} {y : AV}
    (hy : Rep K y pv) (hel : y.elems? = some ys) (hys : sizesB sz ys = true) (hroom : sCap < es.length + ys.length) (hlim : es.length + ys.length ≤ lim) (hne : es ++ ys ≠ [])
    (hold : Src P K w.drew sz es.length (.slice base es.length sCap) es old) :
    ∃ r w' K', (Builtin.append_ #[t, u] ty #[.slice base es.length sCap, pv]).run P w = .ok r w' ∧ Sim E K' s a.tmps w' ∧ Rep K' (.own (es ++ ys)) r ∧ Fresh E K' s a.tmps w' none (.own (es ++ ys)) r ∧ Up s.rf.length K K' := by
  obtain ⟨vs, hsrc, _⟩ := src_of (P := P) (w := w.drew) h.drew.cells hy hel hys
  obtain ⟨_, _, hlen⟩ := src_of (P := P) (w := w) h.cells hy hel hys
  obtain ⟨cap, c, hcap, hcs, hcg, hrun⟩ := run_append_grow' T (ty := ty) (x := pv) hlen hroom hlim hsrc.cells hold.cells
  have heach : ∀ e', e' ∈ es ++ ys → e'.length = sz := fun e' he => by
    simp only [List.mem_append] at he
    rcases he with he | he
    · exact hold.each e' he
    · exact hsrc.each e' he
  have hfl : es.flatten.length = es.length * sz := flat_len hold.each
  have hol : old.length = es.length * sz := hold.len
  have hvl : vs.length = ys.length * sz := hsrc.len
  obtain ⟨K', hsim, hρ, hle, hrows, hF⟩ := h.drew.newRow (es := es ++ ys) (sz := sz) (c := c) (el := e) (fz := (0, 0)) heach (fun j x hx => by
    have hj := (List.getElem?_eq_some_iff.1 hx).1
    rw [flat_len heach, List.length_append, Nat.add_mul] at hj
    rw [hcg j (by omega)]
    rw [List.flatten_append] at hx
    by_cases hjo : j < es.flatten.length
    · rw [List.getElem?_append_left hjo] at hx
      rw [List.getElem?_append_left (by omega)]
      exact hold.rep j x hx
    · rw [List.getElem?_append_right (by omega)] at hx
      rw [List.getElem?_append_right (by omega), hol, ← hfl]
      exact hsrc.rep _ x hx) (.inl rfl)
  have hno := new_not_owned (w' := w.drew.alloc (.cells c e)) h.drew hρ (fun b o hb => cell_alloc hb)
  have hfin := own_new (E := E) (s' := s) (a := a) (n := es.length + ys.length) (cap := cap) (off := 0) heach hrows (by simpa using hF) (alloc_new w.drew (.cells c e)) (by simp) hcap
    (by rw [hcs, hol, hvl, ← Nat.add_mul, ← Nat.add_mul]; simp only [Nat.zero_add]; exact Nat.mul_le_mul (by omega) (Nat.le_refl _)) (fun e0 => absurd e0 hne) (fun hlt => absurd h.size (by simp at hlt; omega)) hno
  exact ⟨_, _, K', hrun, hsim, hfin.1, hfin.2, ⟨hle, fun r _ => by rw [hρ]⟩⟩

/-- the row has room -/
theorem append_room (h : Sim E K s a.tmps w) {t u e : TypeId} {i : TypeInfo} {z : Value} {sz : Nat} (T : AppT P t u e i z sz) {ty : TypeId} {b off n : Nat} {pv : Value} {e0 : List D} {es ys : List (List D)} {y : AV} {c : Array Value} {el : TypeId} {fz : Nat × Nat}
    (hy : Rep K y pv) (hel : y.elems? = some ys) (hys : sizesB sz ys = true) (hroom : es.length + 1 + ys.length ≤ n) (hF : K.F b = some (off + (es.length + 1) * sz)) (hb : w.heap[b]? = some (.cells c el fz)) (hc : off + n * sz ≤ c.size)
    (hrows : RepRows K.G b sz off (e0 :: es)) (hT : b < E.w0.heap.size → E.T b) (hno : ∀ ℓ es' v', holds K s a.tmps w ℓ (.own es') v' → blk v' ≠ some b) :
    ∃ w' K', (Builtin.append_ #[t, u] ty #[.slice (some ⟨b, off, none⟩) (es.length + 1) n, pv]).run P w = .ok (.slice (some ⟨b, off, none⟩) (es.length + 1 + ys.length) n) w' ∧ Sim E K' s a.tmps w' ∧
      Rep K' (.own (e0 :: es ++ ys)) (.slice (some ⟨b, off, none⟩) (es.length + 1 + ys.length) n) ∧ Fresh E K' s a.tmps w' none (.own (e0 :: es ++ ys)) (.slice (some ⟨b, off, none⟩) (es.length + 1 + ys.length) n) ∧ Up s.rf.length K K' := by
  obtain ⟨vs, hsrc, hlen⟩ := src_of (P := P) (w := w) h.cells hy hel hys
  obtain ⟨⟨c1, el1, fz1, hc1, hz1⟩, _⟩ := h.rows b _ hF
  rw [hb] at hc1
  cases hc1
  have hvl : vs.length = ys.length * sz := hsrc.len
  have hmul : (es.length + 1) * sz + ys.length * sz ≤ n * sz := by rw [← Nat.add_mul]; exact Nat.mul_le_mul hroom (Nat.le_refl _)
  obtain ⟨w', hst, g1, g2, g3, g4, g5, g6⟩ := run_storeCells (P := P) (b := b) (el := el) (fz := fz) vs (off + (es.length + 1) * sz) 0 c.toList w (by simpa using hb) (by simp; omega) hsrc.one (by simpa using hz1)
  have hrun := run_append_room' T (ty := ty) (base := some ⟨b, off, none⟩) (x := pv) hlen hroom hsrc.cells (fun ad had => by
    simp only [Option.some.injEq] at had
    subst had
    rw [add_addr]
    exact hst) (fun hh => by cases hh)
  obtain ⟨K', hsim, hρ, hle, hG', hF'⟩ := h.growRow (w' := w') (m := ys.length * sz) hF hb g1 (by simp only [List.size_toArray, setRangeV_len, Array.length_toList]; exact hz1) (fun o ho => by
    rw [List.getElem?_toArray, setRangeV_get (by simp; omega), if_neg (by omega), Array.getElem?_toList]) g2 g3 g4 g5 g6 hT hno
  have hrows' : RepRows K'.G b sz off (e0 :: es ++ ys) := by
    refine RepRows.append (RepRows.mono hle _ _ _ _ hrows) (rows_of_flat hsrc.each fun j x hx => ?_)
    have hj := (List.getElem?_eq_some_iff.1 hx).1
    rw [flat_len hsrc.each] at hj
    obtain ⟨v, hv, hr⟩ := hsrc.rep j x hx
    refine ⟨v, ?_, RepD.mono hle x v hr⟩
    simp only [List.length_cons]
    rw [hG' _ (by omega) (by omega), List.getElem?_toArray, setRangeV_get (by simp; omega), if_pos (by omega)]
    rw [show off + (es.length + 1) * sz + j - (off + (es.length + 1) * sz + 0) = j by omega]
    exact hv
  have hno' : ∀ ℓ es' v', holds K' s a.tmps w' ℓ (.own es') v' → blk v' ≠ some b := fun ℓ es' v' hh => by
    refine hno ℓ es' v' ?_
    cases ℓ with
    | sl t => exact hh
    | rf r i =>
      obtain ⟨cs, β, q1, q2, q3, q4⟩ := hh
      rw [hρ] at q3
      have hne : β ≠ b := fun e => by
        subst e
        have := (h.refG r β (List.getElem?_eq_some_iff.1 q1).1 q3).1
        rw [this] at hF; cases hF
      rw [World.cell?_of_block (w := w) (a := ⟨β, i, none⟩) (g2 β hne)] at q4
      exact ⟨cs, β, q1, q2, q3, q4⟩
  have hfin := own_new (E := E) (s' := s) (a := a) (n := es.length + 1 + ys.length) (cap := n) (off := off) (rows_len hrows') hrows' (by rw [hF']; congr 1; simp only [List.cons_append, List.length_cons, List.length_append]; rw [show es.length + ys.length + 1 = (es.length + 1) + ys.length by omega, Nat.add_mul (es.length + 1)]; omega) g1 (by simp; omega) hroom (by simp only [List.size_toArray, setRangeV_len, Array.length_toList]; exact hc) (by simp) hT hno'
  exact ⟨w', K', hrun, hsim, hfin.1, hfin.2, ⟨hle, fun r _ => by rw [hρ]⟩⟩


theorem src_nil {sz : Nat} {ad : Option Addr} {w : World} : Src P K w sz 0 (.slice ad 0 0) [] [] := by
  refine ⟨?_, by simp, fun j x hj => by simp at hj, fun v hv => by simp at hv, fun e he => by simp at he, rfl⟩
  cases ad with
  | none => simp [Builtin.firstCells]
  | some ad => simp [Builtin.firstCells, loadCells, loadCellsFrom]

theorem append_empty {t u e : TypeId} {i : TypeInfo} {z : Value} {sz : Nat} (T : AppT P t u e i z sz) {ty : TypeId} {base : Option Addr} {pv : Value} {y : AV} (h : Sim E K s a.tmps w) (hy : Rep K y pv) (hel : y.elems? = some []) :
    (Builtin.append_ #[t, u] ty #[.slice base 0 0, pv]).run P w = .ok (.slice base 0 0) w := by
  obtain ⟨vs, hsrc, hlen⟩ := src_of (P := P) (w := w) (sz := sz) h.cells hy hel rfl
  have hv : vs = [] := List.length_eq_zero_iff.1 (by rw [hsrc.len]; simp)
  subst hv
  exact run_append_room' T (ty := ty) (base := base) (x := pv) hlen (by simp) hsrc.cells (fun ad _ => by simp [storeCells]) (fun _ => rfl)

theorem ok_append {sz : Nat} {c : Call} {o : Oper} {x y : Opd} {x' y' : Operand} {t u e : TypeId} {i : TypeInfo} {z : Value} {xv yv r : AV} (ho : o.op = .call c) (h : Sim E K s a.tmps w) (hb : c.callee = .builtin .append) (hx' : c.args.toList = [x', y']) (ht : c.argTypes.toList = [t, u])
    (T : AppT P t u e i z sz) (h1 : chkO x x' = true) (h2 : chkO y y' = true) (hx : rawO s.sl x = some xv) (hy : getO s.sl y = some yv) (hr : appendA sz xv yv = some r) : OpOK P E K s a w o (.val r (unOwn s x)) := by
  have hyr := getO_rep h h2 hy
  have hxr := rawO_rep h h1 hx
  have hsu := h.unOwn x
  unfold appendA at hr
  split at hr
  · simp at hr
  · rename_i ys hys
    split at hr
    · simp only [Rep] at hxr
      split at hr
      · rename_i hc
        split at hr
        · simp only [Option.some.injEq] at hr
          subst hr
          refine ⟨_, w, K, exec_append ho hb hx' ht (by rw [hxr]; exact append_empty (w := w) T h hyr hys), hsu, by simp [Rep], fresh_of_not_own (fun es e => by cases e), Up.refl _ _⟩
        · rename_i hne
          simp only [Option.some.injEq] at hr
          subst hr
          have hlen : 0 < ys.length := by cases ys with
            | nil => exact absurd rfl (hne)
            | cons _ _ => simp
          obtain ⟨rv, w', K', hrun, g1, g2, g3, g4⟩ := append_new (sCap := 0) (base := none) (es := []) (old := []) (ty := o.type) hsu T hyr hys hc.2 (by simpa using hlen) (by simpa using hc.1) (by simpa using hne) src_nil
          refine ⟨rv, w', K', exec_append ho hb hx' ht (by rw [hxr]; exact hrun), g1, by simpa using g2, by simpa using g3, ?_⟩
          rwa [unOwn_rf] at g4
      · simp at hr
    · rename_i es
      split at hr
      · rename_i hc
        simp only [Option.some.injEq] at hr
        subst hr
        obtain ⟨hown, hblk, _⟩ := raw_own h h1 hx
        cases es with
        | nil =>
          obtain ⟨ad, had⟩ := hown
          cases ys with
          | nil =>
            refine ⟨_, w, K, exec_append ho hb hx' ht (by rw [had]; exact append_empty (w := w) T h hyr hys), hsu, ?_, fun es e => ?_, Up.refl _ _⟩
            · rw [had] at hxr; exact hxr
            · cases e
              exact ⟨⟨ad, rfl⟩, fun b hb => by simp [blk] at hb⟩
          | cons y0 ys =>
            obtain ⟨rv, w', K', hrun, g1, g2, g3, g4⟩ := append_new (sCap := 0) (base := ad) (es := []) (old := []) (ty := o.type) hsu T hyr hys hc.2.2 (by simp) (by simpa using hc.1) (by simp) src_nil
            refine ⟨rv, w', K', exec_append ho hb hx' ht (by rw [had]; exact hrun), g1, by simpa using g2, by simpa using g3, ?_⟩
            rwa [unOwn_rf] at g4
        | cons e0 es =>
          simp only [OwnV] at hown
          obtain ⟨b, off, n, cc, el, fz, hv, hn, hF, hbb, hcs, hrows⟩ := hown
          have he0 : e0.length = sz := by simpa [sizesB] using hc.2.1
          rw [he0] at hF hcs hrows
          have hbk := hblk b (by rw [hv]; rfl)
          by_cases hroom : es.length + 1 + ys.length ≤ n
          · obtain ⟨w', K', hrun, g1, g2, g3, g4⟩ := append_room (ty := o.type) hsu T hyr hys hc.2.2 hroom hF hbb hcs hrows hbk.1 hbk.2
            refine ⟨_, w', K', exec_append ho hb hx' ht (by rw [hv]; exact hrun), g1, g2, g3, ?_⟩
            rwa [unOwn_rf] at g4
          · rw [hv] at hxr
            have hold := src_rows (P := P) (K := K) (w := w.drew) (sz := sz) (n := (e0 :: es).length) hsu.drew.cells (by simpa [Rep] using hxr) hc.2.1 (Nat.le_refl _)
            obtain ⟨old, hold⟩ := hold
            rw [List.take_length] at hold
            obtain ⟨rv, w', K', hrun, g1, g2, g3, g4⟩ := append_new (ty := o.type) hsu T hyr hys hc.2.2 (by simp; omega) hc.1 (by simp) hold
            refine ⟨rv, w', K', exec_append ho hb hx' ht (by rw [hv]; exact hrun), g1, g2, g3, ?_⟩
            rwa [unOwn_rf] at g4
      · simp at hr
    · simp at hr

theorem heads_map {es : List (List D)} (h : es.all (fun e => e.length == 1) = true) : es.map (fun e => AV.d (e.headD .nilp)) = es.flatten.map .d := by
  induction es with
  | nil => rfl
  | cons e es ih =>
    simp only [List.all_cons, Bool.and_eq_true, beq_iff_eq] at h
    obtain ⟨x, rfl⟩ : ∃ x, e = [x] := List.length_eq_one_iff.1 h.1
    simp only [List.map_cons, List.flatten_cons, ih h.2]
    rfl

theorem repL_of_vals : ∀ {l : List D} {vs : List Value}, vs.length = l.length → (∀ (j : Nat) x, l[j]? = some x → ∃ v, vs[j]? = some v ∧ RepD K.G x v) → RepL K (l.map .d) vs
  | [], vs, hl, _ => by
    have : vs = [] := List.length_eq_zero_iff.1 (by simpa using hl)
    subst this
    simp [RepL]
  | x :: l, vs, hl, h => by
    cases vs with
    | nil => simp at hl
    | cons v vs =>
      obtain ⟨u, hu, hr⟩ := h 0 x (by simp)
      simp only [List.getElem?_cons_zero, Option.some.injEq] at hu
      subst hu
      simp only [List.map_cons, RepL]
      exact ⟨v, vs, rfl, by simpa [Rep] using hr, repL_of_vals (by simpa using hl) fun j y hy => by simpa using h (j + 1) y (by simpa using hy)⟩

theorem ok_copy {c : Call} {o : Oper} {x y : Opd} {x' y' : Operand} {t u e : TypeId} {r off n : Nat} {yv : AV} {es : List (List D)} {cs : List AV} (ho : o.op = .call c) (h : Sim E K s a.tmps w) (hb : c.callee = .builtin .copy) (hx' : c.args.toList = [x', y']) (ht : c.argTypes.toList = [t, u])
    (hte : elemT P t = some e) (hsz : sizeT P e = some 1) (h1 : chkO x x' = true) (h2 : chkO y y' = true) (hx : getO s.sl x = some (.sref r off n)) (hy : getO s.sl y = some yv) (hl : yv.list? = some es) (hcs : s.rf[r]? = some cs)
    (hfit : off + Nat.min es.length n ≤ cs.length ∧ (es.all fun e => e.length == 1) = true) :
    OpOK P E K s a w o (.val (.d (.int .i64 (Nat.min es.length n : Nat))) { s with rf := s.rf.set r (setRange cs off ((es.take (Nat.min es.length n)).map fun e => AV.d (e.headD .nilp))) }) := by
  have hyr := list_rep (getO_rep h h2 hy) hl
  have hxr := getO_rep h h1 hx
  have hu := und_elem hte
  simp only [Rep] at hxr
  obtain ⟨b, ad, cap, hρ, hxv, had⟩ := hxr
  obtain ⟨b', vs, el, hρ', hbk, hr⟩ := h.refs r cs hcs
  rw [hρ] at hρ'
  cases hρ'
  have hs1 : sizesB 1 es = true := by
    cases es with
    | nil => rfl
    | cons e0 es => simp only [List.all_cons, Bool.and_eq_true] at hfit; simpa [sizesB] using hfit.2.1
  let m := Nat.min es.length n
  have hm : m ≤ es.length := Nat.min_le_left _ _
  obtain ⟨src, hsrc⟩ := src_rows (P := P) (w := w) (n := m) h.cells hyr hs1 hm
  have hsl : src.length = m := by rw [hsrc.len]; simp
  have hvl : vs.toList.length = cs.length := hr.length
  have hall : (es.take m).all (fun e => e.length == 1) = true := by
    rw [List.all_eq_true] at hfit ⊢
    exact fun e he => hfit.2 e (List.mem_of_mem_take he)
  have hrepS : RepL K ((es.take m).map fun e => AV.d (e.headD .nilp)) src := by
    rw [heads_map hall]
    refine repL_of_vals ?_ hsrc.rep
    rw [hsl, flat_len (sz := 1) (fun e he => by
      rw [List.all_eq_true] at hall
      simpa using hall e he)]
    simp; omega
  have hsimp : ∀ (w' : World), (storeCells ⟨b, off, none⟩ src 0).run P w = .ok () w' → (execOp a.eval o).run P w = .ok (.value (.int .i64 (m : Nat))) w' := fun w' hst => by
    rw [exec_builtin ho hb, two_args hx', two_args ht]
    obtain ⟨ya, yc, hyv, hyc, hyrows⟩ := (by simpa only [RepD] using hyr : ∃ a' n, a.eval y' = Value.slice a' es.length n ∧ es.length ≤ n ∧ _)
    have hlen : (Builtin.lenOf (a.eval y')).run P w = .ok es.length w := by rw [hyv]; simp [Builtin.lenOf]
    simp only [builtin, List.map_toArray, List.map_cons, List.map_nil, Builtin.copy_, List.getElem?_toArray, List.getElem?_cons_zero, List.getElem?_cons_succ, Sem.run_bind, run_underlying hu, Result.andThen_ok, hxv, hlen, run_sizeOf hsz, Sem.run_pure]
    have hcells := hsrc.cells
    show (((Builtin.firstCells 1 m (a.eval y')).run P w).andThen _).andThen _ = _
    rw [hcells]
    simp only [Result.andThen_ok]
    by_cases hn : n = 0
    · have hm0 : m = 0 := by subst hn; exact Nat.min_zero _
      have : src = [] := List.length_eq_zero_iff.1 (by omega)
      subst this
      simp only [storeCells, Sem.run_pure, Result.ok.injEq, true_and] at hst
      subst hst
      simp [storeCells, goInt]
      rfl
    · have := had hn
      subst this
      simp [hst, goInt]
      rfl
  obtain ⟨w', hst, g1, g2, g3, g4, g5, g6⟩ := run_storeCells (P := P) (b := b) (el := el) (fz := (0, 0)) src off 0 vs.toList w (by simpa using hbk) (by rw [hvl, hsl]; have := hfit.1; omega) hsrc.one (.inl rfl)
  have hrep : RepL K (setRange cs off ((es.take m).map fun e => AV.d (e.headD .nilp))) (setRangeV vs.toList (off + 0) src).toArray.toList := by
    simpa using RepL.setRange (off := off) hr hrepS
  have hml : ((es.take m).map fun e => AV.d (e.headD .nilp)).length = m := by simp; omega
  have hsim := h.setRef (w' := w') (i0 := none) hcs hρ hbk hrep g1 g2 g3 g4 g5 g6 (fun i es' hi _ => by
    have hb2 : off + ((es.take m).map fun e => AV.d (e.headD .nilp)).length ≤ cs.length := by rw [hml]; exact hfit.1
    rw [setRange_get hb2] at hi
    split at hi
    · rename_i hin
      simp only [List.getElem?_map, Option.map_eq_some_iff] at hi
      obtain ⟨_, _, he⟩ := hi
      cases he
    · rename_i hin
      refine ⟨hi, ?_⟩
      rw [hml] at hin
      rw [List.getElem?_toArray, setRangeV_get (by rw [hvl, hsl]; have := hfit.1; omega), if_neg (by omega), Array.getElem?_toList]) (fun i es v hi => by simp at hi)
  exact ⟨_, w', K, hsimp w' hst, hsim, rep_int' _ _, fresh_of_not_own (fun es e => by cases e), Up.refl _ _⟩

theorem eqn {t : TypeId} {u v : Value} {b : Bool} (h : ∀ d, (Op.equalIn (d + 1) t u v).run P w = .ok b w) : (Op.equal t u v).run P w = .ok b w := h 9999

theorem nil0 {u : AV} {pv : Value} {b : Bool} (hb : eqNilA 0 u = some b) (hr : Rep K u pv) : (pv = .pointer none ∧ b = true) ∨ ∃ ad, pv = .pointer (some ad) ∧ b = false := by
  unfold eqNilA at hb
  split at hb <;> first | omega | (simp at hb; done) | skip
  · simp only [Option.some.injEq] at hb
    exact .inl ⟨by simpa [Rep, RepD] using hr, hb.symm⟩
  · simp only [Option.some.injEq] at hb
    simp only [Rep] at hr
    obtain ⟨b1, _, rfl⟩ := hr
    exact .inr ⟨_, rfl, hb.symm⟩
  · simp only [Option.some.injEq] at hb
    simp only [Rep] at hr
    obtain ⟨b1, o1, rfl, _⟩ := hr
    exact .inr ⟨_, rfl, hb.symm⟩

theorem nil1 {u : AV} {pv : Value} {b : Bool} (hb : eqNilA 1 u = some b) (hr : Rep K u pv) : (pv = .nilIface ∧ b = true) ∨ ∃ t' v', pv = .iface t' v' ∧ b = false := by
  unfold eqNilA at hb
  split at hb <;> first | omega | (simp at hb; done) | skip
  · simp only [Option.some.injEq] at hb
    exact .inl ⟨by simpa [Rep, RepD] using hr, hb.symm⟩
  · simp only [Option.some.injEq] at hb
    simp only [Rep] at hr
    obtain ⟨y1, rfl, _⟩ := hr
    exact .inr ⟨_, _, rfl, hb.symm⟩

theorem nil2 {u : AV} {pv : Value} {b : Bool} (hb : eqNilA 2 u = some b) (hr : Rep K u pv) : (pv = .nilFunc ∧ b = true) ∨ ∃ f a1 a2, pv = .func f a1 a2 ∧ b = false := by
  unfold eqNilA at hb
  split at hb <;> first | omega | (simp at hb; done) | skip
  · simp only [Option.some.injEq] at hb
    exact .inl ⟨by simpa [Rep, RepD] using hr, hb.symm⟩
  · simp only [Option.some.injEq] at hb
    simp only [Rep] at hr
    obtain ⟨y1, y2, rfl, _⟩ := hr
    exact .inr ⟨_, _, _, rfl, hb.symm⟩

theorem nil3 {u : AV} {pv : Value} {b : Bool} (hb : eqNilA 3 u = some b) (hr : Rep K u pv) : (pv = .slice none 0 0 ∧ b = true) ∨ ∃ ad n m, pv = .slice (some ad) n m ∧ b = false := by
  unfold eqNilA at hb
  split at hb <;> first | omega | (simp at hb; done) | skip
  · simp only [Option.some.injEq] at hb
    exact .inl ⟨by simpa [Rep] using hr, hb.symm⟩
  · simp only [Option.some.injEq] at hb
    simp only [Rep, RepD] at hr
    obtain ⟨ad, n, rfl, _, hrr⟩ := hr
    obtain ⟨b1, o1, z1, rfl, _⟩ := hrr (by simp)
    exact .inr ⟨_, _, _, rfl, hb.symm⟩

/-- a value that is held against a nil of its own kind -/
def NilPair (P : Program) (w : World) (t : TypeId) (b : Bool) (pv nv : Value) : Prop :=
  (Op.equal t pv nv).run P w = .ok b w ∧ (Op.equal t nv pv).run P w = .ok b w ∧
  (∀ op, binOp .eql op pv nv = (do pure (.bool (← Op.equal op pv nv))) ∧ binOp .neq op pv nv = (do pure (.bool (!(← Op.equal op pv nv)))) ∧
    binOp .eql op nv pv = (do pure (.bool (← Op.equal op nv pv))) ∧ binOp .neq op nv pv = (do pure (.bool (!(← Op.equal op nv pv))))) ∧
  (∀ cs, pv ≠ .agg cs) ∧ ∀ cs, nv ≠ .agg cs

theorem nilPair {t : TypeId} {nk : Nat} {u : AV} {pv nv : Value} {b : Bool} (ht : nilT P t = some nk) (hb : eqNilA nk u = some b) (hr : Rep K u pv)
    (hn : nk = 0 ∧ nv = .pointer none ∨ nk = 1 ∧ nv = .nilIface ∨ nk = 2 ∧ nv = .nilFunc ∨ nk = 3 ∧ nv = .slice none 0 0) : NilPair P w t b pv nv := by
  rcases hn with ⟨rfl, rfl⟩ | ⟨rfl, rfl⟩ | ⟨rfl, rfl⟩ | ⟨rfl, rfl⟩
  · obtain ⟨e, hu⟩ : ∃ e, P.underlying t = some (.pointer e) := by unfold nilT at ht; split at ht <;> first | exact ⟨_, by assumption⟩ | (simp at ht; done)
    rcases nil0 hb hr with ⟨rfl, rfl⟩ | ⟨ad, rfl, rfl⟩ <;>
      exact ⟨eqn fun d => by simp [Op.equalIn, run_underlying hu], eqn fun d => by simp [Op.equalIn, run_underlying hu], fun op => ⟨rfl, rfl, rfl, rfl⟩, by simp, by simp⟩
  · obtain ⟨e, hu⟩ : ∃ e, P.underlying t = some (.interface e) := by unfold nilT at ht; split at ht <;> first | exact ⟨_, by assumption⟩ | (simp at ht; done)
    rcases nil1 hb hr with ⟨rfl, rfl⟩ | ⟨t', v', rfl, rfl⟩ <;>
      exact ⟨eqn fun d => by simp [Op.equalIn, run_underlying hu], eqn fun d => by simp [Op.equalIn, run_underlying hu], fun op => ⟨rfl, rfl, rfl, rfl⟩, by simp, by simp⟩
  · obtain ⟨x1, x2, x3, hu⟩ : ∃ x1 x2 x3, P.underlying t = some (.func x1 x2 x3) := by unfold nilT at ht; split at ht <;> first | exact ⟨_, _, _, by assumption⟩ | (simp at ht; done)
    rcases nil2 hb hr with ⟨rfl, rfl⟩ | ⟨t', v', z', rfl, rfl⟩ <;>
      exact ⟨eqn fun d => by simp [Op.equalIn, run_underlying hu], eqn fun d => by simp [Op.equalIn, run_underlying hu], fun op => ⟨rfl, rfl, rfl, rfl⟩, by simp, by simp⟩
  · obtain ⟨e, hu⟩ : ∃ e, P.underlying t = some (.slice e) := by unfold nilT at ht; split at ht <;> first | exact ⟨_, by assumption⟩ | (simp at ht; done)
    rcases nil3 hb hr with ⟨rfl, rfl⟩ | ⟨ad, n, m, rfl, rfl⟩ <;>
      exact ⟨eqn fun d => by simp [Op.equalIn, run_underlying hu], eqn fun d => by simp [Op.equalIn, run_underlying hu], fun op => ⟨rfl, rfl, rfl, rfl⟩, by simp, by simp⟩

theorem isNil_cases {nk : Nat} {z : Operand} (hz : isNilC nk z = true) : ∃ nv, z = .const nv ∧ (nk = 0 ∧ nv = .pointer none ∨ nk = 1 ∧ nv = .nilIface ∨ nk = 2 ∧ nv = .nilFunc ∨ nk = 3 ∧ nv = .slice none 0 0) := by
  unfold isNilC at hz
  split at hz <;> first | exact ⟨_, rfl, by simp⟩ | simp at hz

theorem guard_const {op : BinOp} {t : TypeId} {p q : Operand} {u v : Value} (hc : (∃ c, p = .const c) ∨ ∃ c, q = .const c) (hu : ∀ cs, u ≠ .agg cs) : (eqGuard op t p q u v).run P w = .ok () w := by
  by_cases hnn : u = .nilIface ∧ v = .nilIface
  · obtain ⟨rfl, rfl⟩ := hnn
    unfold eqGuard
    rcases hc with ⟨c, rfl⟩ | ⟨c, rfl⟩ <;> cases op <;> simp
  · exact run_eqGuard ⟨fun cs cs' hh => hu cs hh.1, hnn⟩

theorem ok_eqnil {nk : Nat} {ne : Bool} {op : BinOp} {t yt : TypeId} {x : Opd} {p q : Operand} {o : Oper} {u : AV} {d : Did} (ho : o.op = .binOp op t p q yt) (hop : op = if ne then BinOp.neq else BinOp.eql) (h : Sim E K s a.tmps w)
    (ht : nilT P t = some nk) (hpq : (chkO x p = true ∧ isNilC nk q = true) ∨ (chkO x q = true ∧ isNilC nk p = true)) (hx : getO s.sl x = some u) (hd : vl s ((eqNilA nk u).map fun b => .d (.bool (b != ne))) = some d) : OpOK P E K s a w o d := by
  obtain ⟨r, hr, rfl⟩ := vl_of hd
  simp only [Option.map_eq_some_iff] at hr
  obtain ⟨b, hb, rfl⟩ := hr
  rcases hpq with ⟨h1, h2⟩ | ⟨h1, h2⟩
  · obtain ⟨nv, rfl, hnv⟩ := isNil_cases h2
    obtain ⟨k1, k2, k3, k4, k5⟩ := nilPair (w := w) ht hb (getO_rep h h1 hx) hnv
    refine opOK_pure h (pv := .bool (b != ne)) ?_ (rep_bool' _) (fun _ e => by cases e)
    have e1 : (binOp op t (a.eval p) nv).run P w = .ok (.bool (b != ne)) w := by
      cases ne <;> simp only [Bool.false_eq_true, if_false, if_true] at hop <;> subst hop
      · rw [(k3 t).1]; simp [k1]
      · rw [(k3 t).2.1]; simp [k1]
    simp only [execOp, ho, Sem.run_bind]
    rw [guard_const (.inr ⟨nv, rfl⟩) k4]
    simp only [Result.andThen_ok]
    show ((binOp op t (a.eval p) nv).run P w).andThen _ = _
    rw [e1]
    simp
  · obtain ⟨nv, rfl, hnv⟩ := isNil_cases h2
    obtain ⟨k1, k2, k3, k4, k5⟩ := nilPair (w := w) ht hb (getO_rep h h1 hx) hnv
    refine opOK_pure h (pv := .bool (b != ne)) ?_ (rep_bool' _) (fun _ e => by cases e)
    have e1 : (binOp op t nv (a.eval q)).run P w = .ok (.bool (b != ne)) w := by
      cases ne <;> simp only [Bool.false_eq_true, if_false, if_true] at hop <;> subst hop
      · rw [(k3 t).2.2.1]; simp [k2]
      · rw [(k3 t).2.2.2]; simp [k2]
    simp only [execOp, ho, Sem.run_bind]
    rw [guard_const (.inl ⟨nv, rfl⟩) (show ∀ cs, a.eval (.const nv) ≠ .agg cs from k5)]
    simp only [Result.andThen_ok]
    show ((binOp op t nv (a.eval q)).run P w).andThen _ = _
    rw [e1]
    simp

end
end Go.Ab
