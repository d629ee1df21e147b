/- Each operation does what the abstract one says: what is built, rows, texts and bytes. -/
import Derived.Test.YtpdfcjgehdlheaaA9
set_option linter.all false
namespace Go.Ab
section
variable {P : Program} {E : Env} {K : Ctx} {s : St} {a : Act} {w : World}

theorem run_zeroOf {t : TypeId} {z : List Value} (h : zeroT P t = some z) : ∃ v, (zeroValue t).run P w = .ok v w ∧ v.cells.toList = z ∧ ∃ i, P.info? t = some i ∧ i.zero = some v := by
  unfold zeroT at h
  cases hi : P.info? t with
  | none => simp [hi] at h
  | some i =>
    simp only [hi, Option.bind_some, Option.map_eq_some_iff] at h
    obtain ⟨v, hv, rfl⟩ := h
    exact ⟨v, by simp [zeroValue, run_typeInfo hi, hv], rfl, i, rfl, hv⟩

/-- the new reference's context -/
def Ctx.bind (K : Ctx) (r b : Nat) : Ctx := { K with ρ := updN K.ρ r (some b) }

theorem bind_up (K : Ctx) (n b : Nat) : Up n K (K.bind n b) := ⟨Le.refl _, fun r hr => by simp [Ctx.bind, updN]; omega⟩

theorem chkVs_no_own : ∀ {l : List AV} {vs : List Value}, chkVs l vs = true → ∀ x, x ∈ l → ∀ es, x ≠ .own es
  | [], _, _, x, hx, es, _ => by simp at hx
  | y :: l, vs, h, x, hx, es, e => by
    cases vs <;> simp [chkVs] at h
    rename_i v vs
    simp only [List.mem_cons] at hx
    rcases hx with rfl | hx
    · subst e
      exact absurd h.1 (by unfold chkV; simp)
    · exact chkVs_no_own h.2 x hx es e

theorem ok_alloc {cells : List AV} {t : TypeId} {o : Oper} {z : List Value} (ho : o.op = .alloc t) (h : Sim E K s a.tmps w) (hw : WF E.rf0 s) (hz : zeroT P t = some z) (hc : chkVs cells z = true) (hb : AV.refBs cells = 0) :
    OpOK P E K s a w o (.val (.ptr s.rf.length 0) { s with rf := s.rf ++ [cells] }) := by
  obtain ⟨v, hv, hcells, _⟩ := run_zeroOf (w := w) hz
  have hsim := h.newRef (K' := K.bind s.rf.length w.heap.size) (vs := v.cells) (el := t) hw (by rw [hcells]; exact chkVs_rep _ _ hc) (by omega) (chkVs_no_own hc) rfl rfl (bind_up K s.rf.length w.heap.size).2 (by simp [Ctx.bind, updN])
  refine ⟨.pointer (some ⟨w.heap.size, 0, none⟩), _, _, ?_, hsim, ?_, fresh_of_not_own (fun es e => by cases e), bind_up _ _ _⟩
  · simp only [execOp, ho, Instr.alloc, Sem.run_bind, hv, Result.andThen_ok]
    simp [newVar, newRow]
  · simp only [Rep]
    exact ⟨w.heap.size, by simp [Ctx.bind, updN], rfl⟩

theorem strips_no_own : ∀ (l : List AV) (x : AV), x ∈ AV.strips l → ∀ es, x ≠ .own es
  | [], x, h, _ => by simp [AV.strips] at h
  | y :: l, x, h, es => by
    simp only [AV.strips, List.mem_cons] at h
    rcases h with rfl | h
    · exact strip_not_own y es
    · exact strips_no_own l x h es

theorem strip_cells_no_own (u : AV) : ∀ x, x ∈ u.strip.cells → ∀ es, x ≠ .own es := by
  intro x hx es
  cases u <;> simp only [AV.strip, AV.cells, List.mem_singleton] at hx
  case agg cs => exact strips_no_own cs x hx es
  all_goals subst hx; intro e; cases e

theorem solid_cases {v : AV} (h : v.solid = true) : v.one = true ∨ ∃ cs, v = .agg cs := by cases v <;> simp_all [AV.solid, AV.one]

theorem ok_box {x : Opd} {y : Operand} {t : TypeId} {o : Oper} {v : AV} (ho : o.op = .box t y) (h : Sim E K s a.tmps w) (hw : WF E.rf0 s) (h1 : chkO x y = true) (hc : x.cok = true)
    (hx : getO s.sl x = some v) (hsol : v.solid = true) : OpOK P E K s a w o (.val (.ptr s.rf.length 0) { s with rf := s.rf ++ [v.cells] }) := by
  have hr := cells_rep' (getO_rep h h1 hx) (solid_cases hsol)
  have hb : AV.refBs v.cells ≤ s.rf.length := by rw [cells_b]; exact getO_b hw hc hx
  have hno : ∀ x, x ∈ v.cells → ∀ es, x ≠ .own es := by
    simp only [getO, Option.map_eq_some_iff] at hx
    obtain ⟨u, _, rfl⟩ := hx
    exact strip_cells_no_own u
  have hsim := h.newRef (K' := K.bind s.rf.length w.heap.size) (vs := (a.eval y).cells) (el := t) hw hr hb hno rfl rfl (bind_up K s.rf.length w.heap.size).2 (by simp [Ctx.bind, updN])
  refine ⟨.pointer (some ⟨w.heap.size, 0, none⟩), _, _, ?_, hsim, ?_, fresh_of_not_own (fun es e => by cases e), bind_up _ _ _⟩
  · simp only [execOp, ho, Instr.box, Sem.run_bind]
    simp [newVar, newRow]
  · simp only [Rep]
    exact ⟨w.heap.size, by simp [Ctx.bind, updN], rfl⟩

theorem fold_set : ∀ (l : List Value) (c : List Value) (off i : Nat), (l.zipIdx i).foldl (fun cs (p : Value × Nat) => cs.setIfInBounds (off + p.2) p.1) c.toArray = (setRangeV c (off + i) l).toArray
  | [], c, off, i => by simp [setRangeV]
  | v :: l, c, off, i => by
    simp only [List.zipIdx_cons, List.foldl_cons, setRangeV]
    have : c.toArray.setIfInBounds (off + i) v = (c.set (off + i) v).toArray := by simp
    rw [this, fold_set l (c.set (off + i) v) off (i + 1)]
    rfl

theorem fold_set' (v : Value) (c : List Value) (off : Nat) : v.cells.zipIdx.foldl (fun cs (p : Value × Nat) => cs.setIfInBounds (off + p.2) p.1) c.toArray = (setRangeV c off v.cells.toList).toArray := by
  rw [← Array.foldl_toList, Array.toList_zipIdx]
  exact fold_set v.cells.toList c off 0

theorem setRange_len {l m : List AV} {off : Nat} : (setRange l off m).length = l.length := by
  induction m generalizing l off with
  | nil => rfl
  | cons x m ih => simp [setRange, ih]

theorem run_fill (h : Sim E K s a.tmps w) {place : Nat → Option (Nat × Nat)} : ∀ {parts : List (Nat × Nat × Opd)} {ps : List (Nat × Operand)} {cs cs' : List AV} {c : List Value}, chkParts place parts ps = true → RepL K cs c → fillA s.sl cs parts = some cs' →
    ∃ c', Instr.fill place c.toArray (ps.map fun p => (p.1, a.eval p.2)) = some c'.toArray ∧ RepL K cs' c' ∧ cs'.length = cs.length
  | [], ps, cs, cs', c, hc, hr, hf => by
    cases ps <;> simp [chkParts] at hc
    simp only [fillA, Option.some.injEq] at hf
    subst hf
    exact ⟨c, by simp [Instr.fill], hr, rfl⟩
  | (off, size, x) :: parts, ps, cs, cs', c, hc, hr, hf => by
    cases ps with
    | nil => simp [chkParts] at hc
    | cons p ps =>
      obtain ⟨i, y⟩ := p
      simp only [chkParts, Bool.and_eq_true, beq_iff_eq] at hc
      simp only [fillA] at hf
      split at hf
      · rename_i v hv
        split at hf
        · rename_i hl
          have hrv := getO_rep h hc.1.2 hv
          have hcv := cells_rep' hrv (solid_cases hl.2.2)
          have hsz : (a.eval y).cells.size = size := by rw [← Array.length_toList, hcv.length]; exact hl.1
          have hcl : c.length = cs.length := hr.length
          have hr2 := RepL.setRange (off := off) hr hcv
          obtain ⟨c', h1, h2, h3⟩ := run_fill h hc.2 hr2 hf
          refine ⟨c', ?_, h2, by rw [h3, setRange_len]⟩
          simp only [List.map_cons, Instr.fill, hc.1.1, hsz]
          rw [if_neg (by simp [hcl]; omega), fold_set' (a.eval y) c off]
          exact h1
        · simp at hf
      · simp at hf

theorem fill_congr {p q : Nat → Option (Nat × Nat)} (h : ∀ i, p i = q i) (c : Array Value) (l : List (Nat × Value)) : Instr.fill p c l = Instr.fill q c l := by rw [funext h]

theorem built_of {t : TypeId} {z : List Value} {pl : Nat → Option (Nat × Nat)} {parts : List (Nat × Value)} {r : Array Value} (hz : zeroT P t = some z) (hp : placesOf P t = some pl)
    (hf : Instr.fill pl z.toArray parts = some r) : P.built t parts = some r := by
  unfold zeroT at hz
  cases hi : P.info? t with
  | none => simp [hi] at hz
  | some i =>
    simp only [hi, Option.bind_some, Option.map_eq_some_iff] at hz
    obtain ⟨v, hv, rfl⟩ := hz
    unfold placesOf at hp
    split at hp
    · rename_i fs hu
      simp only [Option.map_eq_some_iff] at hp
      obtain ⟨l, hl, rfl⟩ := hp
      simp only [Program.built, hi, hu, hv, hl]
      rw [← hf]
      simp
    · rename_i n e hu
      simp only [sizeT, Option.map_eq_some_iff, Option.map_map] at hp
      obtain ⟨ie, hie, rfl⟩ := hp
      simp only [Program.built, hi, hu, hv, hie]
      rw [← hf]
      simp
    · simp at hp

theorem ok_build {zero : List AV} {parts : List (Nat × Nat × Opd)} {t : TypeId} {ps : Array (Nat × Operand)} {o : Oper} {z : List Value} {pl : Nat → Option (Nat × Nat)} {cs : List AV} (ho : o.op = .build t ps) (h : Sim E K s a.tmps w)
    (hz : zeroT P t = some z) (hp : placesOf P t = some pl) (hc : chkVs zero z = true) (hps : chkParts pl parts ps.toList = true) (hf : fillA s.sl zero parts = some cs) : OpOK P E K s a w o (.val (.agg cs) s) := by
  obtain ⟨c', h1, h2, _⟩ := run_fill h hps (chkVs_rep (K := K) _ _ hc) hf
  have hb := built_of hz hp h1
  refine opOK_pure h (pv := .agg c'.toArray) ?_ (by simp only [Rep]; exact ⟨_, rfl, by simpa using h2⟩) (fun _ e => by cases e)
  have he : (ps.map fun (i, x) => (i, a.eval x)).toList = ps.toList.map fun p => (p.1, a.eval p.2) := by simp
  have := run_build (P := P) w t (ps.map fun (i, x) => (i, a.eval x)) c'.toArray (by rw [he]; exact hb)
  simp only [execOp, ho, Sem.run_bind, this, Result.andThen_ok, Sem.run_pure]

theorem toDs_rep : ∀ {l : List AV} {ds : List D} {vs : List Value}, toDs l = some ds → RepL K l vs → ∀ (j : Nat) x, ds[j]? = some x → ∃ v, vs[j]? = some v ∧ RepD K.G x v
  | [], ds, vs, h, _, j, x, hx => by simp only [toDs, Option.some.injEq] at h; subst h; simp at hx
  | y :: l, ds, vs, h, hr, j, x, hx => by
    simp only [toDs] at h
    split at h
    · rename_i d dr hd hdr
      simp only [Option.some.injEq] at h
      subst h
      simp only [RepL] at hr
      obtain ⟨v, r, rfl, hv, hl⟩ := hr
      cases j with
      | zero =>
        simp only [List.getElem?_cons_zero, Option.some.injEq] at hx
        subst hx
        refine ⟨v, by simp, ?_⟩
        cases y <;> simp only [AV.toD, Option.some.injEq] at hd
        · subst hd; simpa [Rep] using hv
        · subst hd
          simp only [Rep] at hv
          subst hv
          simp only [RepD]
          exact ⟨none, 0, rfl, by simp, by simp⟩
        · subst hd; simpa [Rep] using hv
        all_goals simp at hd
      | succ j =>
        simp only [List.getElem?_cons_succ] at hx ⊢
        exact toDs_rep hdr hl j x hx
    · simp at h

theorem toDs_len : ∀ {l : List AV} {ds : List D}, toDs l = some ds → ds.length = l.length
  | [], ds, h => by simp only [toDs, Option.some.injEq] at h; subst h; rfl
  | y :: l, ds, h => by
    simp only [toDs] at h
    split at h
    · rename_i d dr hd hdr
      simp only [Option.some.injEq] at h
      subst h
      simp [toDs_len hdr]
    · simp at h

theorem chunks_len (sz : Nat) : ∀ (n : Nat) (l : List D), (chunks sz n l).length = n
  | 0, l => rfl
  | n + 1, l => by simp [chunks, chunks_len sz n]

theorem chunks_each (sz : Nat) : ∀ (n : Nat) (l : List D), n * sz ≤ l.length → ∀ e, e ∈ chunks sz n l → e.length = sz
  | 0, l, _, e, h => by simp [chunks] at h
  | n + 1, l, hl, e, h => by
    simp only [Nat.add_mul, Nat.one_mul] at hl
    simp only [chunks, List.mem_cons] at h
    rcases h with rfl | h
    · simp; omega
    · exact chunks_each sz n (l.drop sz) (by simp; omega) e h

theorem chunks_flat (sz : Nat) : ∀ (n : Nat) (l : List D), (chunks sz n l).flatten = l.take (n * sz)
  | 0, l => by simp [chunks]
  | n + 1, l => by
    simp only [chunks, List.flatten_cons, chunks_flat sz n]
    rw [Nat.add_mul, Nat.one_mul, Nat.add_comm (n * sz) sz, List.take_add]

/-- a row of one's own is there: its value -/
theorem own_new {es : List (List D)} {sz b off n cap : Nat} {c : Array Value} {el : TypeId} {fz : Nat × Nat} {K' : Ctx} {s' : St} {w' : World} (hl : ∀ e, e ∈ es → e.length = sz) (hr : RepRows K'.G b sz off es)
    (hF : K'.F b = some (off + es.length * sz)) (hb : w'.heap[b]? = some (.cells c el fz)) (hn : n = es.length) (hcap : n ≤ cap) (hc : off + cap * sz ≤ c.size) (hcap0 : es = [] → cap = 0) (hT : b < E.w0.heap.size → E.T b)
    (hno : ∀ ℓ es' v', holds K' s' a.tmps w' ℓ (.own es') v' → blk v' ≠ some b) : Rep K' (.own es) (.slice (some ⟨b, off, none⟩) n cap) ∧ Fresh E K' s' a.tmps w' none (.own es) (.slice (some ⟨b, off, none⟩) n cap) := by
  subst hn
  refine ⟨?_, fun es' e => ?_⟩
  · simp only [Rep, RepD]
    exact ⟨_, _, rfl, hcap, fun _ => ⟨b, off, sz, rfl, hr⟩⟩
  · cases e
    refine ⟨?_, fun bb hbb => ?_⟩
    · cases es with
      | nil =>
        simp only [OwnV]
        have := hcap0 rfl
        subst this
        exact ⟨_, rfl⟩
      | cons e l =>
        have he : e.length = sz := hl e (by simp)
        simp only [OwnV, List.length_cons] at hF hcap ⊢
        exact ⟨b, off, cap, c, el, fz, rfl, hcap, by rw [he, hF], hb, by rw [he]; omega, by rw [he]; exact hr⟩
    · have : bb = b := by
        cases es with
        | nil => simp [blk] at hbb
        | cons e l => simp [blk] at hbb; exact hbb.symm
      subst this
      exact ⟨hT, fun ℓ es' v' _ hh => hno ℓ es' v' hh⟩

theorem new_not_owned (h : Sim E K s a.tmps w) {K' : Ctx} {w' : World} (hρ : K'.ρ = K.ρ) (hc : ∀ b o, b < w.heap.size → w'.cell? ⟨b, o, none⟩ = w.cell? ⟨b, o, none⟩) :
    ∀ ℓ es' v', holds K' s a.tmps w' ℓ (.own es') v' → blk v' ≠ some w.heap.size := by
  intro ℓ es' v' hh hb
  have hh' : holds K s a.tmps w ℓ (.own es') v' := by
    cases ℓ with
    | sl t => exact hh
    | rf r i =>
      obtain ⟨cs, β, h1, h2, h3, h4⟩ := hh
      rw [hρ] at h3
      obtain ⟨b', vs', el', g1, g2, _⟩ := h.refs r cs h1
      rw [g1] at h3
      have hbb : b' = β := by simpa using h3
      subst hbb
      rw [hc _ i (heap_lt g2)] at h4
      exact ⟨cs, b', h1, h2, g1, h4⟩
  have := h.own ℓ es' v' hh'
  cases es' with
  | nil => obtain ⟨ad, rfl⟩ := this; simp [blk] at hb
  | cons e l =>
    obtain ⟨b, o, n, c, el, fz, rfl, _, _, hc', _⟩ := this
    simp only [blk, Option.some.injEq] at hb
    have := heap_lt hc'
    omega

theorem fill_sz {place : Nat → Option (Nat × Nat)} {c : Array Value} {l : List (Nat × Value)} {r : Array Value} (h : Instr.fill place c l = some r) : r.size = c.size := by
  induction l generalizing c with
  | nil => simp only [Instr.fill, Option.some.injEq] at h; subst h; rfl
  | cons p l ih =>
    obtain ⟨i, v⟩ := p
    simp only [Instr.fill] at h
    split at h
    · simp at h
    · split at h
      · simp at h
      · rename_i off size _ _
        have := ih h
        rw [this]
        have e := fold_set' v c.toList off
        simp only [Array.toArray_toList] at e
        rw [e]
        simp [setRangeV_len]

theorem range_map_flat (z : Array Value) (n : Nat) : ((Array.range (n * z.size)).map (z[· % z.size]!)).toList = (List.replicate n z.toList).flatten := by
  apply List.ext_getElem?
  intro j
  have hfl : (List.replicate n z.toList).flatten.length = n * z.size := by simp
  by_cases hj : j < n * z.size
  · have h1 : ((Array.range (n * z.size)).map (z[· % z.size]!)).toList[j]? = some (z[j % z.size]!) := by
      simp [hj]
    rw [h1]
    have h2 : ∀ (n j : Nat), j < n * z.size → (List.replicate n z.toList).flatten[j]? = some (z[j % z.size]!) := fun n => by
      induction n with
      | zero => intro j hj; simp at hj
      | succ n ih =>
        intro j hj
        simp only [Nat.add_mul, Nat.one_mul] at hj
        rw [List.replicate_succ, List.flatten_cons]
        by_cases hlt : j < z.size
        · rw [List.getElem?_append_left (by simpa using hlt), Nat.mod_eq_of_lt hlt]
          simp [hlt]
        · rw [List.getElem?_append_right (by simp; omega)]
          have := ih (j - z.size) (by omega)
          simp only [Array.length_toList]
          rw [this, ← Nat.mod_eq_sub_mod (by omega)]
    exact (h2 n j hj).symm
  · rw [List.getElem?_eq_none (by simp; omega), List.getElem?_eq_none (by rw [hfl]; omega)]

theorem ok_mkls {sz len : Nat} {zero : List AV} {parts : List (Nat × Nat × Opd)} {t e : TypeId} {ps : Array (Nat × Operand)} {o : Oper} {z : List Value} {cs : List AV} {ds : List D} (ho : o.op = .buildSlice t len ps) (h : Sim E K s a.tmps w)
    (ht : elemT P t = some e) (hsz : sizeT P e = some sz) (hz : zeroT P e = some z) (hzl : z.length = sz) (hpos : 0 < sz) (hlen : len * sz ≤ 2 ^ 24) (hc : chkVs zero ((List.replicate len z).flatten) = true)
    (hps : chkParts (fun i => some (i * sz, sz)) parts ps.toList = true) (hf : fillA s.sl zero parts = some cs) (hd : toDs cs = some ds) : OpOK P E K s a w o (.val (.own (chunks sz (ds.length / sz) ds)) s) := by
  obtain ⟨c', h1, h2, h3⟩ := run_fill h hps (chkVs_rep (K := K) _ _ hc) hf
  have hu := und_elem ht
  obtain ⟨zv, hzv, hzc, _⟩ := run_zeroOf (w := w) hz
  have hc'len : c'.length = len * sz := by
    have e1 := fill_sz h1
    simp only [List.size_toArray] at e1
    rw [e1]
    simp [hzl]
  have hdl : ds.length = len * sz := by rw [toDs_len hd, ← h2.length, hc'len]
  have hdiv : ds.length / sz = len := by rw [hdl]; exact Nat.mul_div_cancel _ hpos
  rw [hdiv]
  have hes := chunks_each sz len ds (by omega)
  have hel := chunks_len sz len ds
  have hflat : (chunks sz len ds).flatten = ds := by rw [chunks_flat, ← hdl, List.take_length]
  obtain ⟨K', hsim, hρ, hle, hrows, hF⟩ := h.newRow (es := chunks sz len ds) (sz := sz) (c := c'.toArray) (el := e) (fz := (0, 0)) hes (fun j x hx => by
    rw [hflat] at hx
    simpa using toDs_rep hd h2 j x hx) (.inl rfl)
  have hno := new_not_owned (w' := w.alloc (.cells c'.toArray e)) h hρ (fun b o hb => cell_alloc hb)
  have hfin := own_new (E := E) (s' := s) (n := len) (cap := len) hes hrows (by simpa using hF) (alloc_new _ _) (by rw [hel]) (Nat.le_refl _) (by simp [hc'len]) (fun e0 => by rw [← hel, e0]; rfl) (fun hlt => absurd h.size (by omega)) hno
  refine ⟨_, _, K', ?_, hsim, hfin.1, hfin.2, ⟨hle, fun r _ => by rw [hρ]⟩⟩
  have he : (ps.map fun (i, x) => (i, a.eval x)).toList = ps.toList.map fun p => (p.1, a.eval p.2) := by simp
  simp only [execOp, ho, Instr.buildSlice, Sem.run_bind, run_underlying hu, Result.andThen_ok, run_sizeOf hsz]
  rw [if_neg (by omega)]
  by_cases hl0 : len * sz = 0
  · have hrng : (Array.range (len * sz)).map ((#[] : Array Value)[· % (#[] : Array Value).size]!) = ((List.replicate len z).flatten).toArray := by
      have : len = 0 := by
        rcases Nat.mul_eq_zero.1 hl0 with h' | h'
        · exact h'
        · omega
      subst this
      simp
    rw [if_pos hl0]
    simp only [Sem.run_bind, Sem.run_pure, Result.andThen_ok]
    rw [hrng, he, h1]
    simp [newRow]
  · have hrng : (Array.range (len * sz)).map (zv.cells[· % zv.cells.size]!) = ((List.replicate len z).flatten).toArray := by
      have hzs : zv.cells.size = sz := by rw [← Array.length_toList, hzc, hzl]
      rw [← Array.toArray_toList (xs := (Array.range (len * sz)).map (zv.cells[· % zv.cells.size]!)), ← hzs, range_map_flat zv.cells len, hzc]
    rw [if_neg hl0]
    simp only [Sem.run_bind, hzv, Sem.run_pure, Result.andThen_ok]
    rw [hrng, he, h1]
    simp [newRow]

end
end Go.Ab
