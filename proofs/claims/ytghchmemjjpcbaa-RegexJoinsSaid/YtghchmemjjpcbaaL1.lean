/- A part of the proof: tools. No condition. -/
import Derived.Test.YtghchmemjjpcbaaL0
import Derived.DeepKeys
import Derived.MapKept
import Derived.Laws.MakeOwn
import Derived.Recover
import Derived.Orders
set_option linter.all false
namespace Go.Ab
variable [Glb]
section
variable {P : Program} {E : Env} {K : Ctx} {s : St} {a : Act} {w : World}
theorem run_zeroOf {t : TypeId} {z : List Value} (h : zeroT P t = some z) : ∃ v, (zeroValue t).run P w = .ok v w ∧ v.cells.toList = z ∧ ∃ i, P.info? t = some i ∧ i.zero = some v := by
 unfold zeroT at h
 cases hi : P.info? t with
 | none => simp [hi] at h
 | some i =>
   simp only [hi, Option.bind_some, Option.map_eq_some_iff] at h
   obtain ⟨v, hv, rfl⟩ := h
   exact ⟨v, by simp [zeroValue, run_typeInfo hi, hv], rfl, i, rfl, hv⟩
def Ctx.bind (K : Ctx) (r b : Nat) : Ctx := { K with ρ := updN K.ρ r (some b) }
theorem bind_up (K : Ctx) (n b : Nat) : Up n K (K.bind n b) := ⟨Le.refl _, fun r hr => by simp [Ctx.bind, updN]; omega⟩
theorem chkVs_no_own : ∀ {l : List AV} {vs : List Value}, chkVs l vs = true → ∀ x, x ∈ l → ∀ es, x ≠ .own es
 | [], _, _, x, hx, es, _ => by simp at hx
 | y :: l, vs, h, x, hx, es, e => by
   cases vs <;> simp [chkVs] at h
   rename_i v vs
   simp only [List.mem_cons] at hx
   rcases hx with rfl | hx
   ·subst e
    exact absurd h.1 (by unfold chkV; simp)
   ·exact chkVs_no_own h.2 x hx es e
theorem chkVs_noMp {l : List AV} {vs : List Value} (h : chkVs l vs = true) : isMp l = false := by
 cases l with
 | nil => rfl
 | cons y l =>
   cases vs with
   | nil => simp [chkVs] at h
   | cons v vs =>
     simp only [chkVs, Bool.and_eq_true] at h
     cases y <;> first | rfl | skip
     rename_i zs
     have := h.1
     unfold chkV at this
     cases v <;> simp at this
theorem ok_alloc {cells : List AV} {t : TypeId} {o : Oper} {z : List Value} (ho : o.op = .alloc t) (h : Sim E K s a.tmps w) (hw : WF E.rf0 s) (hz : zeroT P t = some z) (hc : chkVs cells z = true) (hb : AV.refBs cells = 0) :
  OpOK P E K s a w o (.val (.ptr s.rf.length 0) { s with rf := s.rf ++ [cells] }) := by
 obtain ⟨v, hv, hcells, _⟩ := run_zeroOf (w := w) hz
 have hsim := h.newRef (K' := K.bind s.rf.length w.heap.size) (ob := .cells v.cells t) hw (.cells _ _ (chkVs_noMp hc) (by rw [hcells]; exact chkVs_rep _ _ hc)) (by omega) (chkVs_no_own hc) rfl rfl (bind_up K s.rf.length w.heap.size).2 (by simp [Ctx.bind, updN])
 refine ⟨.pointer (some ⟨w.heap.size, 0, none⟩), _, _, ?_, hsim, ?_, fresh_of_not_own (fun es e => by cases e), bind_up _ _ _⟩
 ·simp only [execOp, ho, Instr.alloc, Sem.run_bind, hv, Result.andThen_ok]
  simp [newVar, newRow]
 ·simp only [Rep]
  exact ⟨w.heap.size, by simp [Ctx.bind, updN], rfl⟩
theorem strips_no_own : ∀ (l : List AV) (x : AV), x ∈ AV.strips l → ∀ es, x ≠ .own es
 | [], x, h, _ => by simp [AV.strips] at h
 | y :: l, x, h, es => by
   simp only [AV.strips, List.mem_cons] at h
   rcases h with rfl | h
   ·exact strip_not_own y es
   ·exact strips_no_own l x h es
theorem strip_cells_no_own (u : AV) : ∀ x, x ∈ u.strip.cells → ∀ es, x ≠ .own es := by
 intro x hx es
 cases u <;> simp only [AV.strip, AV.cells, List.mem_singleton] at hx
 case agg cs => exact strips_no_own cs x hx es
 all_goals subst hx; intro e; cases e
theorem solid_cases {v : AV} (h : v.solid = true) : v.one = true ∨ ∃ cs, v = .agg cs := by cases v <;> simp_all [AV.solid, AV.one]
theorem ok_box {x : Opd} {y : Operand} {t : TypeId} {o : Oper} {v : AV} (ho : o.op = .box t y) (h : Sim E K s a.tmps w) (hw : WF E.rf0 s) (h1 : chkO x y = true) (hc : x.cok = true)
  (hx : getO s.sl x = some v) (hsol : v.solid = true) (hmp : isMp v.cells = false) : OpOK P E K s a w o (.val (.ptr s.rf.length 0) { s with rf := s.rf ++ [v.cells] }) := by
 have hr := cells_rep' (getO_rep h h1 hx) (solid_cases hsol)
 have hb : AV.refBs v.cells ≤ s.rf.length := by rw [cells_b]; exact getO_b hw hc hx
 have hno : ∀ x, x ∈ v.cells → ∀ es, x ≠ .own es := by
  simp only [getO, Option.map_eq_some_iff] at hx
  obtain ⟨u, _, rfl⟩ := hx
  exact strip_cells_no_own u
 have hsim := h.newRef (K' := K.bind s.rf.length w.heap.size) (ob := .cells (a.eval y).cells t) hw (.cells _ _ hmp hr) hb hno rfl rfl (bind_up K s.rf.length w.heap.size).2 (by simp [Ctx.bind, updN])
 refine ⟨.pointer (some ⟨w.heap.size, 0, none⟩), _, _, ?_, hsim, ?_, fresh_of_not_own (fun es e => by cases e), bind_up _ _ _⟩
 ·simp only [execOp, ho, Instr.box, Sem.run_bind]
  simp [newVar, newRow]
 ·simp only [Rep]
  exact ⟨w.heap.size, by simp [Ctx.bind, updN], rfl⟩
theorem fold_set : ∀ (l : List Value) (c : List Value) (off i : Nat), (l.zipIdx i).foldl (fun cs (p : Value × Nat) => cs.setIfInBounds (off + p.2) p.1) c.toArray = (setRangeV c (off + i) l).toArray
 | [], c, off, i => by simp [setRangeV]
 | v :: l, c, off, i => by
   simp only [List.zipIdx_cons, List.foldl_cons, setRangeV]
   have : c.toArray.setIfInBounds (off + i) v = (c.set (off + i) v).toArray := by simp
   rw [this, fold_set l (c.set (off + i) v) off (i + 1)]
   rfl
theorem fold_set' (v : Value) (c : List Value) (off : Nat) : v.cells.zipIdx.foldl (fun cs (p : Value × Nat) => cs.setIfInBounds (off + p.2) p.1) c.toArray = (setRangeV c off v.cells.toList).toArray := by
 rw [← Array.foldl_toList, Array.toList_zipIdx]
 exact fold_set v.cells.toList c off 0
theorem setRange_len {l m : List AV} {off : Nat} : (setRange l off m).length = l.length := by
 induction m generalizing l off with
 | nil => rfl
 | cons x m ih => simp [setRange, ih]
theorem run_fill (h : Sim E K s a.tmps w) {place : Nat → Option (Nat × Nat)} : ∀ {parts : List (Nat × Nat × Opd)} {ps : List (Nat × Operand)} {cs cs' : List AV} {c : List Value}, chkParts place parts ps = true → RepL K cs c → fillA s.sl cs parts = some cs' →
  ∃ c', Instr.fill place c.toArray (ps.map fun p => (p.1, a.eval p.2)) = some c'.toArray ∧ RepL K cs' c' ∧ cs'.length = cs.length
 | [], ps, cs, cs', c, hc, hr, hf => by
   cases ps <;> simp [chkParts] at hc
   simp only [fillA, Option.some.injEq] at hf
   subst hf
   exact ⟨c, by simp [Instr.fill], hr, rfl⟩
 | (off, size, x) :: parts, ps, cs, cs', c, hc, hr, hf => by
   cases ps with
   | nil => simp [chkParts] at hc
   | cons p ps =>
     obtain ⟨i, y⟩ := p
     simp only [chkParts, Bool.and_eq_true, beq_iff_eq] at hc
     simp only [fillA] at hf
     split at hf
     ·rename_i v hv
      split at hf
      ·rename_i hl
       have hrv := getO_rep h hc.1.2 hv
       have hcv := cells_rep' hrv (solid_cases hl.2.2)
       have hsz : (a.eval y).cells.size = size := by rw [← Array.length_toList, hcv.length]; exact hl.1
       have hcl : c.length = cs.length := hr.length
       have hr2 := RepL.setRange (off := off) hr hcv
       obtain ⟨c', h1, h2, h3⟩ := run_fill h hc.2 hr2 hf
       refine ⟨c', ?_, h2, by rw [h3, setRange_len]⟩
       simp only [List.map_cons, Instr.fill, hc.1.1, hsz]
       rw [if_neg (by simp [hcl]; omega), fold_set' (a.eval y) c off]
       exact h1
      ·simp at hf
     ·simp at hf
theorem fill_congr {p q : Nat → Option (Nat × Nat)} (h : ∀ i, p i = q i) (c : Array Value) (l : List (Nat × Value)) : Instr.fill p c l = Instr.fill q c l := by rw [funext h]
theorem built_of {t : TypeId} {z : List Value} {pl : Nat → Option (Nat × Nat)} {parts : List (Nat × Value)} {r : Array Value} (hz : zeroT P t = some z) (hp : placesOf P t = some pl)
  (hf : Instr.fill pl z.toArray parts = some r) : P.built t parts = some r := by
 unfold zeroT at hz
 cases hi : P.info? t with
 | none => simp [hi] at hz
 | some i =>
   simp only [hi, Option.bind_some, Option.map_eq_some_iff] at hz
   obtain ⟨v, hv, rfl⟩ := hz
   unfold placesOf at hp
   split at hp
   ·rename_i fs hu
    simp only [Option.map_eq_some_iff] at hp
    obtain ⟨l, hl, rfl⟩ := hp
    simp only [Program.built, hi, hu, hv, hl]
    rw [← hf]
    simp
   ·rename_i n e hu
    simp only [sizeT, Option.map_eq_some_iff, Option.map_map] at hp
    obtain ⟨ie, hie, rfl⟩ := hp
    simp only [Program.built, hi, hu, hv, hie]
    rw [← hf]
    simp
   ·simp at hp
theorem ok_build {zero : List AV} {parts : List (Nat × Nat × Opd)} {t : TypeId} {ps : Array (Nat × Operand)} {o : Oper} {z : List Value} {pl : Nat → Option (Nat × Nat)} {cs : List AV} (ho : o.op = .build t ps) (h : Sim E K s a.tmps w)
  (hz : zeroT P t = some z) (hp : placesOf P t = some pl) (hc : chkVs zero z = true) (hps : chkParts pl parts ps.toList = true) (hf : fillA s.sl zero parts = some cs) : OpOK P E K s a w o (.val (.agg cs) s) := by
 obtain ⟨c', h1, h2, _⟩ := run_fill h hps (chkVs_rep (K := K) _ _ hc) hf
 have hb := built_of hz hp h1
 refine opOK_pure h (pv := .agg c'.toArray) ?_ (by simp only [Rep]; exact ⟨_, rfl, by simpa using h2⟩) (fun _ e => by cases e)
 have he : (ps.map fun (i, x) => (i, a.eval x)).toList = ps.toList.map fun p => (p.1, a.eval p.2) := by simp
 have := run_build (P := P) w t (ps.map fun (i, x) => (i, a.eval x)) c'.toArray (by rw [he]; exact hb)
 simp only [execOp, ho, Sem.run_bind, this, Result.andThen_ok, Sem.run_pure]
theorem toDs_rep : ∀ {l : List AV} {ds : List D} {vs : List Value}, toDs l = some ds → RepL K l vs → ∀ (j : Nat) x, ds[j]? = some x → ∃ v, vs[j]? = some v ∧ RepD K.G x v
 | [], ds, vs, h, _, j, x, hx => by simp only [toDs, Option.some.injEq] at h; subst h; simp at hx
 | y :: l, ds, vs, h, hr, j, x, hx => by
   simp only [toDs] at h
   split at h
   ·rename_i d dr hd hdr
    simp only [Option.some.injEq] at h
    subst h
    simp only [RepL] at hr
    obtain ⟨v, r, rfl, hv, hl⟩ := hr
    cases j with
    | zero =>
      simp only [List.getElem?_cons_zero, Option.some.injEq] at hx
      subst hx
      refine ⟨v, by simp, ?_⟩
      cases y <;> simp only [AV.toD, Option.some.injEq] at hd
      ·subst hd; simpa [Rep] using hv
      ·subst hd
       simp only [Rep] at hv
       subst hv
       simp only [RepD]
       exact ⟨none, 0, rfl, by simp, by simp⟩
      ·subst hd; simpa [Rep] using hv
      all_goals simp at hd
    | succ j =>
      simp only [List.getElem?_cons_succ] at hx ⊢
      exact toDs_rep hdr hl j x hx
   ·simp at h
theorem toDs_len : ∀ {l : List AV} {ds : List D}, toDs l = some ds → ds.length = l.length
 | [], ds, h => by simp only [toDs, Option.some.injEq] at h; subst h; rfl
 | y :: l, ds, h => by
   simp only [toDs] at h
   split at h
   ·rename_i d dr hd hdr
    simp only [Option.some.injEq] at h
    subst h
    simp [toDs_len hdr]
   ·simp at h
theorem chunks_len (sz : Nat) : ∀ (n : Nat) (l : List D), (chunks sz n l).length = n
 | 0, l => rfl
 | n + 1, l => by simp [chunks, chunks_len sz n]
theorem chunks_each (sz : Nat) : ∀ (n : Nat) (l : List D), n * sz ≤ l.length → ∀ e, e ∈ chunks sz n l → e.length = sz
 | 0, l, _, e, h => by simp [chunks] at h
 | n + 1, l, hl, e, h => by
   simp only [Nat.add_mul, Nat.one_mul] at hl
   simp only [chunks, List.mem_cons] at h
   rcases h with rfl | h
   ·simp; omega
   ·exact chunks_each sz n (l.drop sz) (by simp; omega) e h
theorem chunks_flat (sz : Nat) : ∀ (n : Nat) (l : List D), (chunks sz n l).flatten = l.take (n * sz)
 | 0, l => by simp [chunks]
 | n + 1, l => by
   simp only [chunks, List.flatten_cons, chunks_flat sz n]
   rw [Nat.add_mul, Nat.one_mul, Nat.add_comm (n * sz) sz, List.take_add]
theorem own_new {es : List (List D)} {sz b off n cap : Nat} {c : Array Value} {el : TypeId} {fz : Nat × Nat} {K' : Ctx} {s' : St} {w' : World} (hl : ∀ e, e ∈ es → e.length = sz) (hr : RepRows K'.G b sz off es)
  (hF : K'.F b = some (off + es.length * sz)) (hb : w'.heap[b]? = some (.cells c el fz)) (hn : n = es.length) (hcap : n ≤ cap) (hc : off + cap * sz ≤ c.size) (hcap0 : es = [] → cap = 0) (hT : b < E.w0.heap.size → E.T b)
  (hno : ∀ ℓ es' v', holds K' s' a.tmps w' ℓ (.own es') v' → blk v' ≠ some b) : Rep K' (.own es) (.slice (some ⟨b, off, none⟩) n cap) ∧ Fresh E K' s' a.tmps w' none (.own es) (.slice (some ⟨b, off, none⟩) n cap) := by
 subst hn
 refine ⟨?_, fun es' e => ?_⟩
 ·simp only [Rep, RepD]
  exact ⟨_, _, rfl, hcap, fun _ => ⟨b, off, sz, rfl, hr⟩⟩
 ·cases e
  refine ⟨?_, fun bb hbb => ?_⟩
  ·cases es with
   | nil =>
     simp only [OwnV]
     have := hcap0 rfl
     subst this
     exact ⟨_, rfl⟩
   | cons e l =>
     have he : e.length = sz := hl e (by simp)
     simp only [OwnV, List.length_cons] at hF hcap ⊢
     exact ⟨b, off, cap, c, el, fz, rfl, hcap, by rw [he, hF], hb, by rw [he]; omega, by rw [he]; exact hr⟩
  ·have : bb = b := by
    cases es with
    | nil => simp [blk] at hbb
    | cons e l => simp [blk] at hbb; exact hbb.symm
   subst this
   exact ⟨hT, fun ℓ es' v' _ hh => hno ℓ es' v' hh⟩
theorem new_not_owned (h : Sim E K s a.tmps w) {K' : Ctx} {w' : World} (hρ : K'.ρ = K.ρ) (hc : ∀ b o, b < w.heap.size → w'.cell? ⟨b, o, none⟩ = w.cell? ⟨b, o, none⟩) :
  ∀ ℓ es' v', holds K' s a.tmps w' ℓ (.own es') v' → blk v' ≠ some w.heap.size := by
 intro ℓ es' v' hh hb
 have hh' : holds K s a.tmps w ℓ (.own es') v' := by
  cases ℓ with
  | sl t => exact hh
  | rf r i =>
    obtain ⟨cs, β, h1, h2, h3, h4⟩ := hh
    rw [hρ] at h3
    obtain ⟨b', o', g1, g2, _⟩ := h.refs r cs h1
    rw [g1] at h3
    have hbb : b' = β := by simpa using h3
    subst hbb
    rw [hc _ i (heap_lt g2)] at h4
    exact ⟨cs, b', h1, h2, g1, h4⟩
 have := h.own ℓ es' v' hh'
 cases es' with
 | nil => obtain ⟨ad, rfl⟩ := this; simp [blk] at hb
 | cons e l =>
   obtain ⟨b, o, n, c, el, fz, rfl, _, _, hc', _⟩ := this
   simp only [blk, Option.some.injEq] at hb
   have := heap_lt hc'
   omega
theorem fill_sz {place : Nat → Option (Nat × Nat)} {c : Array Value} {l : List (Nat × Value)} {r : Array Value} (h : Instr.fill place c l = some r) : r.size = c.size := by
 induction l generalizing c with
 | nil => simp only [Instr.fill, Option.some.injEq] at h; subst h; rfl
 | cons p l ih =>
   obtain ⟨i, v⟩ := p
   simp only [Instr.fill] at h
   split at h
   ·simp at h
   ·split at h
    ·simp at h
    ·rename_i off size _ _
     have := ih h
     rw [this]
     have e := fold_set' v c.toList off
     simp only [Array.toArray_toList] at e
     rw [e]
     simp [setRangeV_len]
theorem range_map_flat (z : Array Value) (n : Nat) : ((Array.range (n * z.size)).map (z[· % z.size]!)).toList = (List.replicate n z.toList).flatten := by
 apply List.ext_getElem?
 intro j
 have hfl : (List.replicate n z.toList).flatten.length = n * z.size := by simp
 by_cases hj : j < n * z.size
 ·have h1 : ((Array.range (n * z.size)).map (z[· % z.size]!)).toList[j]? = some (z[j % z.size]!) := by
   simp [hj]
  rw [h1]
  have h2 : ∀ (n j : Nat), j < n * z.size → (List.replicate n z.toList).flatten[j]? = some (z[j % z.size]!) := fun n => by
   induction n with
   | zero => intro j hj; simp at hj
   | succ n ih =>
     intro j hj
     simp only [Nat.add_mul, Nat.one_mul] at hj
     rw [List.replicate_succ, List.flatten_cons]
     by_cases hlt : j < z.size
     ·rw [List.getElem?_append_left (by simpa using hlt), Nat.mod_eq_of_lt hlt]
      simp [hlt]
     ·rw [List.getElem?_append_right (by simp; omega)]
      have := ih (j - z.size) (by omega)
      simp only [Array.length_toList]
      rw [this, ← Nat.mod_eq_sub_mod (by omega)]
  exact (h2 n j hj).symm
 ·rw [List.getElem?_eq_none (by simp; omega), List.getElem?_eq_none (by rw [hfl]; omega)]
theorem ok_mkls {sz len : Nat} {zero : List AV} {parts : List (Nat × Nat × Opd)} {t e : TypeId} {ps : Array (Nat × Operand)} {o : Oper} {z : List Value} {cs : List AV} {ds : List D} (ho : o.op = .buildSlice t len ps) (h : Sim E K s a.tmps w)
  (ht : elemT P t = some e) (hsz : sizeT P e = some sz) (hz : zeroT P e = some z) (hzl : z.length = sz) (hpos : 0 < sz) (hlen : len * sz ≤ 2 ^ 24) (hc : chkVs zero ((List.replicate len z).flatten) = true)
  (hps : chkParts (fun i => some (i * sz, sz)) parts ps.toList = true) (hf : fillA s.sl zero parts = some cs) (hd : toDs cs = some ds) : OpOK P E K s a w o (.val (.own (chunks sz (ds.length / sz) ds)) s) := by
 obtain ⟨c', h1, h2, h3⟩ := run_fill h hps (chkVs_rep (K := K) _ _ hc) hf
 have hu := und_elem ht
 obtain ⟨zv, hzv, hzc, _⟩ := run_zeroOf (w := w) hz
 have hc'len : c'.length = len * sz := by
  have e1 := fill_sz h1
  simp only [List.size_toArray] at e1
  rw [e1]
  simp [hzl]
 have hdl : ds.length = len * sz := by rw [toDs_len hd, ← h2.length, hc'len]
 have hdiv : ds.length / sz = len := by rw [hdl]; exact Nat.mul_div_cancel _ hpos
 rw [hdiv]
 have hes := chunks_each sz len ds (by omega)
 have hel := chunks_len sz len ds
 have hflat : (chunks sz len ds).flatten = ds := by rw [chunks_flat, ← hdl, List.take_length]
 obtain ⟨K', hsim, hρ, hle, hrows, hF⟩ := h.newRow (es := chunks sz len ds) (sz := sz) (c := c'.toArray) (el := e) (fz := (0, 0)) hes (fun j x hx => by
  rw [hflat] at hx
  simpa using toDs_rep hd h2 j x hx) (.inl rfl)
 have hno := new_not_owned (w' := w.alloc (.cells c'.toArray e)) h hρ (fun b o hb => cell_alloc hb)
 have hfin := own_new (E := E) (s' := s) (n := len) (cap := len) hes hrows (by simpa using hF) (alloc_new _ _) (by rw [hel]) (Nat.le_refl _) (by simp [hc'len]) (fun e0 => by rw [← hel, e0]; rfl) (fun hlt => absurd h.size (by omega)) hno
 refine ⟨_, _, K', ?_, hsim, hfin.1, hfin.2, ⟨hle, fun r _ => by rw [hρ]⟩⟩
 have he : (ps.map fun (i, x) => (i, a.eval x)).toList = ps.toList.map fun p => (p.1, a.eval p.2) := by simp
 simp only [execOp, ho, Instr.buildSlice, Sem.run_bind, run_underlying hu, Result.andThen_ok, run_sizeOf hsz]
 rw [if_neg (by omega)]
 by_cases hl0 : len * sz = 0
 ·have hrng : (Array.range (len * sz)).map ((#[] : Array Value)[· % (#[] : Array Value).size]!) = ((List.replicate len z).flatten).toArray := by
   have : len = 0 := by
    rcases Nat.mul_eq_zero.1 hl0 with h' | h'
    ·exact h'
    ·omega
   subst this
   simp
  rw [if_pos hl0]
  simp only [Sem.run_bind, Sem.run_pure, Result.andThen_ok]
  rw [hrng, he, h1]
  simp [newRow]
 ·have hrng : (Array.range (len * sz)).map (zv.cells[· % zv.cells.size]!) = ((List.replicate len z).flatten).toArray := by
   have hzs : zv.cells.size = sz := by rw [← Array.length_toList, hzc, hzl]
   rw [← Array.toArray_toList (xs := (Array.range (len * sz)).map (zv.cells[· % zv.cells.size]!)), ← hzs, range_map_flat zv.cells len, hzc]
  rw [if_neg hl0]
  simp only [Sem.run_bind, hzv, Sem.run_pure, Result.andThen_ok]
  rw [hrng, he, h1]
  simp [newRow]
end
end Go.Ab
namespace Go.Ab
variable [Glb]
section
variable {P : Program} {E : Env} {K : Ctx} {s : St} {a : Act} {w : World}
theorem repD_one {G : Ghost} {x : D} {v : Value} (h : RepD G x v) : v.oneCell' = true := by
 cases x <;> simp only [RepD] at h
 all_goals first
  | (subst h; rfl)
  | (obtain ⟨_, _, rfl, _⟩ := h; rfl)
theorem rows_vals {G : Ghost} {b sz : Nat} {es : List (List D)} {o : Nat} (h : RepRows G b sz o es) :
  ∃ vs : List Value, vs.length = es.length * sz ∧ (∀ (j : Nat) v, vs[j]? = some v → G b (o + j) = some v) ∧ (∀ (j : Nat) x, es.flatten[j]? = some x → ∃ v, vs[j]? = some v ∧ RepD G x v) ∧ ∀ v, v ∈ vs → v.oneCell' = true := by
 have hfl := flat_of_rows h
 have key : ∀ (l : List D) (o' : Nat), (∀ (j : Nat) x, l[j]? = some x → ∃ v, G b (o' + j) = some v ∧ RepD G x v) → ∃ vs : List Value, vs.length = l.length ∧ (∀ (j : Nat) v, vs[j]? = some v → G b (o' + j) = some v) ∧
   (∀ (j : Nat) x, l[j]? = some x → ∃ v, vs[j]? = some v ∧ RepD G x v) ∧ ∀ v, v ∈ vs → v.oneCell' = true := fun l => by
  induction l with
  | nil => intro o' _; exact ⟨[], rfl, fun j v hj => by simp at hj, fun j x hj => by simp at hj, fun v hv => by simp at hv⟩
  | cons x l ih =>
    intro o' hx
    obtain ⟨v, hv, hr⟩ := hx 0 x (by simp)
    obtain ⟨vs, h1, h2, h3, h4⟩ := ih (o' + 1) (fun j y hy => by
     have := hx (j + 1) y (by simpa using hy)
     rwa [show o' + (j + 1) = o' + 1 + j by omega] at this)
    refine ⟨v :: vs, by simp [h1], fun j u hj => ?_, fun j y hj => ?_, fun u hu => ?_⟩
    ·cases j with
     | zero => simp only [List.getElem?_cons_zero, Option.some.injEq] at hj; subst hj; exact hv
     | succ j =>
       simp only [List.getElem?_cons_succ] at hj
       have := h2 j u hj
       rwa [show o' + (j + 1) = o' + 1 + j by omega]
    ·cases j with
     | zero => simp only [List.getElem?_cons_zero, Option.some.injEq] at hj; subst hj; exact ⟨v, by simp, hr⟩
     | succ j => simp only [List.getElem?_cons_succ] at hj ⊢; exact h3 j y hj
    ·simp only [List.mem_cons] at hu
     rcases hu with rfl | hu
     ·exact repD_one hr
     ·exact h4 u hu
 obtain ⟨vs, h1, h2⟩ := key es.flatten o hfl
 exact ⟨vs, by rw [h1, flat_len (rows_len h)], h2⟩
structure Src (P : Program) (K : Ctx) (w : World) (sz n : Nat) (pv : Value) (ys : List (List D)) (vs : List Value) : Prop where
 cells : (Builtin.firstCells sz n pv).run P w = .ok vs.toArray w
 len : vs.length = n * sz
 rep : ∀ (j : Nat) x, ys.flatten[j]? = some x → ∃ v, vs[j]? = some v ∧ RepD K.G x v
 one : ∀ v, v ∈ vs → v.oneCell' = true
 each : ∀ e, e ∈ ys → e.length = sz
 many : ys.length = n
theorem src_rows {sz n : Nat} {ys : List (List D)} {pv : Value} (hc : ∀ b o v, K.G b o = some v → w.cell? ⟨b, o, none⟩ = some v) (hp : RepD K.G (.lst ys) pv) (hs : sizesB sz ys = true) (hn : n ≤ ys.length) : ∃ vs, Src P K w sz n pv (ys.take n) vs := by
 simp only [RepD] at hp
 obtain ⟨ad, cap, rfl, hcap, hrows⟩ := hp
 cases n with
 | zero =>
   refine ⟨[], ?_, by simp, fun j x hj => by simp at hj, fun v hv => by simp at hv, fun e he => by simp at he, by simp⟩
   cases ad with
   | none => simp [Builtin.firstCells]
   | some ad => simp [Builtin.firstCells, loadCells, loadCellsFrom]
 | succ n =>
   obtain ⟨b, o, z, rfl, hr⟩ := hrows (by intro e; subst e; simp at hn)
   have hz : z = sz := by
    cases ys with
    | nil => simp at hn
    | cons y l =>
      simp only [sizesB, beq_iff_eq] at hs
      simp only [RepRows] at hr
      omega
   subst hz
   have hrt := RepRows.take (n + 1) hr
   obtain ⟨vs, h1, h2, h3, h4⟩ := rows_vals hrt
   have hl : vs.length = (n + 1) * z := by rw [h1]; congr 1; simp; omega
   refine ⟨vs, ?_, hl, h3, h4, rows_len hrt, by simp; omega⟩
   have hrun := run_loadCells_list (P := P) w ⟨b, o, none⟩ vs (fun j u hj => by rw [add_addr]; exact hc _ _ _ (h2 j u hj))
   rw [hl] at hrun
   simpa [Builtin.firstCells] using hrun
theorem bytes_flat (l : List UInt8) : (bytesOf l).flatten = l.map fun b => D.int .u8 b.toNat := by
 induction l with
 | nil => rfl
 | cons b l ih => simp only [bytesOf, List.map_cons, List.flatten_cons] at ih ⊢; rw [ih]; rfl
theorem bytes_get (l : List UInt8) (j : Nat) : (l.map fun b => Value.int .u8 b.toNat)[j]? = (l[j]?).map fun b => Value.int .u8 (b.toNat : Int) := by simp
theorem src_str {sz : Nat} {l : List UInt8} (hs : sizesB sz (bytesOf l) = true) : ∃ vs, Src P K w sz l.length (.string ⟨l.toArray⟩) (bytesOf l) vs := by
 by_cases h0 : l = []
 ·subst h0
  refine ⟨[], ?_, by simp, fun j x hj => by simp [bytesOf] at hj, fun v hv => by simp at hv, fun e he => by simp [bytesOf] at he, by simp [bytesOf]⟩
  simp [Builtin.firstCells]
 ·have hz : sz = 1 := by
   cases l with
   | nil => exact absurd rfl h0
   | cons b l => simp only [bytesOf, List.map_cons, sizesB, beq_iff_eq] at hs; simpa using hs.symm
  subst hz
  refine ⟨l.map fun b => .int .u8 b.toNat, ?_, by simp, fun j x hj => ?_, fun v hv => ?_, fun e he => ?_, by simp [bytesOf]⟩
  ·have he : (ByteArray.mk l.toArray).extract 0 l.length = ⟨l.toArray⟩ := by rw [extract_list]; simp
   simp [Builtin.firstCells, he]
  ·rw [bytes_flat] at hj
   rw [bytes_get]
   simp only [List.getElem?_map, Option.map_eq_some_iff] at hj ⊢
   obtain ⟨b, hb, rfl⟩ := hj
   exact ⟨_, ⟨b, hb, rfl⟩, by simp [RepD]⟩
  ·simp only [List.mem_map] at hv
   obtain ⟨b, _, rfl⟩ := hv
   rfl
  ·simp only [bytesOf, List.mem_map] at he
   obtain ⟨b, _, rfl⟩ := he
   rfl
theorem src_of {sz : Nat} {y : AV} {pv : Value} {ys : List (List D)} (hc : ∀ b o v, K.G b o = some v → w.cell? ⟨b, o, none⟩ = some v) (hp : Rep K y pv) (hy : y.elems? = some ys) (hs : sizesB sz ys = true) :
  ∃ vs, Src P K w sz ys.length pv ys vs ∧ (Builtin.lenOf pv).run P w = .ok ys.length w := by
 by_cases hstr : ∃ l, y = .d (.str l)
 ·obtain ⟨l, rfl⟩ := hstr
  simp only [AV.elems?, Option.some.injEq] at hy
  subst hy
  have := rep_str hp
  subst this
  obtain ⟨vs, h1⟩ := src_str (P := P) (K := K) (w := w) hs
  have hl : (bytesOf l).length = l.length := by simp [bytesOf]
  refine ⟨vs, by rw [hl]; exact h1, ?_⟩
  rw [hl]
  simp [Builtin.lenOf, ByteArray.size_mk']
 ·have hl : y.list? = some ys := by
   unfold AV.elems? at hy
   split at hy
   ·exact absurd ⟨_, rfl⟩ hstr
   ·exact hy
  have q := list_rep hp hl
  obtain ⟨vs, h1⟩ := src_rows (P := P) (w := w) hc q hs (Nat.le_refl _)
  rw [List.take_length] at h1
  refine ⟨vs, h1, ?_⟩
  simp only [RepD] at q
  obtain ⟨ad, cap, rfl, _⟩ := q
  simp [Builtin.lenOf]
theorem freeze_alloc (w : World) (c : Array Value) (e : TypeId) (n : Nat) : (w.alloc (.cells c e)).freeze ⟨w.heap.size, n, none⟩ 1 = w.alloc (.cells c e (n, n + 1)) := by
 unfold World.freeze
 rw [if_neg (by omega)]
 unfold World.alloc
 congr 1
 apply Array.ext_getElem?
 intro i
 rw [Array.getElem?_modify, Array.getElem?_push, Array.getElem?_push]
 by_cases h : i = w.heap.size
 ·subst h; simp
 ·rw [if_neg (fun e => h e.symm), if_neg h, if_neg h]
theorem ok_strBytes {src dst e : TypeId} {x : Opd} {y : Operand} {o : Oper} {l : List UInt8} (ho : o.op = .convert src dst y) (h : Sim E K s a.tmps w) (h1 : chkO x y = true) (hs : isStrT P src = true) (hd : elemT P dst = some e) (hk : kindT P e = some .u8)
  (hx : getO s.sl x = some (.d (.str l))) {v : AV} (hv : v = if l = [] then .d (.lst []) else .own (bytesOf l)) : OpOK P E K s a w o (.val v s) := by
 have p := rep_str (getO_rep h h1 hx)
 have hus := und_str hs
 have hud := und_elem hd
 have huk := und_kind hk
 let q : Question := .appendCap (ByteArray.mk l.toArray).size 0 e
 let cap : Nat := q.cut (w.tape w.drawn q)
 have hcap : l.length ≤ cap := by
  show l.length ≤ (Question.appendCap (ByteArray.mk l.toArray).size 0 e).cut _
  simp only [Question.cut, ByteArray.size_mk', List.size_toArray]
  omega
 let c : Array Value := ((ByteArray.mk l.toArray).data.map fun b => .int .u8 b.toNat) ++ Array.replicate (cap - (ByteArray.mk l.toArray).size) (.int .u8 0)
 have hcs : c.size = cap := by simp [c, ByteArray.size_mk']; omega
 have hrun : (execOp a.eval o).run P w = .ok (.value (.slice (some ⟨w.heap.size, 0, none⟩) l.length cap)) (w.drew.alloc (.cells c e (cap, cap + 1))) := by
  have hf : (Question.appendCap (ByteArray.mk l.toArray).size 0 e).forced = false := rfl
  simp only [execOp, ho, p, convert, Sem.run_bind, run_underlying hus, run_underlying hud, Result.andThen_ok, run_underlying huk, Conv.stringToBytes, run_choose, hf, Bool.false_eq_true, if_false]
  have hsh : ∀ (w' : World), (w'.alloc (.cells c e)).shape? w'.heap.size = some (e, c.size) := fun w' => by
   unfold World.shape?
   rw [alloc_new]
  have hnew : (newRow e c).run P w.drew = .ok ⟨w.heap.size, 0, none⟩ (w.drew.alloc (.cells c e)) := by simp [newRow]
  have hmark : (markStringish ⟨w.heap.size, 0, none⟩).run P (w.drew.alloc (.cells c e)) = .ok () (w.drew.alloc (.cells c e (cap, cap + 1))) := by
   have hsh' := hsh w.drew
   simp only [World.size_drew] at hsh'
   simp only [markStringish, Sem.run_bind, run_shape, Result.andThen_ok, hsh']
   have := freeze_alloc w.drew c e cap
   simp only [World.size_drew] at this
   simp [hcs, this]
  have hw : ({ w with drawn := w.drawn + 1 } : World) = w.drew := rfl
  rw [hw]
  show (((newRow e c).run P w.drew).andThen _).andThen _ = _
  rw [hnew]
  simp only [Result.andThen_ok, hmark, Sem.run_pure, ByteArray.size_mk', List.size_toArray]
  rfl
 have hes : ∀ e', e' ∈ bytesOf l → e'.length = 1 := fun e' he => by
  simp only [bytesOf, List.mem_map] at he
  obtain ⟨b, _, rfl⟩ := he
  rfl
 have hbl : (bytesOf l).length = l.length := by simp [bytesOf]
 obtain ⟨K', hsim, hρ, hle, hrows, hF⟩ := h.drew.newRow (es := bytesOf l) (sz := 1) (c := c) (el := e) (fz := (cap, cap + 1)) hes (fun j x hx => by
  rw [bytes_flat] at hx
  simp only [List.getElem?_map, Option.map_eq_some_iff] at hx
  obtain ⟨b, hb, rfl⟩ := hx
  refine ⟨.int .u8 b.toNat, ?_, by simp [RepD]⟩
  have hj := (List.getElem?_eq_some_iff.1 hb).1
  simp only [c]
  rw [Array.getElem?_append_left (by simpa using hj)]
  simp [hb]) (.inr (by omega))
 have hno := new_not_owned (w' := w.drew.alloc (.cells c e (cap, cap + 1))) h.drew hρ (fun b o hb => cell_alloc hb)
 have hfin := own_new (E := E) (s' := s) (a := a) (n := l.length) (cap := cap) (off := 0) hes hrows (by simpa using hF) (alloc_new w.drew (.cells c e (cap, cap + 1))) hbl.symm hcap (by omega)
 by_cases h0 : l = []
 ·rw [if_pos h0] at hv
  subst hv h0
  refine ⟨_, _, K', hrun, hsim, ?_, fresh_of_not_own (fun es e => by cases e), ⟨hle, fun r _ => by rw [hρ]⟩⟩
  simp only [Rep, RepD]
  exact ⟨_, _, rfl, by simp, by simp⟩
 ·rw [if_neg h0] at hv
  subst hv
  have hfin := hfin (fun e0 => absurd (by cases l <;> simp [bytesOf] at e0 ⊢) h0) (fun hlt => absurd h.size (by simp at hlt; omega)) hno
  exact ⟨_, _, K', hrun, hsim, hfin.1, hfin.2, ⟨hle, fun r _ => by rw [hρ]⟩⟩
theorem strOf_vals : ∀ {es : List (List D)} {l : List UInt8}, strOf es = some l → ∃ ns : List Int, es = ns.map (fun n => [D.int .u8 n]) ∧ l = ns.map fun n => UInt8.ofNat n.toNat
 | [], l, h => by simp only [strOf, Option.some.injEq] at h; exact ⟨[], rfl, h.symm⟩
 | e :: es, l, h => by
   unfold strOf at h
   split at h
   ·rename_i heq; cases heq
   ·rename_i n r heq
    cases heq
    simp only [Option.map_eq_some_iff] at h
    obtain ⟨l', hl', rfl⟩ := h
    obtain ⟨ns, h1, h2⟩ := strOf_vals hl'
    exact ⟨n :: ns, by simp [h1], by simp [h2]⟩
   ·simp at h
theorem foldl_push : ∀ (l : List UInt8) (b : List UInt8), l.foldl (fun (r : ByteArray) c => r.push c) ⟨b.toArray⟩ = ⟨(b ++ l).toArray⟩
 | [], b => by simp
 | c :: l, b => by
   simp only [List.foldl_cons]
   have : (ByteArray.mk b.toArray).push c = ⟨(b ++ [c]).toArray⟩ := by simp [ByteArray.push]
   rw [this, foldl_push l]
   simp
theorem ok_bytesStr {src dst e : TypeId} {x : Opd} {y : Operand} {o : Oper} {v : AV} {es : List (List D)} {l : List UInt8} (ho : o.op = .convert src dst y) (h : Sim E K s a.tmps w) (h1 : chkO x y = true) (hd : isStrT P dst = true) (hs : elemT P src = some e) (hk : kindT P e = some .u8)
  (hx : getO s.sl x = some v) (hl : v.list? = some es) (hst : strOf es = some l) : OpOK P E K s a w o (.val (.d (.str l)) s) := by
 have q := list_rep (getO_rep h h1 hx) hl
 have hud := und_str hd
 have hus := und_elem hs
 have huk := und_kind hk
 obtain ⟨ns, rfl, rfl⟩ := strOf_vals hst
 have hnl : (ns.map (fun n => [D.int .u8 n])).length = ns.length := by simp
 refine opOK_pure h (pv := .string ⟨(ns.map fun n => UInt8.ofNat n.toNat).toArray⟩) ?_ (rep_str' _) (fun _ e => by cases e)
 obtain ⟨vs, hsrc⟩ := src_rows (P := P) (w := w) (sz := 1) (n := ns.length) h.cells q (by cases ns <;> simp [sizesB]) (by rw [hnl]; exact Nat.le_refl _)
 simp only [RepD] at q
 obtain ⟨ad, cap, hv, hcap, hrows⟩ := q
 rw [hnl] at hv
 have hconv : (convert src dst (a.eval y)).run P w = .ok (.string ⟨(ns.map fun n => UInt8.ofNat n.toNat).toArray⟩) w := by
  rw [hv, run_convert_bytes_string w src dst e ad ns.length cap hus huk hud]
  cases ad with
  | none =>
    have : ns = [] := by
     cases ns with
     | nil => rfl
     | cons n ns =>
       obtain ⟨b, o', z, hh, _⟩ := hrows (by simp)
       simp at hh
    subst this
    simp [Conv.bytesToString]
    rfl
  | some ad =>
    have hvs : vs = ns.map (Value.int .u8) := by
     apply List.ext_getElem?
     intro j
     have hlen : vs.length = ns.length := by rw [hsrc.len]; simp
     by_cases hj : j < ns.length
     ·have hfl : ((ns.map (fun n => [D.int .u8 n])).take ns.length).flatten[j]? = some (.int .u8 ns[j]) := by
       rw [List.take_of_length_le (by simp)]
       have : (ns.map (fun n => [D.int .u8 n])).flatten = ns.map (fun n => D.int .u8 n) := by
        clear hsrc hrows hcap hv hst hl hnl hlen hj
        induction ns with
        | nil => rfl
        | cons n ns ih => simp only [List.map_cons, List.flatten_cons, ih]; rfl
       rw [this]
       simp [hj]
      obtain ⟨u, hu, hr⟩ := hsrc.rep j _ hfl
      simp only [RepD] at hr
      rw [hu, hr]
      simp [hj]
     ·rw [List.getElem?_eq_none (by omega), List.getElem?_eq_none (by simp; omega)]
    have hload : (loadCells ad ns.length).run P w = .ok (ns.map (Value.int .u8)).toArray w := by
     have := hsrc.cells
     rw [hv] at this
     simpa [Builtin.firstCells, hvs] using this
    rw [run_bytesToString w ad ns.length cap ns hload]
    have : ns.foldl (fun (r : ByteArray) n => r.push (UInt8.ofNat n.toNat)) ByteArray.empty = ⟨(ns.map fun n => UInt8.ofNat n.toNat).toArray⟩ := by
     have h2 := foldl_push (ns.map fun n => UInt8.ofNat n.toNat) []
     rw [List.foldl_map] at h2
     exact h2
    rw [this]
 simp only [execOp, ho, Sem.run_bind, hconv, Result.andThen_ok, Sem.run_pure]
theorem raw_own (h : Sim E K s a.tmps w) {x : Opd} {y : Operand} {es : List (List D)} (hc : chkO x y = true) (hv : rawO s.sl x = some (.own es)) :
  OwnV K w es (a.eval y) ∧ (∀ b, blk (a.eval y) = some b → (b < E.w0.heap.size → E.T b) ∧ ∀ ℓ es' v', holds K (unOwn s x) a.tmps w ℓ (.own es') v' → blk v' ≠ some b) ∧ ∃ n, x = .t n := by
 cases x with
 | t n =>
   cases y <;> simp [chkO] at hc
   subst hc
   have hf := h.fresh_raw hv none es rfl
   exact ⟨hf.1, fun b hb => ⟨(hf.2 b hb).1, fun ℓ es' v' hh => (hf.2 b hb).2 ℓ es' v' (by simp) hh⟩, n, rfl⟩
 | c av =>
   cases y <;> simp [chkO] at hc
   simp only [rawO, Option.some.injEq] at hv
   subst hv
   exact absurd hc.1 (by unfold chkV; simp)
 | f id => simp only [rawO, Option.some.injEq] at hv; cases hv
theorem freeze_other {w : World} {b n k : Nat} (h : k ≠ b) : (w.freeze ⟨b, n, none⟩ 1).heap[k]? = w.heap[k]? := by
 unfold World.freeze
 rw [if_neg (by omega)]
 simp only [Array.getElem?_modify]
 rw [if_neg (by omega)]
theorem freeze_at {w : World} {b n : Nat} {c : Array Value} {el : TypeId} {fz : Nat × Nat} (h : w.heap[b]? = some (.cells c el fz)) (hn : n = c.size) (hz : fz.1 = fz.2 ∨ c.size ≤ fz.1) :
  ∃ fz', (w.freeze ⟨b, n, none⟩ 1).heap[b]? = some (.cells c el fz') ∧ (fz'.1 = fz'.2 ∨ c.size ≤ fz'.1) := by
 unfold World.freeze
 rw [if_neg (by omega)]
 obtain ⟨lo, hi⟩ := fz
 simp only [Array.getElem?_modify, if_true, h, Option.map_some]
 refine ⟨_, rfl, ?_⟩
 simp only at hz
 split
 ·exact .inr (by simp [hn])
 ·rename_i hne
  right
  simp only [beq_iff_eq] at hne
  simp only
  omega
theorem ok_same {src dst e : TypeId} {x : Opd} {y : Operand} {o : Oper} {e0 : List D} {es : List (List D)} (ho : o.op = .convert src dst y) (h : Sim E K s a.tmps w) (h1 : chkO x y = true) (hsd : src = dst) (hs : elemT P src = some e) (hk : kindT P e = some .u8)
  (hx : rawO s.sl x = some (.own (e0 :: es))) : OpOK P E K s a w o (.val (.own (e0 :: es)) (unOwn s x)) := by
 subst hsd
 have hus := und_elem hs
 have huk := und_kind hk
 obtain ⟨hown, hblk, _, _⟩ := raw_own h h1 hx
 have hrep := rawO_rep h h1 hx
 simp only [OwnV] at hown
 obtain ⟨b, off, n, c, el, fz, hv, hn, hF, hb, hs', hrows⟩ := hown
 obtain ⟨⟨c1, el1, fz1, hc1, hz1⟩, _⟩ := h.rows b _ hF
 rw [hb] at hc1
 cases hc1
 obtain ⟨fz', hb', hz'⟩ := freeze_at hb rfl hz1
 have hbk := hblk b (by rw [hv]; rfl)
 obtain ⟨K', hsim, hρ, hle, _, hF'⟩ := (h.unOwn x).growRow (w' := w.freeze ⟨b, c.size, none⟩ 1) (m := 0) hF hb hb' hz' (fun _ _ => rfl) (fun k hk => freeze_other hk) (by unfold World.freeze; split <;> simp) (by unfold World.freeze; split <;> rfl) (by unfold World.freeze; split <;> rfl) (by unfold World.freeze; split <;> rfl) hbk.1 hbk.2
 have hcellF : ∀ b' o', (w.freeze ⟨b, c.size, none⟩ 1).cell? ⟨b', o', none⟩ = w.cell? ⟨b', o', none⟩ := fun b' o' => by
  by_cases hbb : b' = b
  ·subst hbb; rw [cell_of hb', cell_of hb]
  ·exact World.cell?_of_block (freeze_other hbb)
 have hno : ∀ ℓ es' v', holds K' (unOwn s x) a.tmps (w.freeze ⟨b, c.size, none⟩ 1) ℓ (.own es') v' → blk v' ≠ some b := fun ℓ es' v' hh => by
  refine hbk.2 ℓ es' v' ?_
  cases ℓ with
  | sl t => exact hh
  | rf r i =>
    obtain ⟨cs, β, g1, g2, g3, g4⟩ := hh
    rw [hρ] at g3
    rw [hcellF] at g4
    exact ⟨cs, β, g1, g2, g3, g4⟩
 have hfin := own_new (E := E) (s' := unOwn s x) (b := b) (off := off) (n := es.length + 1) (cap := n) (rows_len (RepRows.mono hle _ _ _ _ hrows)) (RepRows.mono hle _ _ _ _ hrows) (by rw [hF']; rfl) hb' rfl hn hs' (by simp) hbk.1 hno
 refine ⟨a.eval y, _, K', ?_, hsim, by rw [hv]; exact hfin.1, by rw [hv]; exact hfin.2, ⟨hle, fun r _ => by rw [hρ]⟩⟩
 have hsh : w.shape? b = some (el, c.size) := by simp [World.shape?, hb]
 simp only [execOp, ho, hv, convert, Sem.run_bind, run_underlying hus, Result.andThen_ok, run_underlying huk, beq_self_eq_true]
 simp [markStringish, hsh]
theorem run_growCap {need sCap bytes : Nat} (h : sCap < need) (hn : need ≤ lim) (hb : bytes ≤ 4096) : ¬ Builtin.nextslicecap need sCap * bytes > 2 ^ 48 := by
 have : need * bytes ≤ 140737488355328 := by
  unfold lim at hn
  calc need * bytes ≤ 2 ^ 34 * 4096 := Nat.mul_le_mul hn hb
   _ ≤ 140737488355328 := by decide
 have := growslice_fits h this
 omega
structure AppT (P : Program) (t u e : TypeId) (i : TypeInfo) (z : Value) (sz : Nat) : Prop where
 ht : P.underlying t = some (.slice e)
 hu : P.underlying u = some .string ∨ ∃ e', P.underlying u = some (.slice e')
 hi : P.info? e = some i
 hz : i.zero = some z
 hsz : i.size = sz
 hzs : z.cells.size = sz
 hpos : 0 < sz
 hb : i.bytes ≤ 4096
theorem run_append_room' {t u e : TypeId} {i : TypeInfo} {z : Value} {sz : Nat} (T : AppT P t u e i z sz) {ty : TypeId} {base : Option Addr} {sLen sCap n : Nat} {x : Value} {vs : List Value} {w' : World}
  (hlen : (Builtin.lenOf x).run P w = .ok n w) (hroom : sLen + n ≤ sCap) (hf : (Builtin.firstCells sz n x).run P w = .ok vs.toArray w)
  (hst : ∀ ad, base = some ad → (storeCells (ad.add (sLen * sz)) vs 0).run P w = .ok () w') (hst0 : base = none → w' = w) :
  (Builtin.append_ #[t, u] ty #[.slice base sLen sCap, x]).run P w = .ok (.slice base (sLen + n) sCap) w' := by
 have key : ∀ d, P.underlying u = some d → (d = .string ∨ ∃ e', d = .slice e') → (Builtin.append_ #[t, u] ty #[.slice base sLen sCap, x]).run P w = .ok (.slice base (sLen + n) sCap) w' := fun d hd hdk => by
  rcases hdk with rfl | ⟨e', rfl⟩
  all_goals
   cases base with
   | none => simp [Builtin.append_, run_underlying T.ht, run_underlying hd, sizeOf, run_typeInfo T.hi, T.hsz, hlen, hroom, hf, hst0 rfl]
   | some ad => simp [Builtin.append_, run_underlying T.ht, run_underlying hd, sizeOf, run_typeInfo T.hi, T.hsz, hlen, hroom, hf, hst ad rfl]
 rcases T.hu with h | ⟨e', h⟩
 ·exact key _ h (.inl rfl)
 ·exact key _ h (.inr ⟨e', rfl⟩)
theorem run_append_grow' {t u e : TypeId} {i : TypeInfo} {z : Value} {sz : Nat} (T : AppT P t u e i z sz) {ty : TypeId} {base : Option Addr} {sLen sCap n : Nat} {x : Value} {vs old : List Value}
  (hlen : (Builtin.lenOf x).run P w = .ok n w) (hroom : sCap < sLen + n) (hlim : sLen + n ≤ lim) (hf : (Builtin.firstCells sz n x).run P w.drew = .ok vs.toArray w.drew)
  (hold : (Builtin.firstCells sz sLen (.slice base sLen sCap)).run P w.drew = .ok old.toArray w.drew) :
  ∃ cap c, sLen + n ≤ cap ∧ c.size = old.length + vs.length + (cap - (sLen + n)) * sz ∧ (∀ j, j < old.length + vs.length → c[j]? = (old ++ vs)[j]?) ∧
   (Builtin.append_ #[t, u] ty #[.slice base sLen sCap, x]).run P w = .ok (.slice (some ⟨w.heap.size, 0, none⟩) (sLen + n) cap) (w.drew.alloc (.cells c e)) := by
 let q : Question := .appendCap (sLen + n) sCap e
 let cap : Nat := q.cut (w.tape w.drawn q)
 have hcap : sLen + n ≤ cap := by
  show sLen + n ≤ (Question.appendCap (sLen + n) sCap e).cut _
  simp only [Question.cut]; omega
 let c : Array Value := old.toArray ++ (vs.toArray ++ Builtin.zeroCells z.cells (cap - (sLen + n)))
 have hrz : (zeroValue e).run P w.drew = .ok z w.drew := by simp [zeroValue, run_typeInfo T.hi, T.hz]
 refine ⟨cap, c, hcap, ?_, fun j hj => ?_, ?_⟩
 ·simp only [c, Array.size_append, List.size_toArray, size_zeroCells, T.hzs]; omega
 ·simp only [c]
  rw [← Array.append_assoc, Array.getElem?_append_left (by simpa using hj)]
  simp
 ·have hf0 : (Question.appendCap (sLen + n) sCap e).forced = false := rfl
  have hbig := run_growCap (bytes := i.bytes) hroom hlim T.hb
  have hmax : ¬ (((sLen + n : Nat) : Int) > IntKind.i64.max ∧ (false = true ∨ i.bytes = 0)) := by
   rintro ⟨h1, _⟩
   unfold lim at hlim
   have : IntKind.i64.max = 9223372036854775807 := by decide
   omega
  have hw : ({ w with drawn := w.drawn + 1 } : World) = w.drew := rfl
  have hnew : (newRow e c).run P w.drew = .ok ⟨w.heap.size, 0, none⟩ (w.drew.alloc (.cells c e)) := by simp [newRow]
  have hmax' : ¬ (9223372036854775807 < (sLen : Int) + n ∧ i.bytes = 0) := by
   unfold lim at hlim; omega
  have hbig' : ¬ 281474976710656 < Builtin.nextslicecap (sLen + n) sCap * i.bytes := by omega
  have key : ∀ d, P.underlying u = some d → (d = .string ∨ ∃ e', d = .slice e') → (Builtin.append_ #[t, u] ty #[.slice base sLen sCap, x]).run P w =
    ((newRow e c).run P w.drew).andThen fun a w' => Result.ok (Value.slice (some a) (sLen + n) cap) w' := fun d hd hdk => by
   rcases hdk with rfl | ⟨e', rfl⟩
   all_goals
    simp [Builtin.append_, run_underlying T.ht, run_underlying hd, sizeOf, run_typeInfo T.hi, T.hsz, hlen, Nat.not_le.2 hroom, hmax', hbig', hf0, hold, hf, hrz, c, cap, q]
  rw [hnew] at key
  rcases T.hu with h | ⟨e', h⟩
  ·exact key _ h (.inl rfl)
  ·exact key _ h (.inr ⟨e', rfl⟩)
end
end Go.Ab
namespace Go.Ab
variable [Glb]
section
variable {P : Program} {E : Env} {K : Ctx} {s : St} {a : Act} {w : World}
theorem exec_builtin {o : Oper} {c : Call} {b : Builtin} (ho : o.op = .call c) (hb : c.callee = .builtin b) : (execOp a.eval o).run P w = (builtin b c.argTypes o.type (c.args.map fun | .const _ => true | _ => false) (c.args.map a.eval)).run P w := by
 simp [execOp, ho, resolve, hb, invoke]
 rfl
theorem exec_append {o : Oper} {c : Call} {x' y' : Operand} {t u : TypeId} {r : Value} {w' : World} (ho : o.op = .call c) (hb : c.callee = .builtin .append) (hx : c.args.toList = [x', y']) (ht : c.argTypes.toList = [t, u])
  (h : (Builtin.append_ #[t, u] o.type #[a.eval x', a.eval y']).run P w = .ok r w') : (execOp a.eval o).run P w = .ok (.value r) w' := by
 rw [exec_builtin ho hb, two_args hx, two_args ht]
 simp [builtin, h]
theorem append_new (h : Sim E K s a.tmps w) {t u e : TypeId} {i : TypeInfo} {z : Value} {sz : Nat} (T : AppT P t u e i z sz) {ty : TypeId} {base : Option Addr} {sCap : Nat} {pv : Value} {es ys : List (List D)} {old : List Value} {y : AV}
  (hy : Rep K y pv) (hel : y.elems? = some ys) (hys : sizesB sz ys = true) (hroom : sCap < es.length + ys.length) (hlim : es.length + ys.length ≤ lim) (hne : es ++ ys ≠ [])
  (hold : Src P K w.drew sz es.length (.slice base es.length sCap) es old) :
  ∃ r w' K', (Builtin.append_ #[t, u] ty #[.slice base es.length sCap, pv]).run P w = .ok r w' ∧ Sim E K' s a.tmps w' ∧ Rep K' (.own (es ++ ys)) r ∧ Fresh E K' s a.tmps w' none (.own (es ++ ys)) r ∧ Up s.rf.length K K' := by
 obtain ⟨vs, hsrc, _⟩ := src_of (P := P) (w := w.drew) h.drew.cells hy hel hys
 obtain ⟨_, _, hlen⟩ := src_of (P := P) (w := w) h.cells hy hel hys
 obtain ⟨cap, c, hcap, hcs, hcg, hrun⟩ := run_append_grow' T (ty := ty) (x := pv) hlen hroom hlim hsrc.cells hold.cells
 have heach : ∀ e', e' ∈ es ++ ys → e'.length = sz := fun e' he => by
  simp only [List.mem_append] at he
  rcases he with he | he
  ·exact hold.each e' he
  ·exact hsrc.each e' he
 have hfl : es.flatten.length = es.length * sz := flat_len hold.each
 have hol : old.length = es.length * sz := hold.len
 have hvl : vs.length = ys.length * sz := hsrc.len
 obtain ⟨K', hsim, hρ, hle, hrows, hF⟩ := h.drew.newRow (es := es ++ ys) (sz := sz) (c := c) (el := e) (fz := (0, 0)) heach (fun j x hx => by
  have hj := (List.getElem?_eq_some_iff.1 hx).1
  rw [flat_len heach, List.length_append, Nat.add_mul] at hj
  rw [hcg j (by omega)]
  rw [List.flatten_append] at hx
  by_cases hjo : j < es.flatten.length
  ·rw [List.getElem?_append_left hjo] at hx
   rw [List.getElem?_append_left (by omega)]
   exact hold.rep j x hx
  ·rw [List.getElem?_append_right (by omega)] at hx
   rw [List.getElem?_append_right (by omega), hol, ← hfl]
   exact hsrc.rep _ x hx) (.inl rfl)
 have hno := new_not_owned (w' := w.drew.alloc (.cells c e)) h.drew hρ (fun b o hb => cell_alloc hb)
 have hfin := own_new (E := E) (s' := s) (a := a) (n := es.length + ys.length) (cap := cap) (off := 0) heach hrows (by simpa using hF) (alloc_new w.drew (.cells c e)) (by simp) hcap
  (by rw [hcs, hol, hvl, ← Nat.add_mul, ← Nat.add_mul]; simp only [Nat.zero_add]; exact Nat.mul_le_mul (by omega) (Nat.le_refl _)) (fun e0 => absurd e0 hne) (fun hlt => absurd h.size (by simp at hlt; omega)) hno
 exact ⟨_, _, K', hrun, hsim, hfin.1, hfin.2, ⟨hle, fun r _ => by rw [hρ]⟩⟩
theorem append_room (h : Sim E K s a.tmps w) {t u e : TypeId} {i : TypeInfo} {z : Value} {sz : Nat} (T : AppT P t u e i z sz) {ty : TypeId} {b off n : Nat} {pv : Value} {e0 : List D} {es ys : List (List D)} {y : AV} {c : Array Value} {el : TypeId} {fz : Nat × Nat}
  (hy : Rep K y pv) (hel : y.elems? = some ys) (hys : sizesB sz ys = true) (hroom : es.length + 1 + ys.length ≤ n) (hF : K.F b = some (off + (es.length + 1) * sz)) (hb : w.heap[b]? = some (.cells c el fz)) (hc : off + n * sz ≤ c.size)
  (hrows : RepRows K.G b sz off (e0 :: es)) (hT : b < E.w0.heap.size → E.T b) (hno : ∀ ℓ es' v', holds K s a.tmps w ℓ (.own es') v' → blk v' ≠ some b) :
  ∃ w' K', (Builtin.append_ #[t, u] ty #[.slice (some ⟨b, off, none⟩) (es.length + 1) n, pv]).run P w = .ok (.slice (some ⟨b, off, none⟩) (es.length + 1 + ys.length) n) w' ∧ Sim E K' s a.tmps w' ∧
   Rep K' (.own (e0 :: es ++ ys)) (.slice (some ⟨b, off, none⟩) (es.length + 1 + ys.length) n) ∧ Fresh E K' s a.tmps w' none (.own (e0 :: es ++ ys)) (.slice (some ⟨b, off, none⟩) (es.length + 1 + ys.length) n) ∧ Up s.rf.length K K' := by
 obtain ⟨vs, hsrc, hlen⟩ := src_of (P := P) (w := w) h.cells hy hel hys
 obtain ⟨⟨c1, el1, fz1, hc1, hz1⟩, _⟩ := h.rows b _ hF
 rw [hb] at hc1
 cases hc1
 have hvl : vs.length = ys.length * sz := hsrc.len
 have hmul : (es.length + 1) * sz + ys.length * sz ≤ n * sz := by rw [← Nat.add_mul]; exact Nat.mul_le_mul hroom (Nat.le_refl _)
 obtain ⟨w', hst, g1, g2, g3, g4, g5, g6⟩ := run_storeCells (P := P) (b := b) (el := el) (fz := fz) vs (off + (es.length + 1) * sz) 0 c.toList w (by simpa using hb) (by simp; omega) hsrc.one (by simpa using hz1)
 have hrun := run_append_room' T (ty := ty) (base := some ⟨b, off, none⟩) (x := pv) hlen hroom hsrc.cells (fun ad had => by
  simp only [Option.some.injEq] at had
  subst had
  rw [add_addr]
  exact hst) (fun hh => by cases hh)
 obtain ⟨K', hsim, hρ, hle, hG', hF'⟩ := h.growRow (w' := w') (m := ys.length * sz) hF hb g1 (by simp only [List.size_toArray, setRangeV_len, Array.length_toList]; exact hz1) (fun o ho => by
  rw [List.getElem?_toArray, setRangeV_get (by simp; omega), if_neg (by omega), Array.getElem?_toList]) g2 g3 g4 g5 g6 hT hno
 have hrows' : RepRows K'.G b sz off (e0 :: es ++ ys) := by
  refine RepRows.append (RepRows.mono hle _ _ _ _ hrows) (rows_of_flat hsrc.each fun j x hx => ?_)
  have hj := (List.getElem?_eq_some_iff.1 hx).1
  rw [flat_len hsrc.each] at hj
  obtain ⟨v, hv, hr⟩ := hsrc.rep j x hx
  refine ⟨v, ?_, RepD.mono hle x v hr⟩
  simp only [List.length_cons]
  rw [hG' _ (by omega) (by omega), List.getElem?_toArray, setRangeV_get (by simp; omega), if_pos (by omega)]
  rw [show off + (es.length + 1) * sz + j - (off + (es.length + 1) * sz + 0) = j by omega]
  exact hv
 have hno' : ∀ ℓ es' v', holds K' s a.tmps w' ℓ (.own es') v' → blk v' ≠ some b := fun ℓ es' v' hh => by
  refine hno ℓ es' v' ?_
  cases ℓ with
  | sl t => exact hh
  | rf r i =>
    obtain ⟨cs, β, q1, q2, q3, q4⟩ := hh
    rw [hρ] at q3
    have hne : β ≠ b := fun e => by
     subst e
     have := (h.refG r β (List.getElem?_eq_some_iff.1 q1).1 q3).1
     rw [this] at hF; cases hF
    rw [World.cell?_of_block (w := w) (a := ⟨β, i, none⟩) (g2 β hne)] at q4
    exact ⟨cs, β, q1, q2, q3, q4⟩
 have hfin := own_new (E := E) (s' := s) (a := a) (n := es.length + 1 + ys.length) (cap := n) (off := off) (rows_len hrows') hrows' (by rw [hF']; congr 1; simp only [List.cons_append, List.length_cons, List.length_append]; rw [show es.length + ys.length + 1 = (es.length + 1) + ys.length by omega, Nat.add_mul (es.length + 1)]; omega) g1 (by simp; omega) hroom (by simp only [List.size_toArray, setRangeV_len, Array.length_toList]; exact hc) (by simp) hT hno'
 exact ⟨w', K', hrun, hsim, hfin.1, hfin.2, ⟨hle, fun r _ => by rw [hρ]⟩⟩
theorem src_nil {sz : Nat} {ad : Option Addr} {w : World} : Src P K w sz 0 (.slice ad 0 0) [] [] := by
 refine ⟨?_, by simp, fun j x hj => by simp at hj, fun v hv => by simp at hv, fun e he => by simp at he, rfl⟩
 cases ad with
 | none => simp [Builtin.firstCells]
 | some ad => simp [Builtin.firstCells, loadCells, loadCellsFrom]
theorem append_empty {t u e : TypeId} {i : TypeInfo} {z : Value} {sz : Nat} (T : AppT P t u e i z sz) {ty : TypeId} {base : Option Addr} {pv : Value} {y : AV} (h : Sim E K s a.tmps w) (hy : Rep K y pv) (hel : y.elems? = some []) :
  (Builtin.append_ #[t, u] ty #[.slice base 0 0, pv]).run P w = .ok (.slice base 0 0) w := by
 obtain ⟨vs, hsrc, hlen⟩ := src_of (P := P) (w := w) (sz := sz) h.cells hy hel rfl
 have hv : vs = [] := List.length_eq_zero_iff.1 (by rw [hsrc.len]; simp)
 subst hv
 exact run_append_room' T (ty := ty) (base := base) (x := pv) hlen (by simp) hsrc.cells (fun ad _ => by simp [storeCells]) (fun _ => rfl)
theorem ok_append {sz : Nat} {c : Call} {o : Oper} {x y : Opd} {x' y' : Operand} {t u e : TypeId} {i : TypeInfo} {z : Value} {xv yv r : AV} (ho : o.op = .call c) (h : Sim E K s a.tmps w) (hb : c.callee = .builtin .append) (hx' : c.args.toList = [x', y']) (ht : c.argTypes.toList = [t, u])
  (T : AppT P t u e i z sz) (h1 : chkO x x' = true) (h2 : chkO y y' = true) (hx : rawO s.sl x = some xv) (hy : getO s.sl y = some yv) (hr : appendA sz xv yv = some r) : OpOK P E K s a w o (.val r (unOwn s x)) := by
 have hyr := getO_rep h h2 hy
 have hxr := rawO_rep h h1 hx
 have hsu := h.unOwn x
 unfold appendA at hr
 split at hr
 ·simp at hr
 ·rename_i ys hys
  split at hr
  ·simp only [Rep] at hxr
   split at hr
   ·rename_i hc
    split at hr
    ·simp only [Option.some.injEq] at hr
     subst hr
     refine ⟨_, w, K, exec_append ho hb hx' ht (by rw [hxr]; exact append_empty (w := w) T h hyr hys), hsu, by simp [Rep], fresh_of_not_own (fun es e => by cases e), Up.refl _ _⟩
    ·rename_i hne
     simp only [Option.some.injEq] at hr
     subst hr
     have hlen : 0 < ys.length := by cases ys with
      | nil => exact absurd rfl (hne)
      | cons _ _ => simp
     obtain ⟨rv, w', K', hrun, g1, g2, g3, g4⟩ := append_new (sCap := 0) (base := none) (es := []) (old := []) (ty := o.type) hsu T hyr hys hc.2 (by simpa using hlen) (by simpa using hc.1) (by simpa using hne) src_nil
     refine ⟨rv, w', K', exec_append ho hb hx' ht (by rw [hxr]; exact hrun), g1, by simpa using g2, by simpa using g3, ?_⟩
     rwa [unOwn_rf] at g4
   ·simp at hr
  ·rename_i es
   split at hr
   ·rename_i hc
    simp only [Option.some.injEq] at hr
    subst hr
    obtain ⟨hown, hblk, _⟩ := raw_own h h1 hx
    cases es with
    | nil =>
      obtain ⟨ad, had⟩ := hown
      cases ys with
      | nil =>
        refine ⟨_, w, K, exec_append ho hb hx' ht (by rw [had]; exact append_empty (w := w) T h hyr hys), hsu, ?_, fun es e => ?_, Up.refl _ _⟩
        ·rw [had] at hxr; exact hxr
        ·cases e
         exact ⟨⟨ad, rfl⟩, fun b hb => by simp [blk] at hb⟩
      | cons y0 ys =>
        obtain ⟨rv, w', K', hrun, g1, g2, g3, g4⟩ := append_new (sCap := 0) (base := ad) (es := []) (old := []) (ty := o.type) hsu T hyr hys hc.2.2 (by simp) (by simpa using hc.1) (by simp) src_nil
        refine ⟨rv, w', K', exec_append ho hb hx' ht (by rw [had]; exact hrun), g1, by simpa using g2, by simpa using g3, ?_⟩
        rwa [unOwn_rf] at g4
    | cons e0 es =>
      simp only [OwnV] at hown
      obtain ⟨b, off, n, cc, el, fz, hv, hn, hF, hbb, hcs, hrows⟩ := hown
      have he0 : e0.length = sz := by simpa [sizesB] using hc.2.1
      rw [he0] at hF hcs hrows
      have hbk := hblk b (by rw [hv]; rfl)
      by_cases hroom : es.length + 1 + ys.length ≤ n
      ·obtain ⟨w', K', hrun, g1, g2, g3, g4⟩ := append_room (ty := o.type) hsu T hyr hys hc.2.2 hroom hF hbb hcs hrows hbk.1 hbk.2
       refine ⟨_, w', K', exec_append ho hb hx' ht (by rw [hv]; exact hrun), g1, g2, g3, ?_⟩
       rwa [unOwn_rf] at g4
      ·rw [hv] at hxr
       have hold := src_rows (P := P) (K := K) (w := w.drew) (sz := sz) (n := (e0 :: es).length) hsu.drew.cells (by simpa [Rep] using hxr) hc.2.1 (Nat.le_refl _)
       obtain ⟨old, hold⟩ := hold
       rw [List.take_length] at hold
       obtain ⟨rv, w', K', hrun, g1, g2, g3, g4⟩ := append_new (ty := o.type) hsu T hyr hys hc.2.2 (by simp; omega) hc.1 (by simp) hold
       refine ⟨rv, w', K', exec_append ho hb hx' ht (by rw [hv]; exact hrun), g1, g2, g3, ?_⟩
       rwa [unOwn_rf] at g4
   ·simp at hr
  ·simp at hr
theorem heads_map {es : List (List D)} (h : es.all (fun e => e.length == 1) = true) : es.map (fun e => AV.d (e.headD .nilp)) = es.flatten.map .d := by
 induction es with
 | nil => rfl
 | cons e es ih =>
   simp only [List.all_cons, Bool.and_eq_true, beq_iff_eq] at h
   obtain ⟨x, rfl⟩ : ∃ x, e = [x] := List.length_eq_one_iff.1 h.1
   simp only [List.map_cons, List.flatten_cons, ih h.2]
   rfl
theorem repL_of_vals : ∀ {l : List D} {vs : List Value}, vs.length = l.length → (∀ (j : Nat) x, l[j]? = some x → ∃ v, vs[j]? = some v ∧ RepD K.G x v) → RepL K (l.map .d) vs
 | [], vs, hl, _ => by
   have : vs = [] := List.length_eq_zero_iff.1 (by simpa using hl)
   subst this
   simp [RepL]
 | x :: l, vs, hl, h => by
   cases vs with
   | nil => simp at hl
   | cons v vs =>
     obtain ⟨u, hu, hr⟩ := h 0 x (by simp)
     simp only [List.getElem?_cons_zero, Option.some.injEq] at hu
     subst hu
     simp only [List.map_cons, RepL]
     exact ⟨v, vs, rfl, by simpa [Rep] using hr, repL_of_vals (by simpa using hl) fun j y hy => by simpa using h (j + 1) y (by simpa using hy)⟩
theorem ok_copy {c : Call} {o : Oper} {x y : Opd} {x' y' : Operand} {t u e : TypeId} {r off n : Nat} {yv : AV} {es : List (List D)} {cs : List AV} (ho : o.op = .call c) (h : Sim E K s a.tmps w) (hb : c.callee = .builtin .copy) (hx' : c.args.toList = [x', y']) (ht : c.argTypes.toList = [t, u])
  (hte : elemT P t = some e) (hsz : sizeT P e = some 1) (h1 : chkO x x' = true) (h2 : chkO y y' = true) (hx : getO s.sl x = some (.sref r off n)) (hy : getO s.sl y = some yv) (hl : yv.list? = some es) (hcs : s.rf[r]? = some cs)
  (hmp : isMp cs = false) (hfit : off + Nat.min es.length n ≤ cs.length ∧ (es.all fun e => e.length == 1) = true) :
  OpOK P E K s a w o (.val (.d (.int .i64 (Nat.min es.length n : Nat))) { s with rf := s.rf.set r (setRange cs off ((es.take (Nat.min es.length n)).map fun e => AV.d (e.headD .nilp))) }) := by
 have hyr := list_rep (getO_rep h h2 hy) hl
 have hxr := getO_rep h h1 hx
 have hu := und_elem hte
 simp only [Rep] at hxr
 obtain ⟨b, ad, cap, hρ, hxv, had⟩ := hxr
 obtain ⟨b', vs, el, hρ', hbk, hr⟩ := h.refs_cells hcs hmp
 rw [hρ] at hρ'
 cases hρ'
 have hs1 : sizesB 1 es = true := by
  cases es with
  | nil => rfl
  | cons e0 es => simp only [List.all_cons, Bool.and_eq_true] at hfit; simpa [sizesB] using hfit.2.1
 let m := Nat.min es.length n
 have hm : m ≤ es.length := Nat.min_le_left _ _
 obtain ⟨src, hsrc⟩ := src_rows (P := P) (w := w) (n := m) h.cells hyr hs1 hm
 have hsl : src.length = m := by rw [hsrc.len]; simp
 have hvl : vs.toList.length = cs.length := hr.length
 have hall : (es.take m).all (fun e => e.length == 1) = true := by
  rw [List.all_eq_true] at hfit ⊢
  exact fun e he => hfit.2 e (List.mem_of_mem_take he)
 have hrepS : RepL K ((es.take m).map fun e => AV.d (e.headD .nilp)) src := by
  rw [heads_map hall]
  refine repL_of_vals ?_ hsrc.rep
  rw [hsl, flat_len (sz := 1) (fun e he => by
   rw [List.all_eq_true] at hall
   simpa using hall e he)]
  simp; omega
 have hsimp : ∀ (w' : World), (storeCells ⟨b, off, none⟩ src 0).run P w = .ok () w' → (execOp a.eval o).run P w = .ok (.value (.int .i64 (m : Nat))) w' := fun w' hst => by
  rw [exec_builtin ho hb, two_args hx', two_args ht]
  obtain ⟨ya, yc, hyv, hyc, hyrows⟩ := (by simpa only [RepD] using hyr : ∃ a' n, a.eval y' = Value.slice a' es.length n ∧ es.length ≤ n ∧ _)
  have hlen : (Builtin.lenOf (a.eval y')).run P w = .ok es.length w := by rw [hyv]; simp [Builtin.lenOf]
  simp only [builtin, List.map_toArray, List.map_cons, List.map_nil, Builtin.copy_, List.getElem?_toArray, List.getElem?_cons_zero, List.getElem?_cons_succ, Sem.run_bind, run_underlying hu, Result.andThen_ok, hxv, hlen, run_sizeOf hsz, Sem.run_pure]
  have hcells := hsrc.cells
  show (((Builtin.firstCells 1 m (a.eval y')).run P w).andThen _).andThen _ = _
  rw [hcells]
  simp only [Result.andThen_ok]
  by_cases hn : n = 0
  ·have hm0 : m = 0 := by subst hn; exact Nat.min_zero _
   have : src = [] := List.length_eq_zero_iff.1 (by omega)
   subst this
   simp only [storeCells, Sem.run_pure, Result.ok.injEq, true_and] at hst
   subst hst
   simp [storeCells, goInt]
   rfl
  ·have := had hn
   subst this
   simp [hst, goInt]
   rfl
 obtain ⟨w', hst, g1, g2, g3, g4, g5, g6⟩ := run_storeCells (P := P) (b := b) (el := el) (fz := (0, 0)) src off 0 vs.toList w (by simpa using hbk) (by rw [hvl, hsl]; have := hfit.1; omega) hsrc.one (.inl rfl)
 have hrep : RepL K (setRange cs off ((es.take m).map fun e => AV.d (e.headD .nilp))) (setRangeV vs.toList (off + 0) src).toArray.toList := by
  simpa using RepL.setRange (off := off) hr hrepS
 have hml : ((es.take m).map fun e => AV.d (e.headD .nilp)).length = m := by simp; omega
 have hsim := h.setRef (w' := w') (i0 := none) hcs hρ hbk (isMp_setRange hmp (List.all_eq_true.2 fun x hx => by simp only [List.mem_map] at hx; obtain ⟨_, _, rfl⟩ := hx; rfl)) hrep g1 g2 g3 g4 g5 g6 (fun i es' hi _ => by
  have hb2 : off + ((es.take m).map fun e => AV.d (e.headD .nilp)).length ≤ cs.length := by rw [hml]; exact hfit.1
  rw [setRange_get hb2] at hi
  split at hi
  ·rename_i hin
   simp only [List.getElem?_map, Option.map_eq_some_iff] at hi
   obtain ⟨_, _, he⟩ := hi
   cases he
  ·rename_i hin
   refine ⟨hi, ?_⟩
   rw [hml] at hin
   rw [List.getElem?_toArray, setRangeV_get (by rw [hvl, hsl]; have := hfit.1; omega), if_neg (by omega), Array.getElem?_toList]) (fun i es v hi => by simp at hi)
 exact ⟨_, w', K, hsimp w' hst, hsim, rep_int' _ _, fresh_of_not_own (fun es e => by cases e), Up.refl _ _⟩
theorem eqn {t : TypeId} {u v : Value} {b : Bool} (h : ∀ d, (Op.equalIn (d + 1) t u v).run P w = .ok b w) : (Op.equal t u v).run P w = .ok b w := h 9999
theorem nil0 {u : AV} {pv : Value} {b : Bool} (hb : eqNilA 0 u = some b) (hr : Rep K u pv) : (pv = .pointer none ∧ b = true) ∨ ∃ ad, pv = .pointer (some ad) ∧ b = false := by
 unfold eqNilA at hb
 split at hb <;> first | omega | (simp at hb; done) | skip
 ·simp only [Option.some.injEq] at hb
  exact .inl ⟨by simpa [Rep, RepD] using hr, hb.symm⟩
 ·simp only [Option.some.injEq] at hb
  simp only [Rep] at hr
  obtain ⟨b1, _, rfl⟩ := hr
  exact .inr ⟨_, rfl, hb.symm⟩
 ·simp only [Option.some.injEq] at hb
  simp only [Rep] at hr
  obtain ⟨b1, o1, rfl, _⟩ := hr
  exact .inr ⟨_, rfl, hb.symm⟩
theorem nil1 {u : AV} {pv : Value} {b : Bool} (hb : eqNilA 1 u = some b) (hr : Rep K u pv) : (pv = .nilIface ∧ b = true) ∨ ∃ t' v', pv = .iface t' v' ∧ b = false := by
 unfold eqNilA at hb
 split at hb <;> first | omega | (simp at hb; done) | skip
 ·simp only [Option.some.injEq] at hb
  exact .inl ⟨by simpa [Rep, RepD] using hr, hb.symm⟩
 ·simp only [Option.some.injEq] at hb
  simp only [Rep] at hr
  obtain ⟨y1, rfl, _⟩ := hr
  exact .inr ⟨_, _, rfl, hb.symm⟩
theorem nil2 {u : AV} {pv : Value} {b : Bool} (hb : eqNilA 2 u = some b) (hr : Rep K u pv) : (pv = .nilFunc ∧ b = true) ∨ ∃ f a1 a2, pv = .func f a1 a2 ∧ b = false := by
 unfold eqNilA at hb
 split at hb <;> first | omega | (simp at hb; done) | skip
 ·simp only [Option.some.injEq] at hb
  exact .inl ⟨by simpa [Rep, RepD] using hr, hb.symm⟩
 ·simp only [Option.some.injEq] at hb
  simp only [Rep] at hr
  obtain ⟨y1, y2, rfl, _⟩ := hr
  exact .inr ⟨_, _, _, rfl, hb.symm⟩
theorem nil3 {u : AV} {pv : Value} {b : Bool} (hb : eqNilA 3 u = some b) (hr : Rep K u pv) : (pv = .slice none 0 0 ∧ b = true) ∨ ∃ ad n m, pv = .slice (some ad) n m ∧ b = false := by
 unfold eqNilA at hb
 split at hb <;> first | omega | (simp at hb; done) | skip
 ·simp only [Option.some.injEq] at hb
  exact .inl ⟨by simpa [Rep] using hr, hb.symm⟩
 ·simp only [Option.some.injEq] at hb
  simp only [Rep, RepD] at hr
  obtain ⟨ad, n, rfl, _, hrr⟩ := hr
  obtain ⟨b1, o1, z1, rfl, _⟩ := hrr (by simp)
  exact .inr ⟨_, _, _, rfl, hb.symm⟩
def NilPair (P : Program) (w : World) (t : TypeId) (b : Bool) (pv nv : Value) : Prop :=
 (Op.equal t pv nv).run P w = .ok b w ∧ (Op.equal t nv pv).run P w = .ok b w ∧
 (∀ op, binOp .eql op pv nv = (do pure (.bool (← Op.equal op pv nv))) ∧ binOp .neq op pv nv = (do pure (.bool (!(← Op.equal op pv nv)))) ∧
  binOp .eql op nv pv = (do pure (.bool (← Op.equal op nv pv))) ∧ binOp .neq op nv pv = (do pure (.bool (!(← Op.equal op nv pv))))) ∧
 (∀ cs, pv ≠ .agg cs) ∧ ∀ cs, nv ≠ .agg cs
theorem nilPair {t : TypeId} {nk : Nat} {u : AV} {pv nv : Value} {b : Bool} (ht : nilT P t = some nk) (hb : eqNilA nk u = some b) (hr : Rep K u pv)
  (hn : nk = 0 ∧ nv = .pointer none ∨ nk = 1 ∧ nv = .nilIface ∨ nk = 2 ∧ nv = .nilFunc ∨ nk = 3 ∧ nv = .slice none 0 0) : NilPair P w t b pv nv := by
 rcases hn with ⟨rfl, rfl⟩ | ⟨rfl, rfl⟩ | ⟨rfl, rfl⟩ | ⟨rfl, rfl⟩
 ·obtain ⟨e, hu⟩ : ∃ e, P.underlying t = some (.pointer e) := by unfold nilT at ht; split at ht <;> first | exact ⟨_, by assumption⟩ | (simp at ht; done)
  rcases nil0 hb hr with ⟨rfl, rfl⟩ | ⟨ad, rfl, rfl⟩ <;>
   exact ⟨eqn fun d => by simp [Op.equalIn, run_underlying hu], eqn fun d => by simp [Op.equalIn, run_underlying hu], fun op => ⟨rfl, rfl, rfl, rfl⟩, by simp, by simp⟩
 ·obtain ⟨e, hu⟩ : ∃ e, P.underlying t = some (.interface e) := by unfold nilT at ht; split at ht <;> first | exact ⟨_, by assumption⟩ | (simp at ht; done)
  rcases nil1 hb hr with ⟨rfl, rfl⟩ | ⟨t', v', rfl, rfl⟩ <;>
   exact ⟨eqn fun d => by simp [Op.equalIn, run_underlying hu], eqn fun d => by simp [Op.equalIn, run_underlying hu], fun op => ⟨rfl, rfl, rfl, rfl⟩, by simp, by simp⟩
 ·obtain ⟨x1, x2, x3, hu⟩ : ∃ x1 x2 x3, P.underlying t = some (.func x1 x2 x3) := by unfold nilT at ht; split at ht <;> first | exact ⟨_, _, _, by assumption⟩ | (simp at ht; done)
  rcases nil2 hb hr with ⟨rfl, rfl⟩ | ⟨t', v', z', rfl, rfl⟩ <;>
   exact ⟨eqn fun d => by simp [Op.equalIn, run_underlying hu], eqn fun d => by simp [Op.equalIn, run_underlying hu], fun op => ⟨rfl, rfl, rfl, rfl⟩, by simp, by simp⟩
 ·obtain ⟨e, hu⟩ : ∃ e, P.underlying t = some (.slice e) := by unfold nilT at ht; split at ht <;> first | exact ⟨_, by assumption⟩ | (simp at ht; done)
  rcases nil3 hb hr with ⟨rfl, rfl⟩ | ⟨ad, n, m, rfl, rfl⟩ <;>
   exact ⟨eqn fun d => by simp [Op.equalIn, run_underlying hu], eqn fun d => by simp [Op.equalIn, run_underlying hu], fun op => ⟨rfl, rfl, rfl, rfl⟩, by simp, by simp⟩
theorem isNil_cases {nk : Nat} {z : Operand} (hz : isNilC nk z = true) : ∃ nv, z = .const nv ∧ (nk = 0 ∧ nv = .pointer none ∨ nk = 1 ∧ nv = .nilIface ∨ nk = 2 ∧ nv = .nilFunc ∨ nk = 3 ∧ nv = .slice none 0 0) := by
 unfold isNilC at hz
 split at hz <;> first | exact ⟨_, rfl, by simp⟩ | simp at hz
theorem guard_const {op : BinOp} {t : TypeId} {p q : Operand} {u v : Value} (hc : (∃ c, p = .const c) ∨ ∃ c, q = .const c) (hu : ∀ cs, u ≠ .agg cs) : (eqGuard op t p q u v).run P w = .ok () w := by
 by_cases hnn : u = .nilIface ∧ v = .nilIface
 ·obtain ⟨rfl, rfl⟩ := hnn
  unfold eqGuard
  rcases hc with ⟨c, rfl⟩ | ⟨c, rfl⟩ <;> cases op <;> simp
 ·exact run_eqGuard ⟨fun cs cs' hh => hu cs hh.1, hnn⟩
theorem ok_eqnil {nk : Nat} {ne : Bool} {op : BinOp} {t yt : TypeId} {x : Opd} {p q : Operand} {o : Oper} {u : AV} {d : Did} (ho : o.op = .binOp op t p q yt) (hop : op = if ne then BinOp.neq else BinOp.eql) (h : Sim E K s a.tmps w)
  (ht : nilT P t = some nk) (hpq : (chkO x p = true ∧ isNilC nk q = true) ∨ (chkO x q = true ∧ isNilC nk p = true)) (hx : getO s.sl x = some u) (hd : vl s ((eqNilA nk u).map fun b => .d (.bool (b != ne))) = some d) : OpOK P E K s a w o d := by
 obtain ⟨r, hr, rfl⟩ := vl_of hd
 simp only [Option.map_eq_some_iff] at hr
 obtain ⟨b, hb, rfl⟩ := hr
 rcases hpq with ⟨h1, h2⟩ | ⟨h1, h2⟩
 ·obtain ⟨nv, rfl, hnv⟩ := isNil_cases h2
  obtain ⟨k1, k2, k3, k4, k5⟩ := nilPair (w := w) ht hb (getO_rep h h1 hx) hnv
  refine opOK_pure h (pv := .bool (b != ne)) ?_ (rep_bool' _) (fun _ e => by cases e)
  have e1 : (binOp op t (a.eval p) nv).run P w = .ok (.bool (b != ne)) w := by
   cases ne <;> simp only [Bool.false_eq_true, if_false, if_true] at hop <;> subst hop
   ·rw [(k3 t).1]; simp [k1]
   ·rw [(k3 t).2.1]; simp [k1]
  simp only [execOp, ho, Sem.run_bind]
  rw [guard_const (.inr ⟨nv, rfl⟩) k4]
  simp only [Result.andThen_ok]
  show ((binOp op t (a.eval p) nv).run P w).andThen _ = _
  rw [e1]
  simp
 ·obtain ⟨nv, rfl, hnv⟩ := isNil_cases h2
  obtain ⟨k1, k2, k3, k4, k5⟩ := nilPair (w := w) ht hb (getO_rep h h1 hx) hnv
  refine opOK_pure h (pv := .bool (b != ne)) ?_ (rep_bool' _) (fun _ e => by cases e)
  have e1 : (binOp op t nv (a.eval q)).run P w = .ok (.bool (b != ne)) w := by
   cases ne <;> simp only [Bool.false_eq_true, if_false, if_true] at hop <;> subst hop
   ·rw [(k3 t).2.2.1]; simp [k2]
   ·rw [(k3 t).2.2.2]; simp [k2]
  simp only [execOp, ho, Sem.run_bind]
  rw [guard_const (.inl ⟨nv, rfl⟩) (show ∀ cs, a.eval (.const nv) ≠ .agg cs from k5)]
  simp only [Result.andThen_ok]
  show ((binOp op t nv (a.eval q)).run P w).andThen _ = _
  rw [e1]
  simp
end
end Go.Ab
namespace Go.Ab
variable [Glb]
section
variable {P : Program} {E : Env} {K : Ctx} {s : St} {a : Act} {w : World}
theorem eqCells_append : ∀ {k1 k2 : List PK} {x1 x2 y1 y2 : List AV} {r : Bool}, x1.length = k1.length → y1.length = k1.length → eqCells (k1 ++ k2) (x1 ++ x2) (y1 ++ y2) = some r →
  ∃ r1 r2, eqCells k1 x1 y1 = some r1 ∧ eqCells k2 x2 y2 = some r2 ∧ r = (r1 && r2)
 | [], k2, x1, x2, y1, y2, r, h1, h2, h => by
   have e1 : x1 = [] := List.length_eq_zero_iff.1 (by simpa using h1)
   have e2 : y1 = [] := List.length_eq_zero_iff.1 (by simpa using h2)
   subst e1 e2
   exact ⟨true, r, rfl, by simpa using h, by simp⟩
 | k :: k1, k2, x1, x2, y1, y2, r, h1, h2, h => by
   cases x1 with
   | nil => simp at h1
   | cons x x1 =>
     cases y1 with
     | nil => simp at h2
     | cons y y1 =>
       simp only [List.cons_append] at h
       cases x <;> try (simp [eqCells] at h; done)
       cases y <;> try (simp [eqCells] at h; done)
       rename_i dx dy
       simp only [eqCells] at h
       split at h
       ·rename_i hk
        simp only [Option.map_eq_some_iff] at h
        obtain ⟨q, hq, rfl⟩ := h
        obtain ⟨r1, r2, g1, g2, rfl⟩ := eqCells_append (by simpa using h1) (by simpa using h2) hq
        exact ⟨dx.eqP dy && r1, r2, by simp [eqCells, hk, g1], g2, by rw [Bool.and_assoc]⟩
       ·simp at h
theorem eqCells_len : ∀ {ks : List PK} {xs ys : List AV} {r : Bool}, eqCells ks xs ys = some r → xs.length = ks.length ∧ ys.length = ks.length
 | [], xs, ys, r, h => by
   cases xs <;> cases ys <;> simp [eqCells] at h
   simp
 | k :: ks, xs, ys, r, h => by
   cases xs with
   | nil => simp [eqCells] at h
   | cons x xs =>
     cases ys with
     | nil => cases x <;> simp [eqCells] at h
     | cons y ys =>
       cases x <;> try (simp [eqCells] at h; done)
       cases y <;> try (simp [eqCells] at h; done)
       simp only [eqCells] at h
       split at h
       ·simp only [Option.map_eq_some_iff] at h
        obtain ⟨q, hq, _⟩ := h
        have := eqCells_len hq
        simp [this.1, this.2]
       ·simp at h
def EqP (P : Program) (d : Nat) (t : TypeId) (ks : List PK) : Prop := ∀ (K : Ctx) (w : World) (x y : Value) (cx cy : List AV) (r : Bool) (n : Nat), d ≤ n → RepL K cx x.cells.toList → RepL K cy y.cells.toList → eqCells ks cx cy = some r →
 (aggT P t = some true → (∃ c, x = .agg c) ∧ ∃ c, y = .agg c) → (aggT P t = some false → x.oneCell' = true ∧ y.oneCell' = true) → (Op.equalIn n t x y).run P w = .ok r w
theorem cells_agg (c : Array Value) : (Value.agg c).cells = c := rfl
theorem cells_one {v : Value} (h : v.oneCell' = true) : v.cells = #[v] := by cases v <;> simp [Value.oneCell', Value.cells] at h ⊢
theorem eq_part {t : TypeId} {ks : List PK} {d n off : Nat} {xs ys : Array Value} {cx cy : List AV} {r : Bool} (IH : EqP P d t ks) (hd : d ≤ n) (hsz : sizeT P t = some ks.length) (hag : ∃ b, aggT P t = some b) (h1 : aggT P t = some false → ks.length = 1)
  (hx : RepL K cx ((xs.toList.drop off).take ks.length)) (hy : RepL K cy ((ys.toList.drop off).take ks.length)) (he : eqCells ks cx cy = some r) :
  ∃ u v, (part t xs off).run P w = .ok u w ∧ (part t ys off).run P w = .ok v w ∧ (Op.equalIn n t u v).run P w = .ok r w := by
 obtain ⟨b, hb⟩ := hag
 have hlen := eqCells_len he
 cases b with
 | true =>
   refine ⟨.agg (xs.extract off (off + ks.length)), .agg (ys.extract off (off + ks.length)), by simp [part, run_isAgg hb, run_sizeOf hsz], by simp [part, run_isAgg hb, run_sizeOf hsz], ?_⟩
   exact IH K w _ _ cx cy r n hd (by rw [cells_agg, toList_extract]; exact hx) (by rw [cells_agg, toList_extract]; exact hy) he (fun _ => ⟨⟨_, rfl⟩, ⟨_, rfl⟩⟩) (fun hh => by rw [hb] at hh; cases hh)
 | false =>
   have hl1 := h1 hb
   rw [hl1] at hx hy hlen
   obtain ⟨ux, hux⟩ : ∃ u, cx = [u] := List.length_eq_one_iff.1 hlen.1
   obtain ⟨uy, huy⟩ : ∃ u, cy = [u] := List.length_eq_one_iff.1 hlen.2
   subst hux huy
   simp only [RepL] at hx hy
   obtain ⟨vx, rx, hvx, hrx, hnx⟩ := hx
   obtain ⟨vy, ry, hvy, hry, hny⟩ := hy
   subst hnx hny
   have gx : xs[off]? = some vx := by
    have : ((xs.toList.drop off).take 1)[0]? = some vx := by rw [hvx]; rfl
    rw [List.getElem?_take, if_pos (by omega), List.getElem?_drop] at this
    simpa using this
   have gy : ys[off]? = some vy := by
    have : ((ys.toList.drop off).take 1)[0]? = some vy := by rw [hvy]; rfl
    rw [List.getElem?_take, if_pos (by omega), List.getElem?_drop] at this
    simpa using this
   have hk : ∃ dx dy, ux = .d dx ∧ uy = .d dy := by
    obtain ⟨k, rfl⟩ : ∃ k, ks = [k] := List.length_eq_one_iff.1 hl1
    cases ux <;> try (simp [eqCells] at he; done)
    cases uy <;> try (simp [eqCells] at he; done)
    exact ⟨_, _, rfl, rfl⟩
   obtain ⟨dx, dy, rfl, rfl⟩ := hk
   have ox : vx.oneCell' = true := repD_one (by simpa [Rep] using hrx)
   have oy : vy.oneCell' = true := repD_one (by simpa [Rep] using hry)
   refine ⟨vx, vy, by simp [part, run_isAgg hb, gx], by simp [part, run_isAgg hb, gy], ?_⟩
   exact IH K w vx vy [.d dx] [.d dy] r n hd (by rw [cells_one ox]; simp [RepL, hrx]) (by rw [cells_one oy]; simp [RepL, hry]) he (fun hh => by rw [hb] at hh; cases hh) (fun _ => ⟨ox, oy⟩)
theorem eq_fields {d n : Nat} (IH : ∀ t ks, plainK P d t = some ks → EqP P d t ks ∧ (∃ b, aggT P t = some b) ∧ (aggT P t = some false → ks.length = 1)) (hd : d ≤ n) {xs ys : Array Value} : ∀ {fs : List Field} {off : Nat} {ks : List PK} {cx cy : List AV} {r : Bool}, plainFs P (plainK P d) off fs = some ks →
  RepL K cx ((xs.toList.drop off).take ks.length) → RepL K cy ((ys.toList.drop off).take ks.length) → eqCells ks cx cy = some r → (Op.eqFields n xs ys fs).run P w = .ok r w
 | [], off, ks, cx, cy, r, hp, hx, hy, he => by
   simp only [plainFs, Option.some.injEq] at hp
   subst hp
   simp only [List.length_nil, List.take_zero] at hx hy
   have e1 : cx = [] := List.length_eq_zero_iff.1 hx.length.symm
   have e2 : cy = [] := List.length_eq_zero_iff.1 hy.length.symm
   subst e1 e2
   simp only [eqCells, Option.some.injEq] at he
   subst he
   simp [Op.eqFields]
 | f :: fs, off, ks, cx, cy, r, hp, hx, hy, he => by
   simp only [plainFs] at hp
   split at hp
   ·simp at hp
   ·rename_i hno
    simp only [Bool.or_eq_true, not_or, Bool.not_eq_true, beq_eq_false_iff_ne, bne_eq_false_iff_eq] at hno
    split at hp
    ·rename_i k1 hk1
     split at hp
     ·rename_i hsz
      simp only [beq_iff_eq] at hsz
      simp only [Option.map_eq_some_iff] at hp
      obtain ⟨k2, hk2, rfl⟩ := hp
      obtain ⟨ih1, ih2, ih3⟩ := IH _ _ hk1
      have hlen := eqCells_len he
      simp only [List.length_append] at hx hy hlen
      have sx : RepL K (cx.take k1.length) ((xs.toList.drop off).take k1.length) := by
       have := RepL.take k1.length hx
       rwa [List.take_take, Nat.min_eq_left (by omega)] at this
      have sy : RepL K (cy.take k1.length) ((ys.toList.drop off).take k1.length) := by
       have := RepL.take k1.length hy
       rwa [List.take_take, Nat.min_eq_left (by omega)] at this
      have tx : RepL K (cx.drop k1.length) ((xs.toList.drop (off + k1.length)).take k2.length) := by
       have := RepL.drop k1.length hx
       rwa [List.drop_take, List.drop_drop, show k1.length + k2.length - k1.length = k2.length by omega] at this
      have ty : RepL K (cy.drop k1.length) ((ys.toList.drop (off + k1.length)).take k2.length) := by
       have := RepL.drop k1.length hy
       rwa [List.drop_take, List.drop_drop, show k1.length + k2.length - k1.length = k2.length by omega] at this
      rw [← List.take_append_drop k1.length cx, ← List.take_append_drop k1.length cy] at he
      obtain ⟨r1, r2, g1, g2, rfl⟩ := eqCells_append (by simp; omega) (by simp; omega) he
      obtain ⟨u, v, p1, p2, p3⟩ := eq_part (w := w) ih1 hd hsz ih2 ih3 sx sy g1
      have hrest := eq_fields IH hd (xs := xs) (ys := ys) hk2 tx ty g2
      have hn : f.name ≠ "_" := hno.1
      have ho : f.offset = off := hno.2
      simp only [Op.eqFields, hn, ne_eq, not_false_eq_true, if_true, Sem.run_bind, ho, p1, p2, p3, Result.andThen_ok]
      cases r1
      ·simp
      ·simpa using hrest
     ·simp at hp
    ·simp at hp
theorem eq_items {d n : Nat} {e : TypeId} {ks : List PK} (IH : EqP P d e ks) (hag : ∃ b, aggT P e = some b) (h1 : aggT P e = some false → ks.length = 1) (hsz : sizeT P e = some ks.length) (hd : d ≤ n) {xs ys : Array Value} : ∀ {m i : Nat} {cx cy : List AV} {r : Bool},
  RepL K cx ((xs.toList.drop (i * ks.length)).take (m * ks.length)) → RepL K cy ((ys.toList.drop (i * ks.length)).take (m * ks.length)) → eqCells ((List.replicate m ks).flatten) cx cy = some r → (Op.eqItems n e ks.length xs ys (List.range' i m)).run P w = .ok r w
 | 0, i, cx, cy, r, hx, hy, he => by
   simp only [Nat.zero_mul, List.take_zero] at hx hy
   have e1 : cx = [] := List.length_eq_zero_iff.1 hx.length.symm
   have e2 : cy = [] := List.length_eq_zero_iff.1 hy.length.symm
   subst e1 e2
   simp only [List.replicate_zero, List.flatten_nil, eqCells, Option.some.injEq] at he
   subst he
   simp [Op.eqItems]
 | m + 1, i, cx, cy, r, hx, hy, he => by
   simp only [List.replicate_succ, List.flatten_cons] at he
   have hlen := eqCells_len he
   have hfl : (List.replicate m ks).flatten.length = m * ks.length := by simp
   simp only [List.length_append, hfl] at hlen
   rw [Nat.add_mul, Nat.one_mul] at hx hy
   have sx : RepL K (cx.take ks.length) ((xs.toList.drop (i * ks.length)).take ks.length) := by
    have := RepL.take ks.length hx
    rwa [List.take_take, Nat.min_eq_left (by omega)] at this
   have sy : RepL K (cy.take ks.length) ((ys.toList.drop (i * ks.length)).take ks.length) := by
    have := RepL.take ks.length hy
    rwa [List.take_take, Nat.min_eq_left (by omega)] at this
   have tx : RepL K (cx.drop ks.length) ((xs.toList.drop ((i + 1) * ks.length)).take (m * ks.length)) := by
    have := RepL.drop ks.length hx
    rwa [List.drop_take, List.drop_drop, show m * ks.length + ks.length - ks.length = m * ks.length by omega, show i * ks.length + ks.length = (i + 1) * ks.length by rw [Nat.add_mul]; omega] at this
   have ty : RepL K (cy.drop ks.length) ((ys.toList.drop ((i + 1) * ks.length)).take (m * ks.length)) := by
    have := RepL.drop ks.length hy
    rwa [List.drop_take, List.drop_drop, show m * ks.length + ks.length - ks.length = m * ks.length by omega, show i * ks.length + ks.length = (i + 1) * ks.length by rw [Nat.add_mul]; omega] at this
   rw [← List.take_append_drop ks.length cx, ← List.take_append_drop ks.length cy] at he
   obtain ⟨r1, r2, g1, g2, rfl⟩ := eqCells_append (by simp; omega) (by simp; omega) he
   obtain ⟨u, v, p1, p2, p3⟩ := eq_part (w := w) IH hd hsz hag h1 sx sy g1
   have hrest := eq_items IH hag h1 hsz hd (xs := xs) (ys := ys) (m := m) (i := i + 1) tx ty g2
   simp only [List.range'_succ, Op.eqItems, Sem.run_bind, p1, p2, p3, Result.andThen_ok]
   cases r1
   ·simp
   ·simpa using hrest
theorem one_of_kind {k : PK} {cx cy : List AV} {r : Bool} (he : eqCells [k] cx cy = some r) : ∃ dx dy, cx = [.d dx] ∧ cy = [.d dy] ∧ dx.kind? = some k ∧ dy.kind? = some k ∧ r = dx.eqP dy := by
 have hlen := eqCells_len he
 obtain ⟨ux, rfl⟩ : ∃ u, cx = [u] := List.length_eq_one_iff.1 hlen.1
 obtain ⟨uy, rfl⟩ : ∃ u, cy = [u] := List.length_eq_one_iff.1 hlen.2
 cases ux <;> try (simp [eqCells] at he; done)
 cases uy <;> try (simp [eqCells] at he; done)
 rename_i dx dy
 simp only [eqCells] at he
 split at he
 ·rename_i hk
  simp only [Option.map_some, Option.some.injEq] at he
  exact ⟨dx, dy, rfl, rfl, hk.1, hk.2, by rw [← he]; simp⟩
 ·simp at he
theorem cells_single {x : Value} {u : Value} (h : x.oneCell' = true) (hc : x.cells.toList = [u]) : x = u := by
 rw [cells_one h] at hc
 simpa using hc
theorem plain_eq : ∀ (d : Nat) (t : TypeId) (ks : List PK), plainK P d t = some ks → EqP P d t ks ∧ (∃ b, aggT P t = some b) ∧ (aggT P t = some false → ks.length = 1)
 | 0, t, ks, h => by simp [plainK] at h
 | d + 1, t, ks, h => by
   have IH := plain_eq d
   unfold plainK at h
   split at h
   ·rename_i k hu
    cases h
    have hag : aggT P t = some false := by simp [aggT, hu]
    refine ⟨fun K w x y cx cy r n hn hx hy he _ h2 => ?_, ⟨_, hag⟩, fun _ => rfl⟩
    obtain ⟨dx, dy, rfl, rfl, kx, ky, rfl⟩ := one_of_kind he
    obtain ⟨ox, oy⟩ := h2 hag
    simp only [RepL] at hx hy
    obtain ⟨vx, rx, hvx, hrx, rfl⟩ := hx
    obtain ⟨vy, ry, hvy, hry, rfl⟩ := hy
    have := cells_single ox hvx
    subst this
    have := cells_single oy hvy
    subst this
    cases dx <;> simp [D.kind?] at kx
    cases dy <;> simp [D.kind?] at ky
    subst kx ky
    obtain ⟨m, rfl⟩ : ∃ m, n = m + 1 := ⟨n - 1, by omega⟩
    rw [rep_int hrx, rep_int hry]
    exact run_equalIn_int w m t _ _ _ _ hu
   ·rename_i hu
    cases h
    have hag : aggT P t = some false := by simp [aggT, hu]
    refine ⟨fun K w x y cx cy r n hn hx hy he _ h2 => ?_, ⟨_, hag⟩, fun _ => rfl⟩
    obtain ⟨dx, dy, rfl, rfl, kx, ky, rfl⟩ := one_of_kind he
    obtain ⟨ox, oy⟩ := h2 hag
    simp only [RepL] at hx hy
    obtain ⟨vx, rx, hvx, hrx, rfl⟩ := hx
    obtain ⟨vy, ry, hvy, hry, rfl⟩ := hy
    have := cells_single ox hvx
    subst this
    have := cells_single oy hvy
    subst this
    cases dx <;> simp [D.kind?] at kx
    cases dy <;> simp [D.kind?] at ky
    obtain ⟨m, rfl⟩ : ∃ m, n = m + 1 := ⟨n - 1, by omega⟩
    rw [rep_bool hrx, rep_bool hry]
    exact run_equalIn_bool' w m t _ _ hu
   ·rename_i hu
    cases h
    have hag : aggT P t = some false := by simp [aggT, hu]
    refine ⟨fun K w x y cx cy r n hn hx hy he _ h2 => ?_, ⟨_, hag⟩, fun _ => rfl⟩
    obtain ⟨dx, dy, rfl, rfl, kx, ky, rfl⟩ := one_of_kind he
    obtain ⟨ox, oy⟩ := h2 hag
    simp only [RepL] at hx hy
    obtain ⟨vx, rx, hvx, hrx, rfl⟩ := hx
    obtain ⟨vy, ry, hvy, hry, rfl⟩ := hy
    have := cells_single ox hvx
    subst this
    have := cells_single oy hvy
    subst this
    cases dx <;> simp [D.kind?] at kx
    cases dy <;> simp [D.kind?] at ky
    obtain ⟨m, rfl⟩ : ∃ m, n = m + 1 := ⟨n - 1, by omega⟩
    rw [rep_str hrx, rep_str hry, run_equalIn_string w m t _ _ hu]
    simp [D.eqP]
   ·rename_i fs hu
    split at h
    ·simp at h
    ·rename_i hst
     have hag : aggT P t = some true := by simp [aggT, hu]
     refine ⟨fun K w x y cx cy r n hn hx hy he h1 _ => ?_, ⟨_, hag⟩, fun hh => by rw [hag] at hh; cases hh⟩
     obtain ⟨⟨xs, rfl⟩, ⟨ys, rfl⟩⟩ := h1 hag
     obtain ⟨m, rfl⟩ : ∃ m, n = m + 1 := ⟨n - 1, by omega⟩
     have hfs : P.fieldsOf t = fs := by simp [Program.fieldsOf, hu]
     rw [run_equalIn_struct w m t xs ys (by rw [hfs]; exact hu) (by simpa using hst), hfs]
     have hlen := eqCells_len he
     rw [cells_agg] at hx hy
     refine eq_fields IH (by omega) h (cx := cx) (cy := cy) (K := K) ?_ ?_ he
     ·rw [List.drop_zero, List.take_of_length_le (by rw [hx.length]; omega)]; exact hx
     ·rw [List.drop_zero, List.take_of_length_le (by rw [hy.length]; omega)]; exact hy
   ·rename_i n0 e hu
    split at h
    ·rename_i k1 hk1
     split at h
     ·rename_i hsz
      simp only [beq_iff_eq] at hsz
      cases h
      obtain ⟨ih1, ih2, ih3⟩ := IH _ _ hk1
      have hag : aggT P t = some true := by simp [aggT, hu]
      refine ⟨fun K w x y cx cy r n hn hx hy he h1 _ => ?_, ⟨_, hag⟩, fun hh => by rw [hag] at hh; cases hh⟩
      obtain ⟨⟨xs, rfl⟩, ⟨ys, rfl⟩⟩ := h1 hag
      obtain ⟨m, rfl⟩ : ∃ m, n = m + 1 := ⟨n - 1, by omega⟩
      have hlen := eqCells_len he
      have hfl : (List.replicate n0 k1).flatten.length = n0 * k1.length := by simp
      rw [hfl] at hlen
      rw [cells_agg] at hx hy
      obtain ⟨i, hi⟩ : ∃ i, P.info? e = some i := by
       unfold sizeT at hsz
       simp only [Option.map_eq_some_iff] at hsz
       obtain ⟨i, hi, _⟩ := hsz
       exact ⟨i, hi⟩
      have hco : P.cellsOf e = k1.length := by
       unfold sizeT at hsz
       simp [Program.cellsOf, hsz]
      rw [run_equalIn_array w m xs ys hu hi, hco, List.range_eq_range']
      refine eq_items ih1 ih2 ih3 hsz (by omega) (cx := cx) (cy := cy) (K := K) ?_ ?_ he
      ·rw [Nat.zero_mul, List.drop_zero, List.take_of_length_le (by rw [hx.length]; omega)]; exact hx
      ·rw [Nat.zero_mul, List.drop_zero, List.take_of_length_le (by rw [hy.length]; omega)]; exact hy
     ·simp at h
    ·simp at h
   ·simp at h
theorem ok_eqc {ne : Bool} {ks : List PK} {op : BinOp} {t yt : TypeId} {x y : Opd} {x' y' : Operand} {o : Oper} {cx cy : List AV} {d : Did} (ho : o.op = .binOp op t x' y' yt) (hop : op = if ne then BinOp.neq else BinOp.eql) (h : Sim E K s a.tmps w)
  (h1 : chkO x x' = true) (h2 : chkO y y' = true) (hp : plainK P 50 t = some ks) (hag : aggT P t = some true) (hg : P.eqGuardType P.depth t = false)
  (hx : getO s.sl x = some (.agg cx)) (hy : getO s.sl y = some (.agg cy)) (hd : vl s ((eqCells ks cx cy).map fun t => .d (.bool (t != ne))) = some d) : OpOK P E K s a w o d := by
 obtain ⟨r, hr, rfl⟩ := vl_of hd
 simp only [Option.map_eq_some_iff] at hr
 obtain ⟨b, hb, rfl⟩ := hr
 have p := getO_rep h h1 hx
 have q := getO_rep h h2 hy
 simp only [Rep] at p q
 obtain ⟨xs, hxs, hrx⟩ := p
 obtain ⟨ys, hys, hry⟩ := q
 have heq : (Op.equalIn 10000 t (.agg xs) (.agg ys)).run P w = .ok b w := (plain_eq 50 t ks hp).1 K w _ _ cx cy b 10000 (by omega) hrx hry hb (fun _ => ⟨⟨_, rfl⟩, ⟨_, rfl⟩⟩) (fun hh => by rw [hag] at hh; cases hh)
 refine opOK_pure h (pv := .bool (b != ne)) ?_ (rep_bool' _) (fun _ e => by cases e)
 simp only [execOp, ho, Sem.run_bind, hxs, hys, run_eqGuard_agg w op t x' y' xs ys hg, Result.andThen_ok]
 cases ne <;> simp only [Bool.false_eq_true, if_false, if_true] at hop <;> subst hop
 ·rw [run_eql_struct, heq]; simp
 ·rw [run_neq_struct, heq]; simp
end
end Go.Ab
namespace Go.Ab
variable [Glb]
section
variable {P : Program} {E : Env} {K : Ctx} {s : St} {a : Act} {w : World}
theorem flatE_get : ∀ {es : List MapEntry} {i : Nat} {e : MapEntry}, es[i]? = some e → (flatE es)[2 * i]? = some e.key ∧ (flatE es)[2 * i + 1]? = some e.val
 | [], i, e, h => by simp at h
 | x :: es, 0, e, h => by
   simp only [List.getElem?_cons_zero, Option.some.injEq] at h
   subst h; exact ⟨rfl, rfl⟩
 | x :: es, i + 1, e, h => by
   simp only [List.getElem?_cons_succ] at h
   have := flatE_get h
   exact ⟨by rw [show 2 * (i + 1) = 2 * i + 1 + 1 by omega]; simpa [flatE] using this.1, by rw [show 2 * (i + 1) + 1 = 2 * i + 1 + 1 + 1 by omega]; simpa [flatE] using this.2⟩
theorem flatE_len : ∀ es : List MapEntry, (flatE es).length = 2 * es.length
 | [] => rfl
 | e :: r => by simp [flatE, flatE_len r]; omega
theorem flatE_append : ∀ es fs : List MapEntry, flatE (es ++ fs) = flatE es ++ flatE fs
 | [], fs => rfl
 | e :: r, fs => by simp [flatE, flatE_append r fs]
theorem flatE_modify : ∀ (es : List MapEntry) (i : Nat) (f : MapEntry → MapEntry) (v : Value), (∀ e, es[i]? = some e → (f e).key = e.key ∧ (f e).val = v) → flatE (es.modify i f) = (flatE es).set (2 * i + 1) v
 | [], i, f, v, _ => by simp [flatE]
 | e :: r, 0, f, v, h => by
   obtain ⟨h1, h2⟩ := h e (by simp)
   simp [flatE, h1, h2]
 | e :: r, i + 1, f, v, h => by
   have := flatE_modify r i f v (fun e he => h e (by simpa using he))
   simp only [List.modify_succ_cons, flatE, this]
   rw [show 2 * (i + 1) + 1 = 2 * i + 1 + 1 + 1 by omega]
   simp
def keyDesc : PK → TypeDesc
 | .int k => .int k
 | .bool => .bool
 | .str => .string
theorem und_key {t : TypeId} {pk : PK} (h : keyP P t = some pk) : P.underlying t = some (keyDesc pk) := by
 unfold keyP at h
 split at h <;> first | (cases h; done) | (cases h; assumption)
theorem key_rep {pk : PK} {x : D} {v : Value} (hk : x.kind? = some pk) (hr : Rep K (.d x) v) : MapKept.IsKey (keyDesc pk) v := by
 cases x <;> simp only [D.kind?, Option.some.injEq, reduceCtorEq] at hk
 all_goals subst hk
 all_goals simp only [Rep, RepD] at hr
 all_goals subst hr
 all_goals first | exact rfl | trivial | simp [MapKept.IsKey, keyDesc]
theorem key_eq {pk : PK} {x y : D} {u v : Value} (hx : x.kind? = some pk) (hy : y.kind? = some pk) (hu : Rep K (.d x) u) (hv : Rep K (.d y) v) : Instr.sameNow (keyDesc pk) u v = some (x.eqP y) := by
 cases x <;> simp only [D.kind?, Option.some.injEq, reduceCtorEq] at hx
 all_goals subst hx
 all_goals cases y <;> simp only [D.kind?, Option.some.injEq, reduceCtorEq] at hy
 all_goals simp only [Rep, RepD] at hu hv
 all_goals subst hu hv
 ·cases hy; simp [Instr.sameNow, keyDesc, D.eqP]
 ·simp [Instr.sameNow, keyDesc, D.eqP]
 ·rename_i l l'
  simp only [Instr.sameNow, keyDesc, D.eqP, Option.some.injEq]
  rw [Bool.eq_iff_iff, MapKept.bytes_beq]
  simp
theorem find_rep {pk : PK} {x : D} {u : Value} (hx : x.kind? = some pk) (hu : Rep K (.d x) u) : ∀ {kvs : List AV} {es : List MapEntry} {i : Nat} {r : Option (Nat × AV)}, RepL K kvs (flatE es) → findK pk x kvs i = some r →
  (r = none ∧ Instr.findNow (keyDesc pk) u es i = some none) ∨ ∃ j e v, r = some (i + j, v) ∧ es[j]? = some e ∧ Instr.findNow (keyDesc pk) u es i = some (some (i + j, e.val)) ∧ Rep K v e.val ∧ kvs[2 * j + 1]? = some v ∧ e.key = u
 | [], es, i, r, hr, h => by
   cases es with
   | nil =>
     simp only [findK, Option.some.injEq] at h
     exact .inl ⟨h.symm, rfl⟩
   | cons e es => simp [flatE, RepL] at hr
 | [y], es, i, r, hr, h => by
   cases y <;> simp [findK] at h
 | y :: v :: kvs, es, i, r, hr, h => by
   cases es with
   | nil => simp [flatE, RepL] at hr
   | cons e es =>
     simp only [flatE, RepL] at hr
     obtain ⟨k', _, he, hk, v', _, he2, hv, hrest⟩ := hr
     cases he; cases he2
     cases y <;> simp only [findK] at h <;> try (cases h; done)
     rename_i y
     split at h
     ·rename_i hy
      have hs := key_eq hx hy hu hk
      split at h
      ·rename_i heq
       simp only [Option.some.injEq] at h
       refine .inr ⟨0, e, v, by rw [← h]; rfl, rfl, by simp [Instr.findNow, hs, heq], hv, rfl, ?_⟩
       rw [heq] at hs
       obtain ⟨q, h1, h2⟩ := MapKept.sameNow_of_keys (key_rep hx hu) (key_rep hy hk)
       rw [hs] at h1
       cases h1
       exact (h2.1 rfl).symm
      ·rename_i hne
       have hne : x.eqP y = false := by simpa using hne
       rcases find_rep hx hu hrest h with ⟨rfl, h2⟩ | ⟨j, e', v2, rfl, h2, h3, h4, h5, h6⟩
       ·exact .inl ⟨rfl, by simp [Instr.findNow, hs, hne, h2]⟩
       ·exact .inr ⟨j + 1, e', v2, by rw [show i + 1 + j = i + (j + 1) by omega], by simpa using h2, by simp only [Instr.findNow, hs, hne, h3]; rw [show i + 1 + j = i + (j + 1) by omega], h4, by rw [show 2 * (j + 1) + 1 = 2 * j + 1 + 1 + 1 by omega]; simpa using h5, h6⟩
     ·cases h
theorem und_map {t : TypeId} {pk : PK} (h : chkKey P pk t = true) : ∃ k e, P.underlying t = some (.map k e) ∧ P.underlying k = some (keyDesc pk) := by
 unfold chkKey at h
 split at h
 ·rename_i k e hu
  simp only [beq_iff_eq] at h
  exact ⟨k, e, hu, und_key h⟩
 ·cases h
theorem und_mapZ {t : TypeId} {pk : PK} {zero : AV} (h : chkMap P pk zero t = true) : ∃ k e z, P.underlying t = some (.map k e) ∧ P.underlying k = some (keyDesc pk) ∧ (∀ w, (zeroValue e).run P w = .ok z w) ∧ (∀ K : Ctx, Rep K zero z) ∧ ∀ es, zero ≠ .own es := by
 unfold chkMap at h
 split at h
 ·rename_i k e hu
  simp only [Bool.and_eq_true, beq_iff_eq] at h
  obtain ⟨h1, h2⟩ := h
  split at h2
  ·rename_i z hz
   simp only [Bool.and_eq_true] at h2
   refine ⟨k, e, z, hu, und_key h1, fun w => ?_, fun K => chkV_rep _ _ h2.1, fun es e => ?_⟩
   ·cases hi : P.info? e with
    | none => simp [hi] at hz
    | some i => simp [hi] at hz; simp [zeroValue, run_typeInfo hi, hz]
   ·subst e; exact absurd h2.1 (by unfold chkV; simp)
  ·cases h2
 ·cases h
theorem ok_makeMap {t : TypeId} {o : Oper} (ho : o.op = .makeMap t none) (h : Sim E K s a.tmps w) (hw : WF E.rf0 s) : OpOK P E K s a w o (.val (.mp s.rf.length) { s with rf := s.rf ++ [[.tup []]] }) := by
 have hsim := h.newRef (K' := K.bind s.rf.length w.heap.size) (cs := [.tup []]) (ob := .map #[] 0) hw (.map [] #[] rfl (by simp) (by simp [flatE, RepL])) (by simp [AV.refBs, AV.refB]) (fun x hx es e => by simp at hx; subst hx; cases e)
  rfl rfl (bind_up K s.rf.length w.heap.size).2 (by simp [Ctx.bind, updN])
 refine ⟨.map (some w.heap.size), _, _, ?_, hsim, ?_, fresh_of_not_own (fun es e => by cases e), bind_up _ _ _⟩
 ·simp [execOp, ho, Instr.makeMap]
 ·simp only [Rep]
  exact ⟨w.heap.size, by simp [Ctx.bind, updN], rfl⟩
theorem ok_lookup {pk : PK} {ok : Bool} {zero : AV} {m k : Opd} {m' k' : Operand} {t : TypeId} {o : Oper} {r : Nat} {x : D} {kvs : List AV} {q : Option (Nat × AV)} {v : AV} (ho : o.op = .lookup t m' k' ok) (h : Sim E K s a.tmps w)
  (h1 : chkO m m' = true) (h2 : chkO k k' = true) (hc : chkMap P pk zero t = true) (hm : getO s.sl m = some (.mp r)) (hk : getO s.sl k = some (.d x)) (hx : x.kind? = some pk) (hr : s.rf[r]? = some (.tup [] :: kvs))
  (hf : findK pk x kvs 0 = some q) (hv : v = match q with
   | some (_, u) => if ok then .tup [u.strip, .d (.bool true)] else u.strip
   | none => if ok then .tup [zero.strip, .d (.bool false)] else zero.strip) : OpOK P E K s a w o (.val v s) := by
 obtain ⟨kt, et, z, hu, huk, hz, hzr, hzo⟩ := und_mapZ hc
 have hmr := getO_rep h h1 hm
 have hkr := getO_rep h h2 hk
 simp only [Rep] at hmr
 obtain ⟨b, hρ, hmv⟩ := hmr
 obtain ⟨b', es, hρ', hb, hborn, hrep⟩ := h.refs_map hr
 rw [hρ] at hρ'
 cases hρ'
 have hck := fun e => MapKept.run_checkKey (P := P) (w := w) huk (key_rep hx hkr) e 9999
 rcases find_rep hx hkr hrep hf with ⟨rfl, h3⟩ | ⟨j, e, u, rfl, h2', h3, h4, h5, _⟩
 ·have hrun := MapKept.run_findKey (P := P) (w := w) huk h3
  subst hv
  cases ok
  ·refine opOK_pure h (pv := z) ?_ (Rep.strip _ _ (hzr K)) (strip_not_own _)
   simp [execOp, ho, Instr.lookup, run_underlying hu, hmv, MapKept.run_getObj_map hb, hck, hrun, hz, Result.andThen]
  ·refine opOK_pure h (pv := .tuple #[z, .bool false]) ?_ ?_ (fun _ e => by cases e)
   ·simp [execOp, ho, Instr.lookup, run_underlying hu, hmv, MapKept.run_getObj_map hb, hck, hrun, hz, Result.andThen]
   ·simp only [if_true, Rep]
    exact ⟨_, rfl, by simp [RepL, Rep.strip _ _ (hzr K), Rep, RepD]⟩
 ·have hrun := MapKept.run_findKey (P := P) (w := w) huk h3
  subst hv
  cases ok
  ·refine opOK_pure h (pv := e.val) ?_ (Rep.strip _ _ h4) (strip_not_own _)
   simp [execOp, ho, Instr.lookup, run_underlying hu, hmv, MapKept.run_getObj_map hb, hck, hrun, Result.andThen]
  ·refine opOK_pure h (pv := .tuple #[e.val, .bool true]) ?_ ?_ (fun _ e => by cases e)
   ·simp [execOp, ho, Instr.lookup, run_underlying hu, hmv, MapKept.run_getObj_map hb, hck, hrun, Result.andThen]
   ·simp only [if_true, Rep]
    exact ⟨_, rfl, by simp [RepL, Rep.strip _ _ h4, Rep, RepD]⟩
theorem Sim.setMap {tm : Array Value} (h : Sim E K s tm w) {r b : Nat} {kvs kvs' : List AV} {es es' : Array MapEntry} (hr : s.rf[r]? = some (.tup [] :: kvs)) (hρ : K.ρ r = some b) (hb : w.heap[b]? = some (.map es es.size))
  (hborn : ∀ (i : Nat) e, es'[i]? = some e → e.born = i) (hrep : RepL K kvs' (flatE es'.toList)) {n : Nat} (hn : n = es'.size) :
  Sim E K { s with rf := s.rf.set r (.tup [] :: kvs') } tm { w with heap := w.heap.setIfInBounds b (.map es' n) } := by
 subst hn
 have hlt := heap_lt hb
 have hb' : (w.heap.setIfInBounds b (.map es' es'.size))[b]? = some (.map es' es'.size) := by simp [hlt]
 refine h.setObj (i0 := none) hr hρ (.map kvs' es' rfl hborn hrep) hb' (fun k hk => by simp [Ne.symm hk]) (by simp) rfl rfl rfl (fun i es v _ _ hcell => ?_) (fun i es v hi => by cases hi)
 exact absurd hcell (by simp [World.cell?, hlt])
theorem same_key {n : Nat} {pk : PK} {u : Value} (hk : MapKept.IsKey (keyDesc pk) u) : Instr.sameBits (n + 1) u u = true := by
 cases pk <;> cases u <;> simp_all [MapKept.IsKey, keyDesc, Instr.sameBits] <;> exact (MapKept.bytes_beq _ _).2 rfl
theorem run_stays {pk : PK} {u : Value} (hk : MapKept.IsKey (keyDesc pk) u) : (Instr.keyThatStays u u).run P w = .ok u w := by
 simp [Instr.keyThatStays, same_key (n := 9999) hk]
theorem born_push {es : Array MapEntry} (h : ∀ (i : Nat) e, es[i]? = some e → e.born = i) {x : MapEntry} (hx : x.born = es.size) : ∀ (i : Nat) e, (es.push x)[i]? = some e → e.born = i := fun i e he => by
 rw [Array.getElem?_push] at he
 split at he
 ·rename_i hi; cases he; omega
 ·exact h i e he
theorem born_modify {es : Array MapEntry} (h : ∀ (i : Nat) e, es[i]? = some e → e.born = i) {j : Nat} {f : MapEntry → MapEntry} (hf : ∀ e, (f e).born = e.born) : ∀ (i : Nat) e, (es.modify j f)[i]? = some e → e.born = i := fun i e he => by
 rw [Array.getElem?_modify] at he
 split at he
 ·simp only [Option.map_eq_some_iff] at he
  obtain ⟨e', h1, rfl⟩ := he
  rw [hf]; exact h i e' h1
 ·exact h i e he
theorem ok_mapSet {pk : PK} {m k v : Opd} {m' k' v' : Operand} {t : TypeId} {o : Oper} {r : Nat} {x : D} {u : AV} {kvs kvs' : List AV} {q : Option (Nat × AV)} (ho : o.op = .mapUpdate t m' k' v' ∨ o.op = .insert t m' k' v') (h : Sim E K s a.tmps w)
  (h1 : chkO m m' = true) (h2 : chkO k k' = true) (h3 : chkO v v' = true) (hc : chkKey P pk t = true) (hm : getO s.sl m = some (.mp r)) (hk : getO s.sl k = some (.d x)) (hv : getO s.sl v = some u) (hx : x.kind? = some pk)
  (hr : s.rf[r]? = some (.tup [] :: kvs)) (hf : findK pk x kvs 0 = some q) (hq : kvs' = match q with
   | some (i, _) => kvs.set (2 * i + 1) u
   | none => kvs ++ [.d x, u]) : OpOK P E K s a w o (.none_ { s with rf := s.rf.set r (.tup [] :: kvs') }) := by
 obtain ⟨kt, et, hu, huk⟩ := und_map hc
 have hmr := getO_rep h h1 hm
 have hkr := getO_rep h h2 hk
 have hvr := getO_rep h h3 hv
 simp only [Rep] at hmr
 obtain ⟨b, hρ, hmv⟩ := hmr
 obtain ⟨b', es, hρ', hb, hborn, hrep⟩ := h.refs_map hr
 rw [hρ] at hρ'
 cases hρ'
 have hkey := key_rep hx hkr
 have hck := fun e => MapKept.run_checkKey (P := P) (w := w) huk hkey e 9999
 have hexec : ∀ w', (Instr.mapUpdate t (a.eval m') (a.eval k') (a.eval v')).run P w = .ok () w' → (execOp a.eval o).run P w = .ok .skip w' := fun w' hw' => by
  rcases ho with ho | ho <;> simp [execOp, ho, hw']
 rcases find_rep hx hkr hrep hf with ⟨rfl, h4⟩ | ⟨j, e, u', rfl, h2', h4, h5, h6, h7⟩
 ·have hrun := MapKept.run_findKey (P := P) (w := w) huk h4
  subst hq
  refine ⟨_, K, hexec _ ?_, h.setMap hr hρ hb (es' := es.push { key := a.eval k', val := a.eval v', born := es.size }) (n := es.size + 1) (born_push hborn rfl) ?_ (by simp), Up.refl _ _⟩
  ·simp [Instr.mapUpdate, run_underlying hu, hmv, MapKept.run_getObj_map hb, hck, hrun, Result.andThen, MapKept.run_setObj_map _ hb]
  ·rw [Array.toList_push, flatE_append]
   exact RepL.append hrep (by simp only [flatE, RepL]; exact ⟨_, _, rfl, hkr, _, _, rfl, hvr, rfl⟩)
 ·have hrun := MapKept.run_findKey (P := P) (w := w) huk h4
  subst hq
  have hge : es[j]? = some e := by simpa using h2'
  have hmod : es.modify j (fun e => { e with key := a.eval k', val := a.eval v' }) = es.modify j (fun e => { e with key := a.eval k', val := a.eval v' }) := rfl
  refine ⟨_, K, hexec _ ?_, h.setMap hr hρ hb (es' := es.modify j (fun e => { e with key := a.eval k', val := a.eval v' })) (n := es.size) (born_modify hborn fun _ => rfl) ?_ (by simp), Up.refl _ _⟩
  ·have hg : ((es[j]?).map (·.key)).getD (a.eval k') = a.eval k' := by rw [hge]; exact h7
   simp only [Nat.zero_add] at hrun
   simp [Instr.mapUpdate, run_underlying hu, hmv, MapKept.run_getObj_map hb, hck, hrun, Result.andThen, hg, run_stays hkey, MapKept.run_setObj_map _ hb]
  ·rw [Array.toList_modify, flatE_modify _ _ _ (a.eval v') (fun e' he' => ⟨by rw [h2'] at he'; cases he'; exact h7.symm, rfl⟩)]
   simp only [Nat.zero_add]
   exact RepL.set hrep hvr
theorem ok_mapEntry {pk : PK} {zero : AV} {m k : Opd} {m' k' : Operand} {t : TypeId} {o : Oper} {r : Nat} {x : D} {kvs : List AV} {q : Option (Nat × AV)} {d : Did} (ho : o.op = .mapEntry t m' k') (h : Sim E K s a.tmps w)
  (h1 : chkO m m' = true) (h2 : chkO k k' = true) (hc : chkMap P pk zero t = true) (hm : getO s.sl m = some (.mp r)) (hk : getO s.sl k = some (.d x)) (hx : x.kind? = some pk) (hr : s.rf[r]? = some (.tup [] :: kvs))
  (hf : findK pk x kvs 0 = some q) (hd : d = match q with
   | some (i, v) => .val (.tup [v.strip, .d (.int .i64 i)]) s
   | none => .val (.tup [zero.strip, .d (.int .i64 (kvs.length / 2 : Nat))]) { s with rf := s.rf.set r (.tup [] :: (kvs ++ [.d x, zero.strip])) }) : OpOK P E K s a w o d := by
 obtain ⟨kt, et, z, hu, huk, hz, hzr, hzo⟩ := und_mapZ hc
 have hmr := getO_rep h h1 hm
 have hkr := getO_rep h h2 hk
 simp only [Rep] at hmr
 obtain ⟨b, hρ, hmv⟩ := hmr
 obtain ⟨b', es, hρ', hb, hborn, hrep⟩ := h.refs_map hr
 rw [hρ] at hρ'
 cases hρ'
 have hkey := key_rep hx hkr
 have hck := fun e => MapKept.run_checkKey (P := P) (w := w) huk hkey e 9999
 have hlen : kvs.length = 2 * es.size := by rw [← hrep.length, flatE_len]; simp
 rcases find_rep hx hkr hrep hf with ⟨rfl, h4⟩ | ⟨j, e, u', rfl, h2', h4, h5, h6, h7⟩
 ·have hrun := MapKept.run_findKey (P := P) (w := w) huk h4
  subst hd
  refine ⟨.tuple #[z, goInt es.size], _, K, ?_, h.setMap hr hρ hb (es' := es.push { key := a.eval k', val := z, born := es.size }) (n := es.size + 1) (born_push hborn rfl) ?_ (by simp), ?_, fresh_of_not_own (fun es e => by cases e), Up.refl _ _⟩
  ·simp [execOp, ho, Instr.mapEntry, run_underlying hu, hmv, MapKept.run_getObj_map hb, hck, hrun, hz, Result.andThen, MapKept.run_setObj_map _ hb]
  ·rw [Array.toList_push, flatE_append]
   exact RepL.append hrep (by simp only [flatE, RepL]; exact ⟨_, _, rfl, hkr, _, _, rfl, Rep.strip _ _ (hzr K), rfl⟩)
  ·have : kvs.length / 2 = es.size := by omega
   simp only [Rep]
   exact ⟨_, rfl, by simp [RepL, Rep.strip _ _ (hzr K), Rep, RepD, goInt, this]⟩
 ·have hrun := MapKept.run_findKey (P := P) (w := w) huk h4
  subst hd
  have hge : es[j]? = some e := by simpa using h2'
  simp only [Nat.zero_add] at hrun
  have hsame : es.modify j (fun e => { e with key := a.eval k' }) = es := by
   apply Array.ext_getElem?
   intro i
   rw [Array.getElem?_modify]
   split
   ·rename_i hij
    subst hij
    rw [hge, ← h7]; rfl
   ·rfl
  have hsw : ({ w with heap := w.heap.setIfInBounds b (.map es es.size) } : World) = w := by
   have : w.heap.setIfInBounds b (.map es es.size) = w.heap := by
    apply Array.ext_getElem?
    intro i
    rw [Array.getElem?_setIfInBounds]
    split
    ·rename_i hij
     subst hij
     rw [hb, if_pos (heap_lt hb)]
    ·rfl
   rw [this]
  refine opOK_pure h (pv := .tuple #[e.val, goInt e.born]) ?_ ?_ (fun _ e => by cases e)
  ·have hg : ((es[j]?).map (·.key)).getD (a.eval k') = a.eval k' := by rw [hge]; exact h7
   have hg2 : ((es[j]?).map (·.born)).getD 0 = e.born := by rw [hge]; rfl
   have hset := MapKept.run_setObj_map (P := P) (.map (es.modify j (fun e => { e with key := a.eval k' })) es.size) hb
   rw [hsame, hsw] at hset
   have hst : (Instr.keyThatStays e.key (a.eval k')).run P w = .ok (a.eval k') w := by rw [h7]; exact run_stays hkey
   simp [execOp, ho, Instr.mapEntry, run_underlying hu, hmv, MapKept.run_getObj_map hb, hck, hrun, Result.andThen, hge, hst, hsame, hset]
  ·have hbj := hborn j e hge
   simp only [Rep, Nat.zero_add]
   exact ⟨_, rfl, by simp [RepL, Rep.strip _ _ h5, Rep, RepD, goInt, hbj]⟩
theorem ok_entrySet {m st v : Opd} {m' st' v' : Operand} {t : TypeId} {o : Oper} {r : Nat} {k : IntKind} {n : Int} {u : AV} {kvs : List AV} (ho : o.op = .entryStore t m' st' v') (h : Sim E K s a.tmps w)
  (h1 : chkO m m' = true) (h2 : chkO st st' = true) (h3 : chkO v v' = true) (hm : getO s.sl m = some (.mp r)) (hs : getO s.sl st = some (.d (.int k n))) (hv : getO s.sl v = some u) (hn : 0 ≤ n)
  (hr : s.rf[r]? = some (.tup [] :: kvs)) (hlt : 2 * n.toNat + 1 < kvs.length) : OpOK P E K s a w o (.none_ { s with rf := s.rf.set r (.tup [] :: kvs.set (2 * n.toNat + 1) u) }) := by
 have hmr := getO_rep h h1 hm
 have hsr := rep_int (getO_rep h h2 hs)
 have hvr := getO_rep h h3 hv
 simp only [Rep] at hmr
 obtain ⟨b, hρ, hmv⟩ := hmr
 obtain ⟨b', es, hρ', hb, hborn, hrep⟩ := h.refs_map hr
 rw [hρ] at hρ'
 cases hρ'
 have hlen : kvs.length = 2 * es.size := by rw [← hrep.length, flatE_len]; simp
 have hfind : es.findIdx? (fun e => (e.born : Int) == n) = some n.toNat := by
  rw [Array.findIdx?_eq_some_iff_getElem]
  refine ⟨by omega, ?_, fun j hj => ?_⟩
  ·have := hborn n.toNat _ (Array.getElem?_eq_getElem (by omega))
   simp only [beq_iff_eq]; omega
  ·have := hborn j _ (Array.getElem?_eq_getElem (by omega))
   simp only [beq_iff_eq]; omega
 refine ⟨_, K, ?_, h.setMap hr hρ hb (es' := es.modify n.toNat (fun e => { e with val := a.eval v' })) (n := es.size) (born_modify hborn fun _ => rfl) ?_ (by simp), Up.refl _ _⟩
 ·simp [execOp, ho, Instr.entryStore, hmv, MapKept.run_getObj_map hb, hsr, asInt, run_asIntOf, hfind, MapKept.run_setObj_map _ hb, Result.andThen]
 ·have hfm := flatE_modify es.toList n.toNat (fun e => { e with val := a.eval v' }) (a.eval v') (fun e' he' => ⟨rfl, rfl⟩)
  rw [Array.toList_modify, hfm]
  exact RepL.set hrep hvr
theorem repl_rep {cell : AV} {z : Value} (h : Rep K cell z) : ∀ n, RepL K (List.replicate n cell) (List.replicate n z)
 | 0 => by simp [RepL]
 | n + 1 => by simp only [List.replicate_succ, RepL]; exact ⟨z, _, rfl, h, repl_rep h n⟩
mutual
theorem chkV_b : ∀ {x : AV} {v : Value}, chkV x v = true → x.refB = 0
 | .agg cs, v, h => by
   cases v <;> simp [chkV] at h
   simp only [AV.refB]; exact chkVs_b h
 | .d x, v, h => rfl
 | .nil, v, h => rfl
 | .own es, v, h => rfl
 | .ept cs off, v, h => rfl
 | .ptr r off, v, h => by cases v <;> simp [chkV] at h
 | .sref r off m, v, h => by cases v <;> simp [chkV] at h
 | .mp r, v, h => by cases v <;> simp [chkV] at h
 | .fn f a c, v, h => by cases v <;> simp [chkV] at h
 | .ifc t x, v, h => by cases v <;> simp [chkV] at h
 | .tup cs, v, h => by cases v <;> simp [chkV] at h
theorem chkVs_b : ∀ {l : List AV} {vs : List Value}, chkVs l vs = true → AV.refBs l = 0
 | [], _, _ => rfl
 | x :: l, vs, h => by
   cases vs <;> simp [chkVs] at h
   simp only [AV.refBs, chkV_b h.1, chkVs_b h.2]; rfl
end
theorem ok_mkS {cell : AV} {n : Opd} {n' c' : Operand} {t e : TypeId} {o : Oper} {i : TypeInfo} {z : Value} {k : IntKind} {m : Int} (ho : o.op = .makeSlice t n' c') (hnc : a.eval n' = a.eval c') (h : Sim E K s a.tmps w) (hw : WF E.rf0 s) (h1 : chkO n n' = true)
  (ht : elemT P t = some e) (hi : P.info? e = some i) (hz : i.zero = some z) (hs : i.size = 1) (hb1 : i.bytes ≤ 4096) (hc : chkVs [cell] z.cells.toList = true) (hsol : cell.solid = true) (hcb : AV.refBs [cell] = 0)
  (hx : getO s.sl n = some (.d (.int k m))) (h0 : 0 ≤ m) (hl : m ≤ lim) :
  OpOK P E K s a w o (.val (.sref s.rf.length 0 m.toNat) { s with rf := s.rf ++ [List.replicate m.toNat cell] }) := by
 have hr := rep_int (getO_rep h h1 hx)
 obtain ⟨x0, hzc⟩ : ∃ x0, z.cells = #[x0] := by
  have := chkVs_rep (K := K) _ _ hc
  simp only [RepL] at this
  obtain ⟨v, r, h1, _, h2⟩ := this
  subst h2
  exact ⟨v, by rw [← Array.toArray_toList (xs := z.cells), h1]⟩
 have hcz : Rep K cell x0 := by
  have := chkVs_rep (K := K) _ _ hc
  rw [hzc] at this
  simp only [RepL] at this
  obtain ⟨v, r, h1, h2, _⟩ := this
  cases h1; exact h2
 have hmade : (madeCells z.cells (m.toNat * i.size)).toList = List.replicate m.toNat x0 := by
  rw [hs, Nat.mul_one, hzc]
  apply List.ext_getElem?
  intro j
  simp [madeCells, List.getElem?_replicate]
  by_cases hj : j < m.toNat
  ·simp [hj, Nat.mod_one]; try omega
  ·simp [hj]; try omega
 have hmp : isMp (List.replicate m.toNat cell) = false := by
  cases m.toNat with
  | zero => rfl
  | succ n => cases cell <;> first | rfl | cases hsol
 have hno : ∀ x, x ∈ List.replicate m.toNat cell → ∀ es, x ≠ .own es := fun x hx es e => by
  rw [List.mem_replicate] at hx
  have := chkVs_no_own hc cell (by simp) es
  exact this (hx.2 ▸ e)
 have hsim := h.newRef (K' := K.bind s.rf.length w.heap.size) (cs := List.replicate m.toNat cell) (ob := .cells (madeCells z.cells (m.toNat * i.size)) e) hw (.cells _ _ hmp (by rw [hmade]; exact repl_rep hcz _))
  (by rw [refBs_rep (by simp only [AV.refBs] at hcb; omega)]; omega) hno rfl rfl (bind_up K s.rf.length w.heap.size).2 (by simp [Ctx.bind, updN])
 have hlim : m ≤ 17179869184 := by unfold lim at hl; omega
 have hby : (i.bytes : Int) * m ≤ 4096 * 17179869184 := Int.mul_le_mul (by omega) hlim h0 (by omega)
 have hrun := run_make (P := P) w t e i z (und_elem ht) hi hz k k m m h0 (Int.le_refl _) (by omega) (by omega)
 refine ⟨.slice (some ⟨w.heap.size, 0, none⟩) m.toNat m.toNat, _, _, ?_, hsim, ?_, fresh_of_not_own (fun es e => by cases e), bind_up _ _ _⟩
 ·simp only [execOp, ho, ← hnc, hr]
  rw [Sem.run_bind, hrun]
  rfl
 ·simp only [Rep]
  exact ⟨w.heap.size, _, _, by simp [Ctx.bind, updN], rfl, fun _ => rfl⟩
end
end Go.Ab
namespace Go.Ab
variable [Glb]
section
variable {P : Program} {E : Env} {K : Ctx} {s : St} {a : Act} {w : World}
theorem cok_of_chkO {x : Opd} {y : Operand} (h : chkO x y = true) : x.cok = true := by
 cases x <;> cases y <;> simp_all [chkO, Opd.cok]
def AOpk.quiet : AOpk → Bool
 | .call _ _ | .callZ _ _ | .callQ _ _ | .callO _ _ _ _ | .defer _ _ | .recover => false
 | _ => true
set_option maxHeartbeats 1600000 in
theorem step_ok {C : CallFn} {ao : AOpk} {o : Oper} {d : Did} (h : Sim E K s a.tmps w) (hw : WF E.rf0 s) (hc : chkOp P ao o = true) (hs : stepOp C s ao = some d) (hq : ao.quiet = true) : OpOK P E K s a w o d := by
 cases ao <;> simp only [AOpk.quiet, Bool.false_eq_true] at hq <;> simp only [chkOp] at hc <;> simp only [stepOp] at hs
 case mov x =>
  split at hc
  ·rename_i y ho
   exact ok_mov ho h hc hs
  ·simp at hc
 case take t =>
  split at hc
  ·rename_i u ho
   simp only [beq_iff_eq] at hc
   subst hc
   split at hs
   ·rename_i v hv
    simp only [Option.some.injEq] at hs; subst hs
    exact ok_raw (x := .t t) (y := .tmp t) (by simp [execOp, ho]) h (by simp [chkO]) hv
   ·simp at hs
  ·simp at hc
 case asg x =>
  split at hc
  ·rename_i y ho
   split at hs
   ·rename_i v hv
    simp only [Option.some.injEq] at hs; subst hs
    exact ok_raw (by simp [execOp, ho]) h hc hv
   ·simp at hs
  ·simp at hc
 case pick c x y =>
  split at hc
  ·rename_i c' x' y' ho
   simp only [Bool.and_eq_true] at hc
   split at hs
   ·rename_i t ht
    exact ok_pick ho h hc.1.1 hc.1.2 hc.2 ht hs
   ·simp at hs
  ·simp at hc
 case alloc cells =>
  split at hc
  ·rename_i t ho
   split at hc <;> first | exact absurd hc Bool.false_ne_true | skip
   rename_i z hz
   simp only [Bool.and_eq_true, beq_iff_eq] at hc
   simp only [Option.some.injEq] at hs; subst hs
   exact ok_alloc ho h hw hz hc.1 hc.2
  ·simp at hc
 case box x =>
  split at hc
  ·rename_i t y ho
   split at hs
   ·rename_i v hv
    split at hs
    ·rename_i hsol
     simp only [Option.some.injEq] at hs; subst hs
     exact ok_box ho h hw hc (cok_of_chkO hc) hv hsol.1 hsol.2
    ·simp at hs
   ·simp at hs
  ·simp at hc
 case build zero parts =>
  split at hc
  ·rename_i t ps ho
   split at hc
   ·rename_i z pl hz hp
    simp only [Bool.and_eq_true, beq_iff_eq] at hc
    obtain ⟨v, hv, rfl⟩ := vl_of hs
    simp only [Option.map_eq_some_iff] at hv
    obtain ⟨cs, hcs, rfl⟩ := hv
    exact ok_build ho h hz hp hc.1.1 hc.2 hcs
   ·simp at hc
  ·simp at hc
 case mkls sz zero parts =>
  split at hc
  ·rename_i t len ps ho
   split at hc <;> first | exact absurd hc Bool.false_ne_true | skip
   rename_i e he
   split at hc
   ·rename_i n z hn hz
    simp only [Bool.and_eq_true, beq_iff_eq, decide_eq_true_eq] at hc
    obtain ⟨⟨⟨⟨⟨⟨c1, c2⟩, c3⟩, c4⟩, c5⟩, c6⟩, c7⟩ := hc
    subst c1
    split at hs
    ·rename_i cs hcs
     split at hs
     ·rename_i ds hds
      split at hs
      ·obtain ⟨v, hv, rfl⟩ := vl_of hs
       simp only [Option.some.injEq] at hv; subst hv
       exact ok_mkls ho h he hn hz c3 c2 c4 c5 c7 hcs hds
      ·simp at hs
     ·simp at hs
    ·simp at hs
   ·simp at hc
  ·simp at hc
 case load agg x =>
  split at hc
  ·rename_i t y ho
   simp only [Bool.and_eq_true] at hc
   split at hs
   ·rename_i p hp
    exact ok_load ho h hc.2 hc.1 hp hs
   ·simp at hs
  ·simp at hc
 case loadB agg x b =>
  split at hc
  ·rename_i t y ho
   simp only [Bool.and_eq_true] at hc
   split at hs
   ·rename_i r off q off' hp hq'
    split at hs
    ·exact ok_load ho h hc.2 hc.1 hp hs
    ·simp at hs
   ·simp at hs
  ·simp at hc
 case storeW sz x v ws =>
  split at hc
  ·rename_i t x' v' ho
   simp only [Bool.and_eq_true, beq_iff_eq] at hc
   split at hs
   ·rename_i r off u hp hu
    split at hs
    ·split at hs
     ·rename_i rf hrf
      simp only [Option.some.injEq] at hs; subst hs
      exact ok_store ho h hc.1.2 hc.2 hc.1.1 hp hu hrf
     ·simp at hs
    ·simp at hs
   ·simp at hs
  ·simp at hc
 case takeload x =>
  split at hc
  ·rename_i t y ho
   simp only [Bool.and_eq_true] at hc
   split at hs
   ·rename_i r off hp
    split at hs
    ·rename_i v hv
     split at hs
     ·rename_i cs hcs
      simp only [Option.some.injEq] at hs; subst hs
      exact ok_takeload ho h hc.2 hc.1 hp hv hcs
     ·simp at hs
    ·simp at hs
   ·simp at hs
  ·simp at hc
 case recheck => simp at hs
 case store sz x v =>
  split at hc
  ·rename_i t x' v' ho
   simp only [Bool.and_eq_true, beq_iff_eq] at hc
   split at hs
   ·rename_i p u hp hu
    split at hs
    ·rename_i rf hrf
     simp only [Option.some.injEq] at hs; subst hs
     exact ok_store ho h hc.1.2 hc.2 hc.1.1 hp hu hrf
    ·simp at hs
   ·simp at hs
  ·simp at hc
 case nilchk x =>
  split at hc
  ·rename_i y ho
   split at hs
   ·rename_i r off hp
    obtain ⟨v, hv, rfl⟩ := vl_of hs
    simp only [Option.some.injEq] at hv; subst hv
    exact ok_nilchk ho h hc hp (.inl ⟨_, _, rfl⟩)
   ·rename_i cs off hp
    obtain ⟨v, hv, rfl⟩ := vl_of hs
    simp only [Option.some.injEq] at hv; subst hv
    exact ok_nilchk ho h hc hp (.inr (.inl ⟨_, _, rfl⟩))
   ·rename_i f x1 x2 hp
    split at hs
    ·obtain ⟨v, hv, rfl⟩ := vl_of hs
     simp only [Option.some.injEq] at hv; subst hv
     exact ok_nilchk ho h hc hp (.inr (.inr ⟨_, _, _, rfl⟩))
    ·simp at hs
   ·simp at hs
  ·simp at hc
 case bin op x y =>
  split at hc
  ·rename_i op' t x' y' yt ho
   simp only [Bool.and_eq_true, beq_iff_eq] at hc
   obtain ⟨⟨c1, c2⟩, c3⟩ := hc
   split at hs
   ·rename_i u v hu hv
    exact ok_bin (op := op) (by rw [ho, c1]) h c2 c3 hu hv hs
   ·simp at hs
  ·simp at hc
 case beq ne x y =>
  split at hc
  ·rename_i op' t x' y' yt ho
   simp only [Bool.and_eq_true, beq_iff_eq] at hc
   obtain ⟨⟨⟨c1, c2⟩, c3⟩, c4⟩ := hc
   have ht : P.underlying t = some .bool := by split at c4 <;> first | assumption | simp at c4
   split at hs
   ·rename_i b1 b2 hu hv
    obtain ⟨v, hv', rfl⟩ := vl_of hs
    simp only [Option.some.injEq] at hv'; subst hv'
    exact ok_beq ho c1 h c2 c3 ht hu hv
   ·simp at hs
  ·simp at hc
 case eqc ne ks x y =>
  split at hc
  ·rename_i op' t x' y' yt ho
   simp only [Bool.and_eq_true, beq_iff_eq] at hc
   obtain ⟨⟨⟨⟨⟨c1, c2⟩, c3⟩, c4⟩, c5⟩, c6⟩ := hc
   split at hs
   ·rename_i u v hu hv
    exact ok_eqc ho c1 h c2 c3 c4 c5 c6 hu hv hs
   ·simp at hs
  ·simp at hc
 case eqnil nk ne x =>
  split at hc
  ·rename_i op' t x' y' yt ho
   simp only [Bool.and_eq_true, beq_iff_eq, Bool.or_eq_true] at hc
   obtain ⟨⟨c1, c2⟩, c3⟩ := hc
   split at hs
   ·rename_i u hu
    exact ok_eqnil ho c1 h c2 c3 hu hs
   ·simp at hs
  ·simp at hc
 case un op x =>
  split at hc
  ·rename_i op' t y ho
   simp only [Bool.and_eq_true, beq_iff_eq] at hc
   split at hs
   ·rename_i u hu
    exact ok_un (op := op) (by rw [ho, hc.1]) h hc.2 hu hs
   ·simp at hs
  ·simp at hc
 case toInt k x =>
  split at hc
  ·rename_i s1 t y ho
   simp only [Bool.and_eq_true, beq_iff_eq] at hc
   split at hs
   ·rename_i k' n hu
    obtain ⟨v, hv, rfl⟩ := vl_of hs
    simp only [Option.some.injEq] at hv; subst hv
    exact ok_toInt ho h hc.2 hc.1.1 hc.1.2 hu
   ·simp at hs
  ·simp at hc
 case ident x =>
  split at hc
  ·rename_i s1 t y ho
   simp only [Bool.and_eq_true] at hc
   split at hs
   ·rename_i l hu
    obtain ⟨v, hv, rfl⟩ := vl_of hs
    simp only [Option.some.injEq] at hv; subst hv
    exact ok_ident ho h hc.2 hc.1.2 hc.1.1 hu
   ·simp at hs
  ·simp at hc
 case same x =>
  split at hc
  ·rename_i s1 t y ho
   simp only [Bool.and_eq_true, beq_iff_eq, Option.bind_eq_some_iff] at hc
   obtain ⟨⟨c1, e, c2, c3⟩, c4⟩ := hc
   split at hs
   ·rename_i e0 es hu
    simp only [Option.some.injEq] at hs; subst hs
    exact ok_same ho h c4 c1 (by rw [c1]; exact c2) c3 hu
   ·simp at hs
  ·simp at hc
 case strBytes x =>
  split at hc
  ·rename_i s1 t y ho
   simp only [Bool.and_eq_true, beq_iff_eq, Option.bind_eq_some_iff] at hc
   obtain ⟨⟨c1, e, c2, c3⟩, c4⟩ := hc
   split at hs
   ·rename_i hu
    obtain ⟨v, hv, rfl⟩ := vl_of hs
    simp only [Option.some.injEq] at hv; subst hv
    exact ok_strBytes ho h c4 c1 c2 c3 hu (by simp)
   ·rename_i c l hu
    obtain ⟨v, hv, rfl⟩ := vl_of hs
    simp only [Option.some.injEq] at hv; subst hv
    exact ok_strBytes ho h c4 c1 c2 c3 hu (by simp)
   ·simp at hs
  ·simp at hc
 case bytesStr x =>
  split at hc
  ·rename_i s1 t y ho
   simp only [Bool.and_eq_true, beq_iff_eq, Option.bind_eq_some_iff] at hc
   obtain ⟨⟨c1, e, c2, c3⟩, c4⟩ := hc
   split at hs
   ·rename_i v hu
    split at hs
    ·rename_i es hes
     obtain ⟨r, hr, rfl⟩ := vl_of hs
     simp only [Option.map_eq_some_iff] at hr
     obtain ⟨l, hl, rfl⟩ := hr
     exact ok_bytesStr ho h c4 c1 c2 c3 hu hes hl
    ·simp at hs
   ·simp at hs
  ·simp at hc
 case mkifc t x =>
  split at hc
  ·rename_i t' y ho
   simp only [Bool.and_eq_true, beq_iff_eq] at hc
   obtain ⟨⟨c1, c2⟩, c3⟩ := hc
   subst c1
   split at hs
   ·rename_i v hu
    obtain ⟨r, hr, rfl⟩ := vl_of hs
    simp only [Option.some.injEq] at hr; subst hr
    exact ok_mkifc ho h c2 c3 hu
   ·simp at hs
  ·simp at hc
 case mkfn f fi ca =>
  split at hc
  ·rename_i f' fi' ca' ho
   simp only [Bool.and_eq_true, beq_iff_eq] at hc
   obtain ⟨⟨⟨c1, c2⟩, c3⟩, _⟩ := hc
   have c1 := fnSame_eq c1
   subst c1
   split at hs
   ·rename_i u v hu hv
    obtain ⟨r, hr, rfl⟩ := vl_of hs
    simp only [Option.some.injEq] at hr; subst hr
    exact ok_mkfn ho h c2 c3 hu hv
   ·simp at hs
  ·simp at hc
 case sliceS x lo hi =>
  split at hc
  ·rename_i t x' lo' hi' mx ho
   simp only [Bool.and_eq_true, Option.isNone_iff_eq_none] at hc
   obtain ⟨⟨⟨⟨c1, c2⟩, c3⟩, c4⟩, c5⟩ := hc
   split at hs
   ·rename_i l hu
    split at hs
    ·rename_i i j e1 e2
     split at hs
     ·rename_i hij
      obtain ⟨r, hr, rfl⟩ := vl_of hs
      simp only [Option.some.injEq] at hr; subst hr
      exact ok_sliceStr (sz := 0) ho h c1 c2 c3 c4 c5 hu e1 e2 hij
     ·simp at hs
    ·simp at hs
   ·simp at hs
  ·simp at hc
 case slice sz x lo hi =>
  split at hc
  ·rename_i t x' lo' hi' mx ho
   simp only [Bool.and_eq_true, Option.isNone_iff_eq_none] at hc
   obtain ⟨⟨⟨⟨c1, c2⟩, c3⟩, c4⟩, c5⟩ := hc
   split at hs
   ·rename_i v hu
    split at hs
    ·rename_i l hl
     split at hs
     ·rename_i i j e1 e2
      split at hs
      ·rename_i hij
       obtain ⟨r, hr, rfl⟩ := vl_of hs
       simp only [Option.some.injEq] at hr; subst hr
       split at c5 <;> first | exact absurd c5 Bool.false_ne_true | skip
       rename_i e he
       simp only [Bool.and_eq_true, beq_iff_eq] at c5
       exact ok_sliceLst ho h c1 c2 c3 c4 he c5.1 hu hl e1 e2 ⟨hij.1, hij.2.1⟩ hij.2.2
      ·simp at hs
     ·simp at hs
    ·simp at hs
   ·simp at hs
  ·simp at hc
 case slArr n x lo hi =>
  split at hc
  ·rename_i t x' lo' hi' mx ho
   simp only [Bool.and_eq_true, Option.isNone_iff_eq_none] at hc
   obtain ⟨⟨⟨⟨c1, c2⟩, c3⟩, c4⟩, c5⟩ := hc
   split at c5 <;> first | exact absurd c5 Bool.false_ne_true | skip
   rename_i p1 p2 hp
   simp only [Bool.and_eq_true, beq_iff_eq] at c5
   obtain ⟨rfl, c6⟩ := c5
   split at hs
   ·rename_i r off hu
    split at hs
    ·rename_i i j e1 e2
     split at hs
     ·rename_i hij
      obtain ⟨q, hq', rfl⟩ := vl_of hs
      simp only [Option.some.injEq] at hq'; subst hq'
      exact ok_slArr ho h c1 c2 c3 c4 hp c6 hu e1 e2 hij
     ·simp at hs
    ·simp at hs
   ·simp at hs
  ·simp at hc
 case fldA off x =>
  split at hc
  ·rename_i t y f ho
   simp only [Bool.and_eq_true] at hc
   obtain ⟨c1, c2⟩ := hc
   split at c2
   ·rename_i fs hu
    cases hf : fs[f]? with
    | none => simp [hf] at c2
    | some g =>
      simp only [hf, Option.any_some, Bool.and_eq_true, beq_iff_eq] at c2
      obtain ⟨c2a, c3⟩ := c2
      split at c3 <;> first | exact absurd c3 Bool.false_ne_true | skip
      rename_i n hn
      simp only [decide_eq_true_eq] at c3
      split at hs
      ·rename_i r o' hx
       obtain ⟨q, hq', rfl⟩ := vl_of hs
       simp only [Option.some.injEq] at hq'; subst hq'
       exact ok_fldA ho h c1 hu hf c2a hn c3 hx (.inl ⟨_, _, rfl, rfl⟩)
      ·rename_i cs o' hx
       obtain ⟨q, hq', rfl⟩ := vl_of hs
       simp only [Option.some.injEq] at hq'; subst hq'
       exact ok_fldA ho h c1 hu hf c2a hn c3 hx (.inr ⟨_, _, rfl, rfl⟩)
      ·simp at hs
   ·simp at c2
  ·simp at hc
 case fld off agg x =>
  split at hc
  ·rename_i t y f ho
   simp only [Bool.and_eq_true] at hc
   obtain ⟨c1, c2⟩ := hc
   split at c2
   ·rename_i fs hu
    cases hf : fs[f]? with
    | none => simp [hf] at c2
    | some g =>
      simp only [hf, Option.any_some, Bool.and_eq_true, beq_iff_eq] at c2
      split at hs
      ·rename_i cs hx
       obtain ⟨q, hq', rfl⟩ := vl_of hs
       exact ok_fld ho h c1 hu hf c2.1 c2.2 hx hq'
      ·simp at hs
   ·simp at c2
  ·simp at hc
 case idxA arr sz x i =>
  split at hc
  ·rename_i t x' i' ho
   simp only [Bool.and_eq_true] at hc
   obtain ⟨⟨c1, c2⟩, c3⟩ := hc
   split at hs
   ·rename_i k m hi
    split at hs
    ·simp at hs
    ·rename_i hm
     split at hs
     ·rename_i n r off hx
      dsimp only at c3
      split at c3 <;> first | exact absurd c3 Bool.false_ne_true | skip
      rename_i p1 p2 hp
      simp only [Bool.and_eq_true, beq_iff_eq] at c3
      obtain ⟨rfl, c4⟩ := c3
      split at hs
      ·rename_i hlt
       obtain ⟨q, hq', rfl⟩ := vl_of hs
       simp only [Option.some.injEq] at hq'; subst hq'
       exact ok_idxAarr ho h c1 c2 hp c4 hi hm hlt hx (.inl ⟨_, _, rfl, rfl⟩)
      ·simp at hs
     ·rename_i n cs off hx
      dsimp only at c3
      split at c3 <;> first | exact absurd c3 Bool.false_ne_true | skip
      rename_i p1 p2 hp
      simp only [Bool.and_eq_true, beq_iff_eq] at c3
      obtain ⟨rfl, c4⟩ := c3
      split at hs
      ·rename_i hlt
       obtain ⟨q, hq', rfl⟩ := vl_of hs
       simp only [Option.some.injEq] at hq'; subst hq'
       exact ok_idxAarr ho h c1 c2 hp c4 hi hm hlt hx (.inr ⟨_, _, rfl, rfl⟩)
      ·simp at hs
     ·rename_i r off m' hx
      dsimp only at c3
      split at c3 <;> first | exact absurd c3 Bool.false_ne_true | skip
      rename_i e he
      simp only [Bool.and_eq_true, beq_iff_eq] at c3
      split at hs
      ·rename_i hlt
       obtain ⟨q, hq', rfl⟩ := vl_of hs
       simp only [Option.some.injEq] at hq'; subst hq'
       obtain ⟨hlt, rfl⟩ := hlt
       exact ok_idxAsref ho h c1 c2 he c3.1 hi hm hx hlt
      ·simp at hs
     ·rename_i v hx
      dsimp only at c3
      split at c3 <;> first | exact absurd c3 Bool.false_ne_true | skip
      rename_i e he
      simp only [Bool.and_eq_true, beq_iff_eq] at c3
      split at hs
      ·rename_i es hes
       split at hs
       ·rename_i cs hcs
        split at hs
        ·rename_i hlen
         obtain ⟨q, hq', rfl⟩ := vl_of hs
         simp only [Option.some.injEq] at hq'; subst hq'
         exact ok_idxAlst ho h c1 c2 he c3.1 hi hm hx hes hcs hlen
        ·simp at hs
       ·simp at hs
      ·simp at hs
     ·simp at hs
   ·simp at hs
  ·simp at hc
 case idxS x i =>
  split at hc
  ·rename_i t x' i' ho
   simp only [Bool.and_eq_true] at hc
   obtain ⟨⟨c1, c2⟩, c3⟩ := hc
   split at hs
   ·rename_i l k n hx hi
    split at hs
    ·simp at hs
    ·rename_i hn
     obtain ⟨q, hq', rfl⟩ := vl_of hs
     simp only [Option.map_eq_some_iff] at hq'
     obtain ⟨b, hb, rfl⟩ := hq'
     exact ok_idxS ho h c1 c2 c3 hx hi hn hb
   ·simp at hs
  ·simp at hc
 case idxV n sz agg x i =>
  split at hc
  ·rename_i t x' i' ho
   simp only [Bool.and_eq_true] at hc
   obtain ⟨⟨c1, c2⟩, c3⟩ := hc
   split at c3 <;> first | exact absurd c3 Bool.false_ne_true | skip
   rename_i p1 p2 hp
   simp only [Bool.and_eq_true, beq_iff_eq] at c3
   obtain ⟨⟨rfl, c4⟩, c5⟩ := c3
   split at hs
   ·rename_i cs k m hx hi
    split at hs
    ·simp at hs
    ·rename_i hm
     obtain ⟨q, hq', rfl⟩ := vl_of hs
     exact ok_idxV ho h c1 c2 hp c4 c5 hx hi hm hq'
   ·simp at hs
  ·simp at hc
 case assertT t zero x =>
  split at hc
  ·rename_i y xt t' ok ho
   simp only [Bool.and_eq_true, beq_iff_eq] at hc
   obtain ⟨⟨⟨⟨⟨c1, c2⟩, c3⟩, c4⟩, c5⟩, c6⟩ := hc
   subst c1 c2
   split at c6 <;> first | exact absurd c6 Bool.false_ne_true | skip
   rename_i z hz
   split at hs
   ·rename_i t'' v hx
    obtain ⟨q, hq', rfl⟩ := vl_of hs
    simp only [Option.some.injEq] at hq'
    exact ok_assertT ho h c3 c5 hz c6 hx (.inl ⟨t'', v, rfl, hq'.symm⟩)
   ·rename_i hx
    obtain ⟨q, hq', rfl⟩ := vl_of hs
    simp only [Option.some.injEq] at hq'
    exact ok_assertT ho h c3 c5 hz c6 hx (.inr ⟨rfl, hq'.symm⟩)
   ·simp at hs
  ·simp at hc
 case extr x i =>
  split at hc
  ·rename_i y j ho
   simp only [Bool.and_eq_true, beq_iff_eq] at hc
   obtain ⟨c1, rfl⟩ := hc
   split at hs
   ·rename_i vs hx
    exact ok_extr ho h c1 hx hs
   ·simp at hs
  ·simp at hc
 case lenS x =>
  split at hc
  ·rename_i c ho
   split at hc
   ·rename_i y t hb hx' ht
    simp only [Bool.and_eq_true] at hc
    obtain ⟨c1, c2⟩ := hc
    split at hs
    ·rename_i l hx
     obtain ⟨q, hq', rfl⟩ := vl_of hs
     simp only [Option.some.injEq] at hq'; subst hq'
     exact ok_len ho h hb hx' ht c1 hx (.inl ⟨c2, l, rfl, rfl⟩)
    ·simp at hs
   ·simp at hc
  ·simp at hc
 case len x =>
  split at hc
  ·rename_i c ho
   split at hc
   ·rename_i y t hb hx' ht
    simp only [Bool.and_eq_true] at hc
    obtain ⟨c1, c2⟩ := hc
    split at hs
    ·rename_i r o' m hx
     obtain ⟨q, hq', rfl⟩ := vl_of hs
     simp only [Option.some.injEq] at hq'; subst hq'
     exact ok_len ho h hb hx' ht c1 hx (.inr ⟨c2, .inl ⟨_, _, _, rfl, rfl⟩⟩)
    ·rename_i v hn1 hx
     obtain ⟨q, hq', rfl⟩ := vl_of hs
     simp only [Option.map_eq_some_iff] at hq'
     obtain ⟨l, hl, rfl⟩ := hq'
     exact ok_len ho h hb hx' ht c1 hx (.inr ⟨c2, .inr ⟨l, hl, rfl⟩⟩)
    ·simp at hs
   ·simp at hc
  ·simp at hc
 case lenArr n =>
  split at hc
  ·rename_i c ho
   split at hc
   ·rename_i y t hb hx' ht
    split at hc <;> first | exact absurd hc Bool.false_ne_true | skip
    rename_i p1 p2 hp
    simp only [beq_iff_eq] at hc
    subst hc
    obtain ⟨q, hq', rfl⟩ := vl_of hs
    simp only [Option.some.injEq] at hq'; subst hq'
    exact ok_lenArr ho h hb hx' ht (und_arr hp)
   ·simp at hc
  ·simp at hc
 case append sz x y =>
  split at hc
  ·rename_i c ho
   split at hc
   ·rename_i x' y' t u hb hx' ht
    simp only [Bool.and_eq_true, Bool.or_eq_true] at hc
    obtain ⟨⟨⟨c1, c2⟩, c3⟩, c4⟩ := hc
    split at c3 <;> first | exact absurd c3 Bool.false_ne_true | skip
    rename_i e he
    split at c3 <;> first | exact absurd c3 Bool.false_ne_true | skip
    rename_i i hi
    simp only [Bool.and_eq_true, beq_iff_eq, decide_eq_true_eq] at c3
    obtain ⟨⟨⟨c5, c6⟩, c7⟩, c8⟩ := c3
    split at c8 <;> first | exact absurd c8 Bool.false_ne_true | skip
    rename_i z hz
    simp only [beq_iff_eq] at c8
    have T : AppT P t u e i z sz := ⟨und_elem he, by
     rcases c4 with c4 | c4
     ·exact .inl (und_str c4)
     ·obtain ⟨e', he'⟩ := Option.isSome_iff_exists.1 c4
      exact .inr ⟨e', und_elem he'⟩, hi, hz, c5, c8, c6, c7⟩
    split at hs
    ·rename_i xv yv hx hy
     split at hs
     ·rename_i r hr
      simp only [Option.some.injEq] at hs; subst hs
      exact ok_append ho h hb hx' ht T c1 c2 hx hy hr
     ·simp at hs
    ·simp at hs
   ·simp at hc
  ·simp at hc
 case copy x y =>
  split at hc
  ·rename_i c ho
   split at hc
   ·rename_i x' y' t u hb hx' ht
    simp only [Bool.and_eq_true] at hc
    obtain ⟨⟨c1, c2⟩, c3⟩ := hc
    split at c3 <;> first | exact absurd c3 Bool.false_ne_true | skip
    rename_i e he
    simp only [beq_iff_eq] at c3
    split at hs
    ·rename_i r off n yv hx hy
     split at hs
     ·rename_i es cs hes hcs
      split at hs
      ·rename_i hfit
       simp only [Option.some.injEq] at hs; subst hs
       exact ok_copy ho h hb hx' ht he c3 c1 c2 hx hy hes hcs hfit.1 hfit.2
      ·simp at hs
     ·simp at hs
    ·simp at hs
   ·simp at hc
  ·simp at hc
 case min x y =>
  split at hc
  ·rename_i c ho
   split at hc
   ·rename_i x' y' hb hx'
    simp only [Bool.and_eq_true] at hc
    split at hs
    ·rename_i k m k' n hx hy
     split at hs
     ·rename_i hk
      subst hk
      obtain ⟨q, hq', rfl⟩ := vl_of hs
      simp only [Option.some.injEq] at hq'; subst hq'
      exact ok_minmax (mx := false) ho h (by simpa using hb) hx' hc.1 hc.2 hx hy
     ·simp at hs
    ·simp at hs
   ·simp at hc
  ·simp at hc
 case max x y =>
  split at hc
  ·rename_i c ho
   split at hc
   ·rename_i x' y' hb hx'
    simp only [Bool.and_eq_true] at hc
    split at hs
    ·rename_i k m k' n hx hy
     split at hs
     ·rename_i hk
      subst hk
      obtain ⟨q, hq', rfl⟩ := vl_of hs
      simp only [Option.some.injEq] at hq'; subst hq'
      exact ok_minmax (mx := true) ho h (by simpa using hb) hx' hc.1 hc.2 hx hy
     ·simp at hs
    ·simp at hs
   ·simp at hc
  ·simp at hc
 case panic x =>
  split at hc
  ·rename_i y ho
   split at hs
   ·rename_i t v hx
    simp only [Option.some.injEq] at hs; subst hs
    exact ok_panic ho h hc hx
   ·simp at hs
  ·simp at hc
 case stuck => cases hs
 case makeMap =>
  split at hc
  ·rename_i t ho
   simp only [Option.some.injEq] at hs; subst hs
   exact ok_makeMap ho h hw
  ·simp at hc
 case lookup pk ok zero m k =>
  split at hc
  ·rename_i t m' k' ok' ho
   simp only [Bool.and_eq_true, beq_iff_eq] at hc
   obtain ⟨⟨⟨rfl, c1⟩, c2⟩, c3⟩ := hc
   split at hs
   ·rename_i r x hm hk
    split at hs
    ·rename_i hx
     split at hs
     ·rename_i kvs hr
      split at hs
      ·rename_i i v hf
       obtain ⟨q, hq', rfl⟩ := vl_of hs
       simp only [Option.some.injEq] at hq'
       exact ok_lookup ho h c1 c2 c3 hm hk hx hr hf hq'.symm
      ·rename_i hf
       obtain ⟨q, hq', rfl⟩ := vl_of hs
       simp only [Option.some.injEq] at hq'
       exact ok_lookup ho h c1 c2 c3 hm hk hx hr hf hq'.symm
      ·simp at hs
     ·simp at hs
    ·simp at hs
   ·simp at hs
  ·simp at hc
 case mapSet pk m k v =>
  have key : ∀ t m' k' v', (o.op = .mapUpdate t m' k' v' ∨ o.op = .insert t m' k' v') → (chkO m m' && chkO k k' && chkO v v' && chkKey P pk t) = true → OpOK P E K s a w o d := fun t m' k' v' ho hc => by
   simp only [Bool.and_eq_true] at hc
   obtain ⟨⟨⟨c1, c2⟩, c3⟩, c4⟩ := hc
   split at hs
   ·rename_i r x u hm hk hv
    split at hs
    ·rename_i hx
     split at hs
     ·rename_i kvs hr
      split at hs
      ·rename_i i v hf
       simp only [Option.some.injEq] at hs; subst hs
       exact ok_mapSet ho h c1 c2 c3 c4 hm hk hv hx.1 hr hf rfl
      ·rename_i hf
       simp only [Option.some.injEq] at hs; subst hs
       exact ok_mapSet ho h c1 c2 c3 c4 hm hk hv hx.1 hr hf rfl
      ·simp at hs
     ·simp at hs
    ·simp at hs
   ·simp at hs
  split at hc
  ·rename_i t m' k' v' ho
   exact key t m' k' v' (.inl ho) hc
  ·rename_i t m' k' v' ho
   exact key t m' k' v' (.inr ho) hc
  ·simp at hc
 case mapEntry pk zero m k =>
  split at hc
  ·rename_i t m' k' ho
   simp only [Bool.and_eq_true] at hc
   obtain ⟨⟨c1, c2⟩, c3⟩ := hc
   split at hs
   ·rename_i r x hm hk
    split at hs
    ·rename_i hx
     split at hs
     ·rename_i kvs hr
      split at hs
      ·rename_i i v hf
       simp only [Option.some.injEq] at hs
       exact ok_mapEntry ho h c1 c2 c3 hm hk hx.1 hr hf hs.symm
      ·rename_i hf
       simp only [Option.some.injEq] at hs
       exact ok_mapEntry ho h c1 c2 c3 hm hk hx.1 hr hf hs.symm
      ·simp at hs
     ·simp at hs
    ·simp at hs
   ·simp at hs
  ·simp at hc
 case entrySet m st v =>
  split at hc
  ·rename_i t m' st' v' ho
   simp only [Bool.and_eq_true] at hc
   obtain ⟨⟨c1, c2⟩, c3⟩ := hc
   split at hs
   ·rename_i r k n u hm hst hv
    split at hs
    ·rename_i hn
     split at hs
     ·rename_i kvs hr
      split at hs
      ·rename_i hlt
       simp only [Option.some.injEq] at hs; subst hs
       exact ok_entrySet ho h c1 c2 c3 hm hst hv hn.1 hr hlt
      ·simp at hs
     ·simp at hs
    ·simp at hs
   ·simp at hs
  ·simp at hc
 case mkS cell n =>
  split at hc
  ·rename_i t n' c' ho
   simp only [Bool.and_eq_true] at hc
   obtain ⟨⟨c1, c1'⟩, c2⟩ := hc
   have hnc : a.eval n' = a.eval c' := by
    cases n <;> cases n' <;> cases c' <;> simp [chkO] at c1 c1'
    ·rw [← c1, ← c1']
    ·rename_i x v1 v2
     have h1 := chkV_rep (K := K) x v1 c1.1
     have h2 := chkV_rep (K := K) x v2 c1'.1
     split at hs
     ·rename_i kk mm hx
      simp only [getO, rawO, Option.map_some, Option.some.injEq] at hx
      cases x <;> simp [AV.strip] at hx
      subst hx
      simp only [Rep, RepD] at h1 h2
      simp [Act.eval, h1, h2]
     ·simp at hs
    ·rename_i f g1 g2
     simp [Act.eval, ← c1, ← c1']
   split at c2 <;> first | exact absurd c2 Bool.false_ne_true | skip
   rename_i e he
   split at c2 <;> first | exact absurd c2 Bool.false_ne_true | skip
   rename_i i hi
   simp only [Bool.and_eq_true, beq_iff_eq, decide_eq_true_eq] at c2
   obtain ⟨⟨⟨c3, c4⟩, c5⟩, c6⟩ := c2
   split at c6 <;> first | exact absurd c6 Bool.false_ne_true | skip
   rename_i z hz
   split at hs
   ·rename_i k m hx
    split at hs
    ·rename_i hm
     simp only [Option.some.injEq] at hs; subst hs
     exact ok_mkS ho hnc h hw c1 he hi hz c3 c5 c6 hm.2.2 (chkVs_b c6) hx hm.1 hm.2.1
    ·simp at hs
   ·simp at hs
  ·simp at hc
end
end Go.Ab
namespace Go.Ab
variable [Glb]
def Does (P : Program) (f : FuncId) (args : Array Value) (w : World) (R : Ending → World → Prop) : Prop :=
 match (callFunc f args).run P w with
 | .ok (.enter f' args') w' => Calls P f' args' w' R
 | .ok (.value v) w' => R (.returned v) w'
 | .ok (.row row args) w' => Rows P row args w' fun v w'' => R (.returned v) w''
 | _ => False
def Chain (pv : Value) (ch : List PanicEntry) : Prop :=
 ∃ older, ch = { v := pv, recovered := false, goexit := false } :: older ∧ ∀ e ∈ older, e.goexit = false
def CallRes (E : Env) (K : Ctx) (s : St) (tm : Array Value) (w : World) (out : Out) : Ending → Prop
 | .returned v => ∃ av, out = .ret av ∧ Rep K av v ∧ Fresh E K s tm w none av v
 | .panicked ch => ∃ av pv, out = .pan av ∧ Rep K av pv ∧ Chain pv ch
 | .outgrown => False
structure ArgsOK (E : Env) (K : Ctx) (s : St) (tm : Array Value) (w : World) (args : List AV) (vs : Array Value) : Prop where
 fresh : ∀ (i : Nat) es v, args[i]? = some (.own es) → vs[i]? = some v → Fresh E K s tm w none (.own es) v
 uniq : ∀ (i j : Nat) es es' v v' b, args[i]? = some (.own es) → args[j]? = some (.own es') → vs[i]? = some v → vs[j]? = some v' → blk v = some b → blk v' = some b → i = j
theorem argsOK_of {E : Env} {K : Ctx} {s : St} {tm : Array Value} {w : World} {args : List AV} {vs : Array Value} (h : ∀ x ∈ args, ∀ es, x ≠ .own es) : ArgsOK E K s tm w args vs :=
 ⟨fun i es v hi => absurd rfl (h _ (List.mem_of_getElem? hi) es), fun i j es es' v v' b hi => absurd rfl (h _ (List.mem_of_getElem? hi) es)⟩
def CallSound (P : Program) (C : CallFn) : Prop := ∀ f args rf out rf', C f args rf = some (out, rf') → ∀ (E : Env) (K : Ctx) (s : St) (tm : Array Value) (w : World) (vs : Array Value),
 s.rf = rf → Sim E K s tm w → WF E.rf0 s → AV.refBs args ≤ rf.length → ArgsOK E K s tm w args vs → RepL K args vs.toList →
 Does P f vs w fun e w' => ∃ K', Sim E K' { s with rf := rf' } tm w' ∧ Up rf.length K K' ∧ CallRes E K' { s with rf := rf' } tm w' out e
theorem bares_not_own : ∀ (l : List AV) (x : AV), x ∈ AV.bares l → ∀ es, x ≠ .own es
 | [], x, h => by simp [AV.bares] at h
 | y :: l, x, h => by
   simp only [AV.bares, List.mem_cons] at h
   rcases h with rfl | h
   ·intro es e
    cases y <;> simp [AV.bare] at e
   ·exact bares_not_own l x h
theorem bargs_not_own : ∀ (l : List AV) (x : AV), x ∈ AV.bargs l → ∀ es, x ≠ .own es
 | [], x, h => by simp [AV.bargs] at h
 | y :: l, x, h => by
   simp only [AV.bargs, List.mem_cons] at h
   rcases h with rfl | h
   ·intro es e
    cases y <;> simp [AV.barg, AV.bare] at e
   ·exact bargs_not_own l x h
def Did.st : Did → St
 | .val _ s => s
 | .none_ s => s
 | .pan _ s => s
def AOpk.plain : AOpk → Bool
 | .defer _ _ | .recover => false
 | _ => true
theorem unOwn_df (s : St) (x : Opd) : (unOwn s x).df = s.df ∧ (unOwn s x).pn = s.pn := by
 unfold unOwn
 split
 ·split <;> exact ⟨rfl, rfl⟩
 ·exact ⟨rfl, rfl⟩
theorem vl_st {s : St} {v : Option AV} {d : Did} (h : vl s v = some d) : d.st = s := by
 unfold vl at h
 simp only [Option.map_eq_some_iff] at h
 obtain ⟨_, _, rfl⟩ := h
 rfl
set_option maxHeartbeats 1000000 in
theorem stepOp_same {C : CallFn} {s : St} {o : AOpk} {d : Did} (h : stepOp C s o = some d) (ho : o.plain = true) : d.st.df = s.df ∧ d.st.pn = s.pn := by
 cases o <;> simp only [AOpk.plain, Bool.false_eq_true] at ho <;> simp only [stepOp] at h
 all_goals first
  | (rw [vl_st h]; exact ⟨rfl, rfl⟩)
  | (repeat' first
    | (rw [vl_st h]; exact ⟨rfl, rfl⟩)
    | (simp at h; done)
    | (simp only [Option.some.injEq] at h; subst h; simp [Did.st, unOwn_df]; done)
    | split at h)
theorem Fresh.none {E : Env} {K : Ctx} {s : St} {tm : Array Value} {w : World} {av : AV} {v : Value} (h : Fresh E K s tm w none av v) (d : Option Nat) : Fresh E K s tm w d av v :=
 fun es e => ⟨(h es e).1, fun b hb => ⟨((h es e).2 b hb).1, fun ℓ es' v' _ h' => ((h es e).2 b hb).2 ℓ es' v' (fun _ ht => by cases ht) h'⟩⟩
def Put1 (K : Ctx) (p : AV × List AV) (d : Deferred) : Prop :=
 ∃ id first cap vs cv av, p = (.fn (.func id) first cap, vs) ∧ d = { target := .fn (.func id) cv, args := av } ∧ RepL K cap cv.toList ∧ RepL K (first ++ vs) av.toList
def PutR (K : Ctx) : List (AV × List AV) → List Deferred → Prop
 | [], ds => ds = []
 | p :: r, ds => ∃ d rest, ds = d :: rest ∧ Put1 K p d ∧ PutR K r rest
theorem Put1.mono {K K' : Ctx} {n : Nat} (hu : Up n K K') {p : AV × List AV} {d : Deferred} (hb : p.1.refB ≤ n ∧ AV.refBs p.2 ≤ n) (h : Put1 K p d) : Put1 K' p d := by
 obtain ⟨id, first, cap, vs, cv, av, rfl, rfl, h1, h2⟩ := h
 simp only [AV.refB] at hb
 exact ⟨id, first, cap, vs, cv, av, rfl, rfl, RepL.mono hu.1 hu.2 _ _ (by omega) h1, RepL.mono hu.1 hu.2 _ _ (refBs_append_le (by omega) hb.2) h2⟩
theorem PutR.mono {K K' : Ctx} {n : Nat} (hu : Up n K K') : ∀ {l : List (AV × List AV)} {ds : List Deferred}, (∀ p, p ∈ l → p.1.refB ≤ n ∧ AV.refBs p.2 ≤ n) → PutR K l ds → PutR K' l ds
 | [], ds, _, h => h
 | p :: r, ds, hb, h => by
   obtain ⟨d, rest, rfl, h1, h2⟩ := h
   exact ⟨d, rest, rfl, h1.mono hu (hb p (by simp)), PutR.mono hu (fun q hq => hb q (by simp [hq])) h2⟩
structure Inv (E : Env) (K : Ctx) (s : St) (a : Act) (w : World) (N : Nat) : Prop where
 sim : Sim E K s a.tmps w
 wf : WF E.rf0 s
 df : PutR K s.df a.defers
 size : N ≤ a.tmps.size
def ExR (K : Ctx) : Ex → Exit → Prop
 | .nrm, .normal => True
 | .exit i, .exit j => i = j
 | .goto i, .goto j => i = j
 | .ret, .ret => True
 | .pan v, .panic ch => ∃ pv, Rep K v pv ∧ Chain pv ch
 | _, _ => False
def After (E : Env) (K : Ctx) (s : St) (a : Act) (dst : Option Nat) (next : Act → World → Prop) (Q : Exit → Act → World → Prop) : Did → Prop
 | .val v s' => ∀ pv w' K', Sim E K' s' a.tmps w' → Rep K' v pv → Fresh E K' s' a.tmps w' none v pv → Up s.rf.length K K' → next (a.put dst pv) w'
 | .none_ s' => ∀ w' K', Sim E K' s' a.tmps w' → Up s.rf.length K K' → next (a.put dst undef) w'
 | .pan v s' => ∀ pv ch w' K', Sim E K' s' a.tmps w' → Rep K' v pv → Chain pv ch → Up s.rf.length K K' → Q (.panic ch) a w'
section
variable {P : Program} {E : Env} {K : Ctx} {s : St} {a : Act} {w : World} {next : Act → World → Prop} {Q : Exit → Act → World → Prop}
theorem wp_of_ok {o : Oper} {d : Did} (hs : Sim E K s a.tmps w) (h : OpOK P E K s a w o d) (k : After E K s a o.dst next Q d) : o.wp P a w next Q := by
 unfold Oper.wp
 cases d with
 | val v s' =>
   obtain ⟨pv, w', K', hr, h1, h2, h3, h4⟩ := h
   rw [hr, Oper.upon_value]
   exact k pv w' K' h1 h2 h3 h4
 | none_ s' =>
   obtain ⟨w', K', hr, h1, h4⟩ := h
   rw [hr, Oper.upon_skip]
   exact k w' K' h1 h4
 | pan v s' =>
   obtain ⟨t, v', pv, rfl, rfl, hr, h1⟩ := h
   rw [hr, Oper.upon_panic]
   exact k pv _ w K hs h1 ⟨[], rfl, by simp⟩ (Up.refl _ _)
theorem upon_does {o : Oper} {f : FuncId} {args : Array Value} {R : Ending → World → Prop} (h : Does P f args w R)
  (hr : ∀ e w', R e w' → match e with
   | .returned v => next (a.put o.dst v) w'
   | .panicked ch => Q (.panic ch) a w'
   | .outgrown => False) : o.upon P a next Q ((callFunc f args).run P w) := by
 unfold Does at h
 split at h
 ·rename_i f' args' w' he
  rw [he, Oper.upon_enter]
  exact Calls.mono h fun e w'' hR => by
   have := hr e w'' hR
   cases e with
   | returned v => exact this
   | panicked ch => exact this
   | outgrown => exact this.elim
 ·rename_i v w' he
  rw [he, Oper.upon_value]
  exact hr (.returned v) w' h
 ·rename_i row args' w' he
  rw [he, Oper.upon_row]
  exact Rows.mono h fun v w'' hR => hr (.returned v) w'' hR
 ·exact h.elim
theorem exec_call {c : Call} {o : Oper} (ho : o.op = .call c) {f : Opd} {xs : List Opd} {id : FuncId} {first cap vs : List AV}
  (h : Sim E K s a.tmps w) (hc : (match c.callee with | .value g => chkO f g | _ => false) = true) (hx : chkOs xs c.args.toList = true)
  (hf : getO s.sl f = some (.fn (.func id) first cap)) (hv : getOs s.sl xs = some vs) :
  ∃ args : Array Value, (execOp a.eval o).run P w = (callFunc id args).run P w ∧ RepL K (AV.bargs (first ++ vs ++ cap)) args.toList := by
 cases hcl : c.callee with
 | value g =>
   rw [hcl] at hc
   have hF := getO_rep h hc hf
   simp only [Rep] at hF
   obtain ⟨va, vc, hF, h1, h2⟩ := hF
   have h3 := getOs_rep h hx hv
   refine ⟨va ++ c.args.map a.eval ++ vc, ?_, ?_⟩
   ·simp only [execOp, ho, resolve, hcl, hF, Deferred.ofValue, Sem.run_bind, Sem.run_pure, Result.andThen_ok, invoke]
   ·apply RepL.bargs
    simp only [Array.toList_append, Array.toList_map]
    exact RepL.append (RepL.append h1 h3) h2
 | builtin b => rw [hcl] at hc; simp at hc
 | invoke r m => rw [hcl] at hc; simp at hc
theorem chkOs_append : ∀ {l1 l2 : List Opd} {m : List Operand}, chkOs (l1 ++ l2) m = true → ∃ m1 m2, m = m1 ++ m2 ∧ m1.length = l1.length ∧ chkOs l1 m1 = true ∧ chkOs l2 m2 = true
 | [], l2, m, h => ⟨[], m, rfl, rfl, rfl, h⟩
 | x :: l1, l2, m, h => by
   cases m with
   | nil => simp [chkOs] at h
   | cons y m =>
     simp only [List.cons_append, chkOs, Bool.and_eq_true] at h
     obtain ⟨m1, m2, rfl, h1, h2, h3⟩ := chkOs_append h.2
     exact ⟨y :: m1, m2, rfl, by simp [h1], by simp [chkOs, h.1, h2], h3⟩
theorem exec_callO {c : Call} {o : Oper} (ho : o.op = .call c) {f x : Opd} {pre post : List Opd} {id : FuncId} {first cap vs ws : List AV} {xv : AV}
  (h : Sim E K s a.tmps w) (hc : (match c.callee with | .value g => chkO f g | _ => false) = true) (hx : chkOs (pre ++ x :: post) c.args.toList = true)
  (hf : getO s.sl f = some (.fn (.func id) first cap)) (hv : getOs s.sl pre = some vs) (hxo : rawO s.sl x = some xv) (hw : getOs s.sl post = some ws) :
  ∃ args : Array Value, (execOp a.eval o).run P w = (callFunc id args).run P w ∧ RepL K (AV.bargs (first ++ vs) ++ xv :: AV.bargs (ws ++ cap)) args.toList ∧
   ArgsOK E K (unOwn s x) a.tmps w (AV.bargs (first ++ vs) ++ xv :: AV.bargs (ws ++ cap)) args := by
 cases hcl : c.callee with
 | value g =>
   rw [hcl] at hc
   have hF := getO_rep h hc hf
   simp only [Rep] at hF
   obtain ⟨va, vc, hF, h1, h2⟩ := hF
   obtain ⟨m1, m2, hm, hml, hc1, hc2⟩ := chkOs_append hx
   cases m2 with
   | nil => simp [chkOs] at hc2
   | cons y m2 =>
     simp only [chkOs, Bool.and_eq_true] at hc2
     have h3 := getOs_rep h hc1 hv
     have h4 := getOs_rep h hc2.2 hw
     have h5 := rawO_rep h hc2.1 hxo
     have hrep : RepL K (AV.bargs (first ++ vs) ++ xv :: AV.bargs (ws ++ cap)) ((va.toList ++ m1.map a.eval) ++ a.eval y :: (m2.map a.eval ++ vc.toList)) := by
      refine RepL.append (RepL.bargs _ _ (RepL.append h1 h3)) ?_
      simp only [RepL]
      exact ⟨_, _, rfl, h5, RepL.bargs _ _ (RepL.append h4 h2)⟩
     have hargs : (va ++ c.args.map a.eval ++ vc).toList = (va.toList ++ m1.map a.eval) ++ a.eval y :: (m2.map a.eval ++ vc.toList) := by
      simp [hm]
     have hfresh : Fresh E K (unOwn s x) a.tmps w none xv (a.eval y) := by
      cases x with
      | t n =>
        cases y <;> simp [chkO] at hc2
        rw [← hc2.1]
        exact h.fresh_raw hxo none
      | c av =>
        cases y <;> simp [chkO] at hc2
        simp only [rawO, Option.some.injEq] at hxo
        subst hxo
        refine fresh_of_not_own fun es e => ?_
        subst e
        exact absurd hc2.1.1 (by unfold chkV; simp)
      | f id =>
        simp only [rawO, Option.some.injEq] at hxo
        subst hxo
        exact fresh_of_not_own fun es e => by cases e
     have hlen : (AV.bargs (first ++ vs)).length = (va.toList ++ m1.map a.eval).length := (RepL.bargs _ _ (RepL.append h1 h3)).length.symm
     have hat : ∀ (i : Nat) es', (AV.bargs (first ++ vs) ++ xv :: AV.bargs (ws ++ cap))[i]? = some (.own es') → i = (AV.bargs (first ++ vs)).length ∧ xv = .own es' := fun i es' hi => by
      by_cases h1 : i < (AV.bargs (first ++ vs)).length
      ·rw [List.getElem?_append_left h1] at hi
       exact absurd rfl (bargs_not_own _ _ (List.mem_of_getElem? hi) es')
      ·rw [List.getElem?_append_right (by omega)] at hi
       cases hk : i - (AV.bargs (first ++ vs)).length with
       | zero =>
         rw [hk] at hi
         simp only [List.getElem?_cons_zero, Option.some.injEq] at hi
         exact ⟨by omega, hi⟩
       | succ k =>
         rw [hk] at hi
         simp only [List.getElem?_cons_succ] at hi
         exact absurd rfl (bargs_not_own _ _ (List.mem_of_getElem? hi) es')
     refine ⟨va ++ c.args.map a.eval ++ vc, ?_, by rw [hargs]; exact hrep, fun i es' v hi hv => ?_, fun i j es1 es2 v v' b hi hj _ _ _ _ => by rw [(hat i es1 hi).1, (hat j es2 hj).1]⟩
     ·simp only [execOp, ho, resolve, hcl, hF, Deferred.ofValue, Sem.run_bind, Sem.run_pure, Result.andThen_ok, invoke]
     ·obtain ⟨rfl, rfl⟩ := hat i es' hi
      have : v = a.eval y := by
       rw [← Array.getElem?_toList, hargs, hlen, List.getElem?_append_right (Nat.le_refl _)] at hv
       simpa using hv.symm
      subst this
      exact hfresh
 | builtin b => rw [hcl] at hc; simp at hc
 | invoke r m => rw [hcl] at hc; simp at hc
end
end Go.Ab
namespace Go.Ab
variable [Glb]
theorem blk_lt {E : Env} {K : Ctx} {s : St} {tm : Array Value} {w : World} (h : Sim E K s tm w) {ℓ : Loc} {es : List (List D)} {v : Value} (hh : holds K s tm w ℓ (.own es) v) {b : Nat} (hb : blk v = some b) :
  b < w.heap.size ∧ ∃ f, K.F b = some f := by
 have := h.own ℓ es v hh
 cases es with
 | nil =>
   obtain ⟨a, rfl⟩ := this
   cases a <;> simp [blk] at hb
 | cons e r =>
   obtain ⟨b', o, n, c, el, fz, hv, hn, hf, hh', hs, hr⟩ := this
   rw [hv] at hb
   simp only [blk, Option.some.injEq] at hb
   subst hb
   exact ⟨heap_lt hh', _, hf⟩
theorem OwnV.kept {K K' : Ctx} {w w' : World} {es : List (List D)} {v : Value} (h : OwnV K w es v) (hG : Le K.G K'.G)
  (hk : ∀ b, blk v = some b → w'.heap[b]? = w.heap[b]? ∧ K'.F b = K.F b) : OwnV K' w' es v :=
 h.mono hG (fun b f hf hb => by rw [(hk b hb).2]; exact hf) (fun b hb c el fz hc => ⟨c, by rw [(hk b hb).1]; exact hc, rfl⟩)
theorem holds_frame {E : Env} {K : Ctx} {s : St} {tm : Array Value} {w : World} (h : Sim E K s tm w) {K' : Ctx} {w' : World} (hb : ∀ b, b < w.heap.size → w'.heap[b]? = w.heap[b]?) (hρ : K'.ρ = K.ρ) {ℓ : Loc} {av : AV} {v : Value}
  (h' : holds K' s tm w' ℓ av v) : holds K s tm w ℓ av v := by
 cases ℓ with
 | sl t => exact h'
 | rf r i =>
   obtain ⟨cs', β, h1, h2, h3, h4⟩ := h'
   rw [hρ] at h3
   obtain ⟨b', o', g1, g2, _⟩ := h.refs r cs' h1
   rw [h3] at g1
   cases g1
   refine ⟨cs', β, h1, h2, h3, ?_⟩
   rw [← h4]
   exact (World.cell?_of_block (hb β (heap_lt g2))).symm
theorem Sim.frame {E : Env} {K : Ctx} {s : St} {tm : Array Value} {w : World} (h : Sim E K s tm w) (hw : WF E.rf0 s) {K' : Ctx} {w' : World}
  (hsz : w.heap.size ≤ w'.heap.size) (hos : w'.os = w.os) (htape : w'.tape = w.tape) (hout : w'.output = w.output)
  (hb : ∀ b, b < w.heap.size → w'.heap[b]? = w.heap[b]? ∧ K'.F b = K.F b ∧ ∀ o, K'.G b o = K.G b o) (hle : Le K.G K'.G) (hρ : K'.ρ = K.ρ)
  (hcells : ∀ b o v, K'.G b o = some v → w'.cell? ⟨b, o, none⟩ = some v)
  (hrows : ∀ b f, K'.F b = some f → (∃ c el fz, w'.heap[b]? = some (.cells c el fz) ∧ (fz.1 = fz.2 ∨ c.size ≤ fz.1)) ∧ ∀ o, f ≤ o → K'.G b o = none) : Sim E K' s tm w' := by
 have hup : ∀ r, r < s.rf.length → K.ρ r = K'.ρ r := fun r _ => by rw [hρ]
 have hbl : ∀ r b, r < s.rf.length → K.ρ r = some b → b < w.heap.size := fun r b hr hb => by
  obtain ⟨cs, hcs⟩ : ∃ cs, s.rf[r]? = some cs := ⟨_, List.getElem?_eq_getElem hr⟩
  obtain ⟨b', o', h1, h2, _⟩ := h.refs r cs hcs
  rw [h1] at hb
  cases hb
  exact heap_lt h2
 have hh : ∀ ℓ es v, holds K' s tm w' ℓ (.own es) v → holds K s tm w ℓ (.own es) v := fun ℓ es v h' => by
  cases ℓ with
  | sl t => exact h'
  | rf r i =>
    obtain ⟨cs', β, h1, h2, h3, h4⟩ := h'
    rw [hρ] at h3
    have := hbl r β (List.getElem?_eq_some_iff.1 h1).1 h3
    refine ⟨cs', β, h1, h2, h3, ?_⟩
    rw [← h4]
    exact (World.cell?_of_block (hb β this).1).symm
 refine ⟨Nat.le_trans h.size hsz, hos.trans h.os, htape.trans h.tape, hout.trans h.output, fun b hb' hT => ?_, h.gle.trans hle, fun r hr => by rw [hρ]; exact h.rho r hr, hcells, fun r cs hr => ?_,
  fun r b hr hb' => ?_, fun r r' b hr hr' h1 h2 => h.inj r r' b hr hr' (by rw [← hρ]; exact h1) (by rw [← hρ]; exact h2), hrows, fun t av ha => ⟨(h.slots t av ha).1, Rep.mono hle hup _ _ (hw.sb t av ha) (h.slots t av ha).2⟩,
  fun ℓ es v h1 => ?_, fun ℓ ℓ' es es' v v' b h1 h2 => h.uniq ℓ ℓ' es es' v v' b (hh _ _ _ h1) (hh _ _ _ h2), fun ℓ es v b h1 => h.tO ℓ es v b (hh _ _ _ h1), fun r b hr hb' => h.tR r b hr (by rw [← hρ]; exact hb')⟩
 ·have h1 := h.keep b hb' hT
  have h2 := hb b (Nat.lt_of_lt_of_le hb' h.size)
  exact ⟨h2.1.trans h1.1, h2.2.1.trans h1.2.1, fun o => (h2.2.2 o).trans (h1.2.2 o)⟩
 ·obtain ⟨b, o', h1, h2, h3⟩ := h.refs r cs hr
  exact ⟨b, o', by rw [hρ]; exact h1, by rw [(hb b (heap_lt h2)).1]; exact h2, h3.mono hle hup (hw.rb.get hr)⟩
 ·rw [hρ] at hb'
  have h1 := h.refG r b hr hb'
  have h2 := hb b (hbl r b hr hb')
  exact ⟨h2.2.1.trans h1.1, fun o => (h2.2.2 o).trans (h1.2 o)⟩
 ·have h2 := hh _ _ _ h1
  refine (h.own ℓ es v h2).kept hle fun b hb' => ?_
  have h3 := hb b (blk_lt h h2 hb').1
  exact ⟨h3.1, h3.2.1⟩
def St.blank : St := { sl := [], rf := [] }
theorem Sim.blank {E : Env} {K : Ctx} {s : St} {tm : Array Value} {w : World} (h : Sim E K s tm w) : Sim ⟨w, K, [], fun _ => False⟩ K St.blank #[] w := by
 have hno : ∀ ℓ es v, ¬ holds K St.blank #[] w ℓ (.own es) v := fun ℓ es v hh => by
  cases ℓ with
  | sl t => simp [holds, St.blank, Slots.get] at hh
  | rf r i => simp [holds, St.blank] at hh
 exact ⟨Nat.le_refl _, rfl, rfl, rfl, fun b _ _ => ⟨rfl, rfl, fun _ => rfl⟩, ⟨Le.refl _, h.gle.g⟩, fun r hr => by simp at hr, h.cells, fun r cs hr => by simp [St.blank] at hr, fun r b hr => by simp [St.blank] at hr,
  fun r r' b hr => by simp [St.blank] at hr, h.rows, fun t av ht => by simp [St.blank, Slots.get] at ht, fun ℓ es v hh => absurd hh (hno _ _ _), fun ℓ _ es _ v _ b hh => absurd hh (hno _ _ _),
  fun ℓ es v b hh => absurd hh (hno _ _ _), fun r b hr => by simp [St.blank] at hr⟩
theorem blank_wf : WF [] St.blank :=
 ⟨rfl, by simp, fun n v h => by simp [St.blank, Slots.get] at h, fun r cs h => by simp [St.blank] at h, fun m _ _ r cs _ h => by simp [St.blank] at h, fun p h => by simp [St.blank] at h, fun v h => by simp [St.blank] at h⟩
section
variable {P : Program} {E : Env} {K : Ctx} {s : St} {a : Act} {w : World} {next : Act → World → Prop} {Q : Exit → Act → World → Prop} {C : CallFn}
theorem wp_call (hC : CallSound P C) {o : Oper} {f : Opd} {xs : List Opd} {d : Did} (h : Sim E K s a.tmps w) (hw : WF E.rf0 s) (hc : chkOp P (.call f xs) o = true)
  (hk : (AOpk.call f xs).cok = true) (hs : stepOp C s (.call f xs) = some d) (k : After E K s a o.dst next Q d) : o.wp P a w next Q := by
 simp only [chkOp] at hc
 split at hc
 ·rename_i c ho
  rw [Bool.and_eq_true] at hc
  simp only [stepOp] at hs
  split at hs
  ·rename_i id first cap vs hf hvs
   obtain ⟨args, he, hr⟩ := exec_call (P := P) ho h hc.1 hc.2 hf hvs
   unfold Oper.wp
   rw [he]
   simp only [AOpk.cok, Bool.and_eq_true] at hk
   have hb := getO_b hw hk.1 hf
   have hb2 := getOs_b hw hk.2 hvs
   simp only [AV.refB] at hb
   have hargs : AV.refBs (AV.bargs (first ++ vs ++ cap)) ≤ s.rf.length := by
    rw [refBs_bargs]; exact refBs_append_le (refBs_append_le (by omega) hb2) (by omega)
   have key : ∀ out rf', C id (AV.bargs (first ++ vs ++ cap)) s.rf = some (out, rf') → Does P id args w fun e w' => ∃ K', Sim E K' { s with rf := rf' } a.tmps w' ∧ Up s.rf.length K K' ∧ CallRes E K' { s with rf := rf' } a.tmps w' out e :=
    fun out rf' hcall => hC _ _ _ _ _ hcall E K s a.tmps w args rfl h hw hargs (argsOK_of (bargs_not_own _)) hr
   split at hs
   ·rename_i v rf hcall
    simp only [Option.some.injEq] at hs; subst hs
    refine upon_does (key _ _ hcall) fun e w' hR => ?_
    obtain ⟨K', h1, h2, h3⟩ := hR
    cases e with
    | returned u =>
      obtain ⟨av, e1, h4, h5⟩ := h3
      cases e1
      exact k u w' K' h1 h4 h5 h2
    | panicked ch => obtain ⟨av, pv, e1, _⟩ := h3; cases e1
    | outgrown => exact h3
   ·rename_i v rf hcall
    simp only [Option.some.injEq] at hs; subst hs
    refine upon_does (key _ _ hcall) fun e w' hR => ?_
    obtain ⟨K', h1, h2, h3⟩ := hR
    cases e with
    | returned u => obtain ⟨av, e1, _⟩ := h3; cases e1
    | panicked ch =>
      obtain ⟨av, pv, e1, h4, h5⟩ := h3
      cases e1
      exact k pv ch w' K' h1 h4 h5 h2
    | outgrown => exact h3
   ·simp at hs
  ·simp at hs
 ·simp at hc
theorem wp_callQ (hC : CallSound P C) {o : Oper} {f : Opd} {xs : List Opd} {d : Did} (h : Sim E K s a.tmps w) (hw : WF E.rf0 s) (hc : chkOp P (.callQ f xs) o = true)
  (hk : (AOpk.callQ f xs).cok = true) (hs : stepOp C s (.callQ f xs) = some d) (k : After E K s a o.dst next Q d) : o.wp P a w next Q := by
 refine wp_call (f := f) (xs := xs) (d := d) hC h hw hc hk ?_ k
 simp only [stepOp] at hs ⊢
 split at hs
 ·rename_i id first cap vs hf hvs
  split at hs
  ·rename_i v rf hcall
   split at hs
   ·rename_i hsame
    simp only [Option.some.injEq] at hs; subst hs
    have := sameRf_eq _ _ hsame
    subst this
    simp only [hcall]
   ·simp at hs
  ·simp at hs
 ·simp at hs
theorem wp_callZ (hC : CallSound P C) {o : Oper} {f : Opd} {xs : List Opd} {d : Did} (h : Sim E K s a.tmps w) (hw : WF E.rf0 s) (hc : chkOp P (.callZ f xs) o = true)
  (hs : stepOp C s (.callZ f xs) = some d) (k : After E K s a o.dst next Q d) (hCW : CallWF C) : o.wp P a w next Q := by
 simp only [chkOp] at hc
 split at hc
 ·rename_i c ho
  rw [Bool.and_eq_true] at hc
  simp only [stepOp] at hs
  split at hs
  ·rename_i id first cap vs hf hvs
   obtain ⟨args, he, hr⟩ := exec_call (P := P) ho h hc.1 hc.2 hf hvs
   unfold Oper.wp
   rw [he]
   split at hs
   ·rename_i hz
    split at hs
    ·rename_i v rf hcall
     split at hs
     case isFalse => simp at hs
     rename_i hvz
     simp only [Option.some.injEq] at hs; subst hs
     refine upon_does (hC _ _ _ _ _ hcall _ K St.blank #[] w args rfl h.blank blank_wf (by rw [hz]; exact Nat.le_refl _) (argsOK_of (bargs_not_own _)) hr) fun e w' hR => ?_
     obtain ⟨K', h1, h2, h3⟩ := hR
     cases e with
     | returned u =>
       obtain ⟨av, e1, h4, h5⟩ := h3
       cases e1
       have hb : v.refB ≤ 0 := Nat.le_of_eq hvz
       have hkeep : ∀ b, b < w.heap.size → w'.heap[b]? = w.heap[b]? := fun b hb => (h1.keep b hb (fun hf => hf)).1
       let K'' : Ctx := ⟨K'.G, K'.F, K.ρ⟩
       have hsim : Sim E K'' s a.tmps w' := h.frame hw h1.size h1.os h1.tape h1.output (fun b hb => h1.keep b hb (fun hf => hf)) h1.gle.le rfl h1.cells h1.rows
       refine k u w' K'' hsim (Rep.mono (K := K') (K' := K'') (n := 0) (Le.refl _) (fun r hr => by omega) _ _ hb h4) (fun es e => ?_) ⟨h1.gle.le, fun r _ => rfl⟩
       obtain ⟨f1, f2⟩ := h5 es e
       refine ⟨f1.mono (K' := K'') (Le.refl _) (fun b f hf _ => hf) (fun b _ c el fz hc => ⟨c, hc, rfl⟩), fun b hb => ?_⟩
       have hge : ¬ b < w.heap.size := fun hlt => (f2 b hb).1 hlt
       refine ⟨fun hlt => absurd (Nat.lt_of_lt_of_le hlt h.size) hge, fun ℓ es' v' _ hh hb' => hge (blk_lt h (holds_frame h hkeep rfl hh) hb').1⟩
     | panicked ch => obtain ⟨av, pv, e1, _⟩ := h3; cases e1
     | outgrown => exact h3
    ·simp at hs
   ·simp at hs
  ·simp at hs
 ·simp at hc
theorem wp_callO (hC : CallSound P C) {o : Oper} {f x : Opd} {pre post : List Opd} {d : Did} (h : Sim E K s a.tmps w) (hw : WF E.rf0 s) (hc : chkOp P (.callO f pre x post) o = true)
  (hk : (AOpk.callO f pre x post).cok = true) (hs : stepOp C s (.callO f pre x post) = some d) (k : After E K s a o.dst next Q d) : o.wp P a w next Q := by
 simp only [chkOp] at hc
 split at hc
 ·rename_i c ho
  rw [Bool.and_eq_true] at hc
  simp only [stepOp] at hs
  split at hs
  ·rename_i id first cap vs xv ws hf hvs hx hws
   obtain ⟨args, he, hr, hao⟩ := exec_callO (P := P) ho h hc.1 hc.2 hf hvs hx hws
   unfold Oper.wp
   rw [he]
   simp only [AOpk.cok, Bool.and_eq_true] at hk
   have hb := getO_b hw hk.1.1.1 hf
   have hb2 := getOs_b hw hk.1.1.2 hvs
   have hb3 := getOs_b hw hk.2 hws
   simp only [AV.refB] at hb
   have hargs := argsO_b (x := xv) (show AV.refBs first ≤ s.rf.length by omega) hb2 (rawO_b hw hk.1.2 hx) hb3 (show AV.refBs cap ≤ s.rf.length by omega)
   have key : ∀ out rf', C id (AV.bargs (first ++ vs) ++ xv :: AV.bargs (ws ++ cap)) s.rf = some (out, rf') → Does P id args w fun e w' => ∃ K', Sim E K' (unOwn { s with rf := rf' } x) a.tmps w' ∧ Up s.rf.length K K' ∧ CallRes E K' (unOwn { s with rf := rf' } x) a.tmps w' out e :=
    fun out rf' hcall => by
     rw [unOwn_set]
     have := hC _ _ _ _ _ hcall E K (unOwn s x) a.tmps w args (by rw [unOwn_rf]) (h.unOwn x) (hw.unOwn x) hargs hao hr
     exact this
   split at hs
   ·rename_i v rf hcall
    simp only [Option.some.injEq] at hs; subst hs
    refine upon_does (key _ _ hcall) fun e w' hR => ?_
    obtain ⟨K', h1, h2, h3⟩ := hR
    cases e with
    | returned u =>
      obtain ⟨av, e1, h4, h5⟩ := h3
      cases e1
      exact k u w' K' h1 h4 h5 h2
    | panicked ch => obtain ⟨av, pv, e1, _⟩ := h3; cases e1
    | outgrown => exact h3
   ·rename_i v rf hcall
    simp only [Option.some.injEq] at hs; subst hs
    refine upon_does (key _ _ hcall) fun e w' hR => ?_
    obtain ⟨K', h1, h2, h3⟩ := hR
    cases e with
    | returned u => obtain ⟨av, e1, _⟩ := h3; cases e1
    | panicked ch =>
      obtain ⟨av, pv, e1, h4, h5⟩ := h3
      cases e1
      exact k pv ch w' K' h1 h4 h5 h2
    | outgrown => exact h3
   ·simp at hs
  ·simp at hs
 ·simp at hc
end
end Go.Ab
namespace Go.Ab
variable [Glb]
def AOpk.voids : AOpk → Bool
 | .store _ _ _ | .storeW _ _ _ _ | .defer _ _ | .mapSet _ _ _ _ | .entrySet _ _ _ => true
 | _ => false
def AOpk.isRec : AOpk → Bool
 | .recover => true
 | _ => false
def chkGuard (ops : Array Oper) : Option (Nat × Bool) → Option (Nat × Bool) → Bool
 | none, none => true
 | some (t, b), some (j, b') => b == b' && ((ops[j]?).bind (·.dst)) == some t
 | _, _ => false
def chk1 (P : Program) (N : Nat) (ops : Array Oper) (ao : AOp) (o : Oper) : Bool :=
 chkOp P ao.op o && ao.op.cok && !ao.op.isRec && ao.dst == o.dst && (match ao.dst with | some d => decide (d < N) && !ao.op.voids | none => true) && chkGuard ops ao.guard o.guard
def chkL (P : Program) (N : Nat) (ops : Array Oper) : List AOp → List Oper → Bool
 | [], [] => true
 | x :: l, o :: m => chk1 P N ops x o && chkL P N ops l m
 | _, _ => false
theorem chkL_get {P : Program} {N : Nat} {ops : Array Oper} : ∀ {l : List AOp} {m : List Oper}, chkL P N ops l m = true → ∀ i : Nat, (l[i]? = none ∧ m[i]? = none) ∨ ∃ x o, l[i]? = some x ∧ m[i]? = some o ∧ chk1 P N ops x o = true
 | [], [], _, i => .inl ⟨by simp, by simp⟩
 | [], _ :: _, h, i => by simp [chkL] at h
 | _ :: _, [], h, i => by simp [chkL] at h
 | x :: l, o :: m, h, i => by
   simp only [chkL, Bool.and_eq_true] at h
   cases i with
   | zero => exact .inr ⟨x, o, by simp, by simp, h.1⟩
   | succ i => simpa using chkL_get h.2 i
section
variable {P : Program} {E : Env} {K : Ctx} {s : St} {a : Act} {w : World} {next : Act → World → Prop} {Q : Exit → Act → World → Prop} {C : CallFn} {N : Nat} {ops : Array Oper}
theorem guard_ok (h : Sim E K s a.tmps w) {x y : Option (Nat × Bool)} (hc : chkGuard ops x y = true) {b : Bool} (hb : wantedA s x = some b) {o : Oper} (ho : o.guard = y) : Region.wanted o (yielded ops a.tmps) = b := by
 cases x with
 | none =>
   cases y with
   | none =>
     simp only [wantedA, Option.some.injEq] at hb
     subst hb
     simp [Region.wanted, ho]
   | some q => simp [chkGuard] at hc
 | some p =>
   cases y with
   | none => simp [chkGuard] at hc
   | some q =>
     obtain ⟨t, b1⟩ := p
     obtain ⟨j, b2⟩ := q
     simp only [chkGuard, Bool.and_eq_true, beq_iff_eq] at hc
     obtain ⟨rfl, hd⟩ := hc
     simp only [wantedA] at hb
     split at hb
     ·rename_i x hx
      simp only [Option.some.injEq] at hb
      subst hb
      obtain ⟨ht, hr⟩ := h.slots t _ hx
      simp only [Rep, RepD] at hr
      have hg : a.tmps[t]? = some (.bool x) := by
       rw [Array.getElem?_eq_getElem ht]
       simp only [Array.getD, ht, dif_pos] at hr
       rw [← hr]; rfl
      simp only [Region.wanted, ho, yielded, hd, Option.bind_some, hg]
      cases x <;> cases b1 <;> rfl
     ·rename_i hx
      simp only [Option.some.injEq] at hb
      subst hb
      obtain ⟨ht, hr⟩ := h.slots t _ hx
      simp only [Rep, RepL] at hr
      obtain ⟨vs, hr, hvs⟩ := hr
      have hg : a.tmps[t]? = some (.tuple vs) := by
       rw [Array.getElem?_eq_getElem ht]
       simp only [Array.getD, ht, dif_pos] at hr
       rw [← hr]; rfl
      simp [Region.wanted, ho, yielded, hd, hg]
     ·simp at hb
theorem Inv.put (h : Inv E K s a w N) {s1 : St} {w1 : World} {K1 : Ctx} {dst : Option Nat} {v : AV} {pv : Value} (hsim : Sim E K1 s1 a.tmps w1) (hw : WF E.rf0 s1) (hu : Up s.rf.length K K1)
  (hdf : s1.df = s.df) (hv : Rep K1 v pv) (hb : v.refB ≤ s1.rf.length) (hf : Fresh E K1 s1 a.tmps w1 none v pv) (hd : ∀ d, dst = some d → d < N) : Inv E K1 (putO s1 dst v) (a.put dst pv) w1 N := by
 have hput : PutR K1 s1.df a.defers := by rw [hdf]; exact h.df.mono hu h.wf.db
 cases dst with
 | none => exact ⟨hsim, hw, hput, h.size⟩
 | some d =>
   have hlt : d < a.tmps.size := Nat.lt_of_lt_of_le (hd d rfl) h.size
   exact ⟨hsim.put hlt hv (hf.none _), putO_wf (dst := some d) hw hb, hput, by simp only [Act.put, Array.size_setIfInBounds]; exact h.size⟩
def AfterI (E : Env) (K : Ctx) (s : St) (N : Nat) (dst : Option Nat) (next : Act → World → Prop) (Q : Exit → Act → World → Prop) : Did → Prop
 | .val v s' => ∀ a' w' K', Inv E K' (putO s' dst v) a' w' N → Up s.rf.length K K' → next a' w'
 | .none_ s' => ∀ a' w' K', Inv E K' s' a' w' N → Up s.rf.length K K' → next a' w'
 | .pan v s' => ∀ a' pv ch w' K', Inv E K' s' a' w' N → Rep K' v pv → Chain pv ch → Up s.rf.length K K' → Q (.panic ch) a' w'
theorem after_of (h : Inv E K s a w N) {ao : AOp} {o : Oper} (hdst : ao.dst = o.dst) (hd : ∀ d, ao.dst = some d → d < N ∧ ao.op.voids = false) {d : Did} (hwf : d.wf E.rf0) (hsame : d.st.df = s.df ∧ d.st.pn = s.pn)
  (hv : ∀ s', d = .none_ s' → ao.op.voids = true) (k : AfterI E K s N ao.dst next Q d) : After E K s a o.dst next Q d := by
 cases d with
 | val v s1 =>
   intro pv w' K' h1 h2 h3 h4
   rw [← hdst]
   exact k _ _ _ (h.put h1 hwf.1 h4 hsame.1 h2 hwf.2 h3 fun d hd' => (hd d hd').1) h4
 | none_ s1 =>
   intro w' K' h1 h4
   have hn : ao.dst = none := by
    cases hao : ao.dst with
    | none => rfl
    | some d => have := (hd d hao).2; rw [hv _ rfl] at this; cases this
   rw [← hdst, hn]
   exact k _ _ _ ⟨h1, hwf, by simp only [Did.st] at hsame; rw [hsame.1]; exact h.df.mono h4 h.wf.db, h.size⟩ h4
 | pan v s1 =>
   intro pv ch w' K' h1 h2 h3 h4
   exact k _ _ _ _ _ ⟨h1, hwf.1, by simp only [Did.st] at hsame; rw [hsame.1]; exact h.df.mono h4 h.wf.db, h.size⟩ h2 h3 h4
theorem vl_val {s : St} {v : Option AV} {d : Did} (h : vl s v = some d) : ∀ s', d ≠ .none_ s' := by
 unfold vl at h
 simp only [Option.map_eq_some_iff] at h
 obtain ⟨_, _, rfl⟩ := h
 intro s' e
 cases e
set_option maxHeartbeats 1000000 in
theorem stepOp_voids {C : CallFn} {s : St} {o : AOpk} {s' : St} (h : stepOp C s o = some (.none_ s')) : o.voids = true := by
 cases o <;> simp only [AOpk.voids] <;> simp only [stepOp] at h
 all_goals first
  | exact absurd rfl (vl_val h s')
  | (exfalso; repeat' first
    | exact absurd rfl (vl_val h s')
    | (simp at h; done)
    | split at h)
theorem step_wp (hC : CallSound P C) (hCW : CallWF C) (h : Inv E K s a w N) {ao : AOp} {o : Oper} (hc : chk1 P N ops ao o = true) {d : Did} (hs : stepOp C s ao.op = some d)
  (k : AfterI E K s N ao.dst next Q d) : o.wp P a w next Q := by
 simp only [chk1, Bool.and_eq_true, beq_iff_eq] at hc
 obtain ⟨⟨⟨⟨⟨c1, c2⟩, c0⟩, c3⟩, c4⟩, c5⟩ := hc
 have hd : ∀ d, ao.dst = some d → d < N ∧ ao.op.voids = false := fun d e => by
  rw [e] at c4
  simpa using c4
 have hwf := stepOp_wf hCW hs h.wf c2
 have hv : ∀ s', d = .none_ s' → ao.op.voids = true := fun s' e => by subst e; exact stepOp_voids hs
 by_cases hq : ao.op.quiet = true
 ·have hp : ao.op.plain = true := by revert hq; cases ao.op <;> simp [AOpk.quiet, AOpk.plain]
  exact wp_of_ok h.sim (step_ok h.sim h.wf c1 hs hq) (after_of h c3 hd hwf (stepOp_same hs hp) hv k)
 ·obtain ⟨dst, op, gd, may⟩ := ao
  simp only at *
  cases op <;> simp only [AOpk.quiet, not_true_eq_false] at hq
  case call f xs => exact wp_call hC h.sim h.wf c1 c2 hs (after_of (ao := ⟨dst, .call f xs, gd, may⟩) h c3 hd hwf (stepOp_same hs rfl) hv k)
  case callZ f xs => exact wp_callZ hC h.sim h.wf c1 hs (after_of (ao := ⟨dst, .callZ f xs, gd, may⟩) h c3 hd hwf (stepOp_same hs rfl) hv k) hCW
  case callO f pre x post => exact wp_callO hC h.sim h.wf c1 c2 hs (after_of (ao := ⟨dst, .callO f pre x post, gd, may⟩) h c3 hd hwf (stepOp_same hs rfl) hv k)
  case callQ f xs => exact wp_callQ hC h.sim h.wf c1 c2 hs (after_of (ao := ⟨dst, .callQ f xs, gd, may⟩) h c3 hd hwf (stepOp_same hs rfl) hv k)
  case recover => simp [AOpk.isRec] at c0
  case defer f xs =>
   simp only [chkOp] at c1
   split at c1
   ·rename_i c ho
    rw [Bool.and_eq_true] at c1
    simp only [stepOp] at hs
    split at hs
    ·rename_i id first cap vs hf hvs
     simp only [Option.some.injEq] at hs; subst hs
     have hn : dst = none := by
      cases hao : dst with
      | none => rfl
      | some d => have := (hd d hao).2; simp [AOpk.voids] at this
     subst hn
     cases hcl : c.callee with
     | value g =>
       rw [hcl] at c1
       have hF := getO_rep h.sim c1.1 hf
       simp only [Rep] at hF
       obtain ⟨va, vc, hF, h1, h2⟩ := hF
       have h3 := getOs_rep h.sim c1.2 hvs
       have hr : (execOp a.eval o).run P w = .ok (.defer { target := .fn (.func id) vc, args := va ++ c.args.map a.eval }) w := by
        simp only [execOp, ho, resolve, hcl, hF, Deferred.ofValue, Sem.run_bind, Sem.run_pure, Result.andThen_ok]
       unfold Oper.wp
       rw [hr, Oper.upon_defer, ← c3]
       refine k _ _ K ⟨?_, hwf, ⟨_, _, rfl, ⟨id, first, cap, _, vc, _, rfl, rfl, h2, ?_⟩, h.df⟩, h.size⟩ (Up.refl _ _)
       ·have := h.sim
        exact ⟨this.size, this.os, this.tape, this.output, this.keep, this.gle, this.rho, this.cells, this.refs, this.refG, this.inj, this.rows, this.slots, this.own, this.uniq, this.tO, this.tR⟩
       ·simp only [Array.toList_append, Array.toList_map]
        exact RepL.append h1 (RepL.bares _ _ h3)
     | builtin b => rw [hcl] at c1; simp at c1
     | invoke r m => rw [hcl] at c1; simp at c1
    ·simp at hs
   ·simp at c1
theorem ops_wp (hC : CallSound P C) (hCW : CallWF C) {l : List AOp} (hc : chkL P N ops l ops.toList = true) : ∀ (ord : List Nat) (s : St) (a : Act) (w : World) (K : Ctx) (e : Ex) (s' : St),
  Inv E K s a w N → runOps C (pickL l ord) s = some (e, s') → (∀ ex a' w' K', ExR K' e ex → Inv E K' s' a' w' N → Up s.rf.length K K' → Q ex a' w') → wpOps P ops Q ord a w
 | [], s, a, w, K, e, s', h, hr, hQ => by
   simp only [pickL, List.filterMap_nil, runOps, Option.some.injEq, Prod.mk.injEq] at hr
   obtain ⟨rfl, rfl⟩ := hr
   exact hQ .normal a w K trivial h (Up.refl _ _)
 | i :: ord, s, a, w, K, e, s', h, hr, hQ => by
   rcases chkL_get hc i with ⟨h1, h2⟩ | ⟨ao, o, h1, h2, h3⟩
   ·rw [Array.getElem?_toList] at h2
    simp only [pickL, List.filterMap_cons, h1] at hr
    rw [wpOps_cons]
    simp only [wpOp, h2]
    exact ops_wp hC hCW hc ord s a w K e s' h hr hQ
   ·rw [Array.getElem?_toList] at h2
    simp only [pickL, List.filterMap_cons, h1, runOps] at hr
    rw [wpOps_cons]
    simp only [wpOp, h2]
    have h3' := h3
    simp only [chk1, Bool.and_eq_true, beq_iff_eq] at h3'
    obtain ⟨⟨⟨⟨⟨c1, c2⟩, _⟩, c3⟩, c4⟩, c5⟩ := h3'
    split at hr
    ·simp at hr
    ·rename_i hwant
     rw [guard_ok h.sim c5 hwant rfl]
     simp only [Bool.false_eq_true, if_false]
     have hI : Inv E K (putO s ao.dst (.tup [])) (a.put ao.dst undef) w N :=
      h.put h.sim h.wf (Up.refl _ _) rfl (by simp only [Rep, RepL]; exact ⟨#[], rfl, rfl⟩) (by simp [AV.refB, AV.refBs]) (fresh_of_not_own (by intro es e; cases e)) (fun d hd => by rw [hd] at c4; simp at c4; exact c4.1)
     rw [← c3]
     refine ops_wp hC hCW hc ord _ _ w K e s' hI hr fun ex a' w' K' h5 h6 h7 => hQ ex a' w' K' h5 h6 (by rwa [putO_rf] at h7)
    ·rename_i hwant
     rw [guard_ok h.sim c5 hwant rfl]
     simp only [if_true]
     refine .inl ?_
     split at hr
     ·rename_i v s1 hs
      refine step_wp hC hCW h h3 hs ?_
      intro a' w' K' h5 h6
      have hl := stepOp_len hCW hs h.wf c2
      refine ops_wp hC hCW hc ord _ _ w' K' e s' h5 hr fun ex a'' w'' K'' h7 h8 h9 => hQ ex a'' w'' K'' h7 h8 (h6.trans (h9.le ?_))
      rw [putO_rf]; exact hl
     ·rename_i s1 hs
      refine step_wp hC hCW h h3 hs ?_
      intro a' w' K' h5 h6
      have hl := stepOp_len hCW hs h.wf c2
      exact ops_wp hC hCW hc ord _ _ w' K' e s' h5 hr fun ex a'' w'' K'' h7 h8 h9 => hQ ex a'' w'' K'' h7 h8 (h6.trans (h9.le hl))
     ·rename_i v s1 hs
      refine step_wp hC hCW h h3 hs ?_
      intro a' pv ch w' K' h5 h6 h7 h8
      split at hr
      ·simp only [Option.some.injEq, Prod.mk.injEq] at hr
       obtain ⟨rfl, rfl⟩ := hr
       exact hQ (.panic ch) a' w' K' ⟨pv, h6, h7⟩ h5 h8
      ·simp at hr
     ·simp at hr
end
end Go.Ab
namespace Go.Ab
def AOpk.gets : AOpk → List Opd
 | .mov x | .box x | .nilchk x | .eqnil _ _ x | .un _ x | .toInt _ x | .ident x | .strBytes x | .bytesStr x | .mkifc _ x
 | .fldA _ x | .fld _ _ x | .extr x _ | .lenS x | .len x | .panic x | .load _ x | .takeload x | .assertT _ _ x => [x]
 | .take _ | .lenArr _ | .recover | .asg _ | .same _ | .alloc _ | .recheck _ _ _ => []
 | .pick c a b => [c, a, b]
 | .build _ parts | .mkls _ _ parts => parts.map (·.2.2)
 | .store _ a _ => [a]
 | .storeW _ a _ ws => a :: ws
 | .loadB _ a b => [a, b]
 | .bin _ x y | .beq _ x y | .eqc _ _ x y | .idxA _ _ x y | .idxS x y | .idxV _ _ _ x y | .copy x y | .min x y | .max x y => [x, y]
 | .append _ _ y => [y]
 | .mkfn _ first cap => first ++ cap
 | .sliceS x lo hi | .slice _ x lo hi | .slArr _ x lo hi => x :: (lo.toList ++ hi.toList)
 | .call f args | .callZ f args | .callQ f args | .defer f args => f :: args
 | .makeMap => []
 | .stuck => []
 | .lookup _ _ _ m k | .mapEntry _ _ m k => [m, k]
 | .mapSet _ m k v | .entrySet m k v => [m, k, v]
 | .mkS _ n => [n]
 | .callO f pre _ post => f :: (pre ++ post)
def AOpk.raw : AOpk → Option Opd
 | .take t => some (.t t)
 | .asg x | .same x | .append _ x _ | .store _ _ x | .storeW _ _ x _ | .callO _ _ x _ => some x
 | _ => none
def AOpk.cls : AOpk → Nat
 | .load _ _ | .loadB _ _ _ => 1
 | .callQ _ _ | .lookup _ _ _ _ _ => 2
 | .alloc _ | .box _ | .makeMap | .mkS _ _ => 3
 | .takeload _ => 5
 | .storeW _ _ _ _ => 6
 | .store _ _ _ | .call _ _ | .defer _ _ | .recover | .copy _ _ | .recheck _ _ _ | .panic _ | .mapSet _ _ _ _ | .mapEntry _ _ _ _ | .entrySet _ _ _ | .callO _ _ _ _ => 4
 | _ => 0
def unOwnS (sl : Slots) : Option Opd → Slots
 | some (.t n) => match sl.get n with
   | some (.own es) => sl.put n (.d (.lst es))
   | _ => sl
 | _ => sl
def Did.mapSt (f : St → St) : Did → Did
 | .val v s => .val v (f s)
 | .none_ s => .none_ (f s)
 | .pan v s => .pan v (f s)
theorem unOwn_sl (s : St) (x : Opd) : unOwn s x = { s with sl := unOwnS s.sl (some x) } := by
 unfold unOwn unOwnS
 cases x with
 | t n =>
   simp only
   split
   ·rename_i es h; simp only [h]
   ·rename_i h; split
    ·rename_i es h'; exact absurd h' (h es)
    ·rfl
 | c v => rfl
 | f id => rfl
theorem getOs_congr {sl sl2 : Slots} : ∀ {l : List Opd}, (∀ x, x ∈ l → getO sl2 x = getO sl x) → getOs sl2 l = getOs sl l
 | [], _ => rfl
 | x :: r, h => by
   simp only [getOs]
   rw [h x (by simp), getOs_congr fun y hy => h y (by simp [hy])]
theorem fillA_congr {sl sl2 : Slots} : ∀ {l : List (Nat × Nat × Opd)} {cs : List AV}, (∀ x, x ∈ l.map (·.2.2) → getO sl2 x = getO sl x) → fillA sl2 cs l = fillA sl cs l
 | [], _, _ => rfl
 | (off, size, x) :: r, cs, h => by
   simp only [fillA]
   rw [h x (by simp)]
   cases getO sl x with
   | none => rfl
   | some v =>
     simp only
     rw [fillA_congr fun y hy => h y (by simp only [List.map_cons, List.mem_cons]; exact .inr hy)]
theorem apartB_congr {sl sl2 : Slots} {r : Nat} : ∀ {l : List Opd}, (∀ x, x ∈ l → getO sl2 x = getO sl x) → apartB sl2 r l = apartB sl r l
 | [], _ => rfl
 | x :: l, h => by
   simp only [apartB]
   rw [h x (by simp), apartB_congr fun y hy => h y (by simp [hy])]
theorem asIdx_congr {sl sl2 : Slots} {o : Option Opd} {d : Nat} (h : ∀ x, x ∈ o.toList → getO sl2 x = getO sl x) : asIdx sl2 o d = asIdx sl o d := by
 cases o with
 | none => rfl
 | some x => simp only [asIdx]; rw [h x (by simp)]
set_option maxHeartbeats 2000000 in
theorem step_slots {C : CallFn} {s : St} {o : AOpk} {sl2 : Slots} (hg : ∀ x, x ∈ o.gets → getO sl2 x = getO s.sl x) (hr : ∀ x, o.raw = some x → rawO sl2 x = rawO s.sl x) :
  stepOp C { s with sl := sl2 } o = (stepOp C s o).map (Did.mapSt fun st => { st with sl := unOwnS sl2 o.raw }) := by
 have vlm : ∀ v : Option AV, vl { s with sl := sl2 } v = (vl s v).map (Did.mapSt fun st => { st with sl := sl2 }) := fun v => by cases v <;> rfl
 cases o
 case pick c a b =>
  have h1 := hg c (by simp [AOpk.gets]); have h2 := hg a (by simp [AOpk.gets]); have h3 := hg b (by simp [AOpk.gets])
  simp only [stepOp, AOpk.raw, unOwnS, h1, h2, h3]
  split
  ·exact vlm _
  ·rfl
 case take t =>
  have h1 := hr _ rfl
  simp only [rawO] at h1
  simp only [stepOp, AOpk.raw, unOwn_sl, h1]
  cases s.sl.get t <;> rfl
 case build zero parts =>
  have h1 := fillA_congr (cs := zero) (sl := s.sl) (sl2 := sl2) (l := parts) hg
  simp only [stepOp, AOpk.raw, unOwnS, h1]
  exact vlm _
 case mkls sz zero parts =>
  have h1 := fillA_congr (cs := zero) (sl := s.sl) (sl2 := sl2) (l := parts) hg
  simp only [stepOp, AOpk.raw, unOwnS, h1]
  repeat' split
  all_goals first | exact vlm _ | rfl
 case mkfn f first cap =>
  have h1 := getOs_congr (sl := s.sl) (sl2 := sl2) (l := first) fun x hx => hg x (by simp [AOpk.gets, hx])
  have h2 := getOs_congr (sl := s.sl) (sl2 := sl2) (l := cap) fun x hx => hg x (by simp [AOpk.gets, hx])
  simp only [stepOp, AOpk.raw, unOwnS, h1, h2]
  repeat' split
  all_goals first | exact vlm _ | rfl
 case sliceS x lo hi =>
  have h1 := hg x (by simp [AOpk.gets])
  have h2 := fun d => asIdx_congr (sl := s.sl) (sl2 := sl2) (o := lo) (d := d) fun x hx => hg x (by simp only [AOpk.gets, List.mem_cons, List.mem_append]; exact .inr (.inl hx))
  have h3 := fun d => asIdx_congr (sl := s.sl) (sl2 := sl2) (o := hi) (d := d) fun x hx => hg x (by simp only [AOpk.gets, List.mem_cons, List.mem_append]; exact .inr (.inr hx))
  simp only [stepOp, AOpk.raw, unOwnS, h1, h2, h3]
  repeat' split
  all_goals first | exact vlm _ | rfl
 case slice sz x lo hi =>
  have h1 := hg x (by simp [AOpk.gets])
  have h2 := fun d => asIdx_congr (sl := s.sl) (sl2 := sl2) (o := lo) (d := d) fun x hx => hg x (by simp only [AOpk.gets, List.mem_cons, List.mem_append]; exact .inr (.inl hx))
  have h3 := fun d => asIdx_congr (sl := s.sl) (sl2 := sl2) (o := hi) (d := d) fun x hx => hg x (by simp only [AOpk.gets, List.mem_cons, List.mem_append]; exact .inr (.inr hx))
  simp only [stepOp, AOpk.raw, unOwnS, h1, h2, h3]
  repeat' split
  all_goals first | exact vlm _ | rfl
 case slArr n x lo hi =>
  have h1 := hg x (by simp [AOpk.gets])
  have h2 := fun d => asIdx_congr (sl := s.sl) (sl2 := sl2) (o := lo) (d := d) fun x hx => hg x (by simp only [AOpk.gets, List.mem_cons, List.mem_append]; exact .inr (.inl hx))
  have h3 := fun d => asIdx_congr (sl := s.sl) (sl2 := sl2) (o := hi) (d := d) fun x hx => hg x (by simp only [AOpk.gets, List.mem_cons, List.mem_append]; exact .inr (.inr hx))
  simp only [stepOp, AOpk.raw, unOwnS, h1, h2, h3]
  repeat' split
  all_goals first | exact vlm _ | rfl
 case call f xs =>
  have h1 := hg f (by simp [AOpk.gets])
  have h2 := getOs_congr (sl := s.sl) (sl2 := sl2) (l := xs) fun x hx => hg x (by simp [AOpk.gets, hx])
  simp only [stepOp, AOpk.raw, unOwnS, h1, h2]
  repeat' split
  all_goals rfl
 case callZ f xs =>
  have h1 := hg f (by simp [AOpk.gets])
  have h2 := getOs_congr (sl := s.sl) (sl2 := sl2) (l := xs) fun x hx => hg x (by simp [AOpk.gets, hx])
  simp only [stepOp, AOpk.raw, unOwnS, h1, h2]
  repeat' split
  all_goals rfl
 case callQ f xs =>
  have h1 := hg f (by simp [AOpk.gets])
  have h2 := getOs_congr (sl := s.sl) (sl2 := sl2) (l := xs) fun x hx => hg x (by simp [AOpk.gets, hx])
  simp only [stepOp, AOpk.raw, unOwnS, h1, h2]
  repeat' split
  all_goals rfl
 case defer f xs =>
  have h1 := hg f (by simp [AOpk.gets])
  have h2 := getOs_congr (sl := s.sl) (sl2 := sl2) (l := xs) fun x hx => hg x (by simp [AOpk.gets, hx])
  simp only [stepOp, AOpk.raw, unOwnS, h1, h2]
  repeat' split
  all_goals rfl
 case callO f pre x post =>
  have h1 := hg f (by simp [AOpk.gets])
  have h2 := getOs_congr (sl := s.sl) (sl2 := sl2) (l := pre) fun x hx => hg x (by simp [AOpk.gets, hx])
  have h3 := getOs_congr (sl := s.sl) (sl2 := sl2) (l := post) fun x hx => hg x (by simp [AOpk.gets, hx])
  have h4 := hr x rfl
  simp only [stepOp, AOpk.raw, unOwn_sl, h1, h2, h3, h4]
  repeat' split
  all_goals rfl
 case store sz x v =>
  have h1 := hg x (by simp [AOpk.gets]); have h2 := hr v rfl
  simp only [stepOp, AOpk.raw, unOwn_sl, h1, h2]
  repeat' split
  all_goals rfl
 case storeW sz x v ws =>
  have h1 := hg x (by simp [AOpk.gets]); have h2 := hr v rfl
  have h3 := fun r => apartB_congr (sl := s.sl) (sl2 := sl2) (r := r) (l := ws) fun x hx => hg x (by simp [AOpk.gets, hx])
  simp only [stepOp, AOpk.raw, unOwn_sl, h1, h2, h3]
  repeat' split
  all_goals rfl
 case append sz x y =>
  have h1 := hg y (by simp [AOpk.gets]); have h2 := hr x rfl
  simp only [stepOp, AOpk.raw, unOwn_sl, h1, h2]
  repeat' split
  all_goals rfl
 case asg x =>
  have h2 := hr x rfl
  simp only [stepOp, AOpk.raw, unOwn_sl, h2]
  repeat' split
  all_goals rfl
 case same x =>
  have h2 := hr x rfl
  simp only [stepOp, AOpk.raw, unOwn_sl, h2]
  repeat' split
  all_goals rfl
 all_goals simp only [AOpk.gets, List.mem_cons, List.not_mem_nil, or_false, forall_eq_or_imp, forall_eq] at hg
 all_goals simp only [stepOp, AOpk.raw, unOwnS, hg]
 all_goals first
  | exact vlm _
  | rfl
  | (repeat' split
     all_goals first | exact vlm _ | rfl)
end Go.Ab
namespace Go.Ab
def Opd.isT (n : Nat) : Opd → Bool
 | .t m => m == n
 | _ => false
def isG (n : Nat) : Option (Nat × Bool) → Bool
 | some (t, _) => t == n
 | none => false
def AOp.uses (o : AOp) (n : Nat) : Bool := o.op.gets.any (Opd.isT n) || o.op.raw.any (Opd.isT n) || isG n o.guard
def sep : AOpk → AOpk → Bool
 | .loadB _ _ (.t n), .storeW _ _ _ ws => ws.any (Opd.isT n)
 | _, _ => false
def compat (y x : AOp) : Bool :=
 !y.may && !x.may &&
 (match y.dst with | some d => !x.uses d && x.dst != some d | none => true) &&
 (match x.dst with | some d => !y.uses d | none => true) &&
 (match y.op.raw with | some (.t n) => !x.op.raw.any (Opd.isT n) && !isG n x.guard | _ => true) &&
 (match x.op.raw with | some (.t n) => !isG n y.guard | _ => true) &&
 (x.op.cls == 0 || y.op.cls == 0 || (decide (y.op.cls ≤ 2) && decide (x.op.cls ≤ 2)) || (y.op.cls == 1 && x.op.cls == 3) || (y.op.cls == 1 && x.op.cls == 5) || (y.op.cls == 5 && x.op.cls == 1) || sep y.op x.op || sep x.op y.op)
def Agr (o : AOp) (sl sl2 : Slots) : Prop :=
 (∀ x, x ∈ o.op.gets → getO sl2 x = getO sl x) ∧ (∀ x, o.op.raw = some x → rawO sl2 x = rawO sl x) ∧ (∀ t b, o.guard = some (t, b) → sl2.get t = sl.get t)
theorem get_unOwnS {sl : Slots} {r : Option Opd} {t : Nat} : (unOwnS sl r).get t = sl.get t ∨ (r = some (.t t) ∧ ∃ es, sl.get t = some (.own es) ∧ (unOwnS sl r).get t = some (.d (.lst es))) := by
 unfold unOwnS
 split
 ·rename_i n
  split
  ·rename_i es h
   by_cases hn : n = t
   ·subst hn
    exact .inr ⟨rfl, es, h, by simp [Slots.put, Slots.get]⟩
   ·exact .inl (by simp [Slots.put, Slots.get, hn])
  ·exact .inl rfl
 ·exact .inl rfl
theorem getO_unOwnS {sl : Slots} {r : Option Opd} {x : Opd} : getO (unOwnS sl r) x = getO sl x := by
 cases x with
 | t n =>
   simp only [getO, rawO]
   rcases get_unOwnS (sl := sl) (r := r) (t := n) with h | ⟨_, es, h1, h2⟩
   ·rw [h]
   ·rw [h1, h2]; rfl
 | c v => rfl
 | f id => rfl
theorem get_put_ne {sl : Slots} {n m : Nat} {v : AV} (h : n ≠ m) : (sl.put n v).get m = sl.get m := by simp [Slots.put, Slots.get, h]
def slAfter (o : AOp) (b : Bool) (v : Option AV) (sl : Slots) : Slots :=
 let sl' := if b then unOwnS sl o.op.raw else sl
 match v, o.dst with
 | some v, some d => sl'.put d v
 | _, _ => sl'
theorem isT_false {n m : Nat} (h : Opd.isT n (.t m) = false) : n ≠ m := by
 simp [Opd.isT] at h; omega
theorem agr_of {y x : AOp} {b : Bool} {v : Option AV} {sl : Slots} (h1 : ∀ d, y.dst = some d → x.uses d = false)
  (h2 : ∀ n, y.op.raw = some (.t n) → x.op.raw.any (Opd.isT n) = false ∧ isG n x.guard = false) : Agr x sl (slAfter y b v sl) := by
 have hput : ∀ (sl' : Slots) (t : Nat), (∀ d, y.dst = some d → d ≠ t) → Slots.get (match v, y.dst with | some v, some d => sl'.put d v | _, _ => sl') t = sl'.get t := fun sl' t ht => by
  split
  ·rename_i d _ hd
   exact get_put_ne (ht _ (by assumption))
  ·rfl
 refine ⟨fun z hz => ?_, fun z hz => ?_, fun t b' hg => ?_⟩
 ·cases z with
  | t n =>
    have hn : ∀ d, y.dst = some d → d ≠ n := fun d hd e => by
     subst e
     have := h1 d hd
     simp only [AOp.uses, Bool.or_eq_false_iff, List.any_eq_false] at this
     exact this.1.1 _ hz (by simp [Opd.isT])
    have : getO (slAfter y b v sl) (.t n) = getO (if b then unOwnS sl y.op.raw else sl) (.t n) := by
     simp only [getO, rawO, slAfter]
     rw [hput _ _ hn]
    rw [this]
    cases b
    ·rfl
    ·exact getO_unOwnS
  | c c => rfl
  | f id => rfl
 ·cases z with
  | t n =>
    have hu : ∀ d, y.dst = some d → d ≠ n := fun d hd e => by
     subst e
     have := h1 d hd
     simp only [AOp.uses, Bool.or_eq_false_iff] at this
     rw [hz] at this
     simp [Opd.isT] at this
    simp only [rawO, slAfter]
    rw [hput _ _ hu]
    cases b
    ·rfl
    ·simp only [if_true]
     rcases get_unOwnS (sl := sl) (r := y.op.raw) (t := n) with h | ⟨hr, _⟩
     ·exact h
     ·have := (h2 n hr).1
      rw [hz] at this
      simp [Opd.isT] at this
  | c c => rfl
  | f id => rfl
 ·have hu : ∀ d, y.dst = some d → d ≠ t := fun d hd e => by
   subst e
   have := h1 d hd
   simp only [AOp.uses, Bool.or_eq_false_iff] at this
   rw [hg] at this
   simp [isG] at this
  simp only [slAfter]
  rw [hput _ _ hu]
  cases b
  ·rfl
  ·simp only [if_true]
   rcases get_unOwnS (sl := sl) (r := y.op.raw) (t := t) with h | ⟨hr, _⟩
   ·exact h
   ·have := (h2 t hr).2
    rw [hg] at this
    simp [isG] at this
def eff (C : CallFn) (o : AOp) (s : St) : Option (Option AV × Bool × St) :=
 match wantedA s o.guard with
 | none => none
 | some false => some (some (.tup []), false, { s with sl := [] })
 | some true =>
   match stepOp C s o.op with
   | some (.val v s') => some (some v, true, { s' with sl := [] })
   | some (.none_ s') => some (none, true, { s' with sl := [] })
   | _ => none
def fin (o : AOp) (sl : Slots) : Option AV × Bool × St → St
 | (v, b, m) => { m with sl := slAfter o b v sl }
theorem runOps_eff {C : CallFn} {o : AOp} (hm : o.may = false) {r : List AOp} {s : St} : runOps C (o :: r) s = (eff C o s).bind fun x => runOps C r (fin o s.sl x) := by
 simp only [runOps, eff]
 cases hg : wantedA s o.guard with
 | none => rfl
 | some b =>
   cases b with
   | false =>
     simp only [Option.bind_some, fin, slAfter]
     cases o.dst <;> rfl
   | true =>
     have hss := step_slots (C := C) (s := s) (o := o.op) (sl2 := s.sl) (fun _ _ => rfl) (fun _ _ => rfl)
     have hs0 : ({ s with sl := s.sl } : St) = s := rfl
     rw [hs0] at hss
     cases hs : stepOp C s o.op with
     | none => rfl
     | some d =>
       rw [hs] at hss
       simp only [Option.map_some, Option.some.injEq] at hss
       cases d with
       | val v s' =>
         simp only [Did.mapSt, Did.val.injEq, true_and] at hss
         simp only [Option.bind_some, fin, slAfter]
         rw [hss]
         cases o.dst <;> rfl
       | none_ s' =>
         simp only [Did.mapSt, Did.none_.injEq] at hss
         simp only [Option.bind_some, fin, slAfter]
         rw [hss]
         rfl
       | pan v s' => simp [hm]
theorem eff_agr {C : CallFn} {o : AOp} {s : St} {sl2 : Slots} (h : Agr o s.sl sl2) : eff C o { s with sl := sl2 } = eff C o s := by
 have hw : wantedA { s with sl := sl2 } o.guard = wantedA s o.guard := by
  cases hg : o.guard with
  | none => rfl
  | some p =>
    obtain ⟨t, b⟩ := p
    simp only [wantedA]
    rw [h.2.2 t b hg]
 simp only [eff, hw, step_slots h.1 h.2.1]
 split
 ·rfl
 ·rfl
 ·cases stepOp C s o.op with
  | none => rfl
  | some d => cases d <;> rfl
def St.mem (s m : St) : St := { m with sl := s.sl }
theorem step_mem0 {C : CallFn} {s m : St} {o : AOpk} (h : o.cls = 0) : stepOp C (s.mem m) o = (stepOp C s o).map (Did.mapSt fun st => st.mem m) := by
 have vlm : ∀ v : Option AV, vl (s.mem m) v = (vl s v).map (Did.mapSt fun st => st.mem m) := fun v => by cases v <;> rfl
 cases o <;> (try (simp [AOpk.cls] at h; done)) <;> simp only [stepOp, unOwn_sl, St.mem]
 all_goals first
  | exact vlm _
  | rfl
  | (repeat' split
     all_goals first | exact vlm _ | rfl)
def Loads (m m' : St) : Prop := ∀ agg p v, loadAt m.rf agg p = some v → loadAt m'.rf agg p = some v
theorem step_mem1 {C : CallFn} {s m : St} {o : AOpk} (h : o.cls = 1) (hl : Loads s m) {d : Did} (hd : stepOp C s o = some d) : stepOp C (s.mem m) o = some (d.mapSt fun st => st.mem m) := by
 cases o <;> (try (simp [AOpk.cls] at h; done)) <;> simp only [stepOp] at hd ⊢
 case load agg x =>
  have : getO (s.mem m).sl x = getO s.sl x := rfl
  rw [this]
  split at hd
  ·rename_i p hp
   unfold vl at hd ⊢
   simp only [Option.map_map, Option.map_eq_some_iff, Function.comp] at hd
   obtain ⟨v, hv, rfl⟩ := hd
   have : (s.mem m).rf = m.rf := rfl
   rw [this, hl _ _ _ hv]
   rfl
  ·simp at hd
 case loadB agg x b =>
  have h1 : getO (s.mem m).sl x = getO s.sl x := rfl
  have h2 : getO (s.mem m).sl b = getO s.sl b := rfl
  rw [h1, h2]
  split at hd
  ·split at hd
   ·rename_i r off q o' hp hq hrq
    rw [if_pos hrq]
    unfold vl at hd ⊢
    simp only [Option.map_map, Option.map_eq_some_iff, Function.comp] at hd
    obtain ⟨v, hv, rfl⟩ := hd
    have : (s.mem m).rf = m.rf := rfl
    rw [this, hl _ _ _ hv]
    rfl
   ·simp at hd
  ·simp at hd
theorem unOwnS_mem {s : St} {x : Opd} : (unOwn s x).rf = s.rf ∧ (unOwn s x).df = s.df ∧ (unOwn s x).pn = s.pn ∧ (unOwn s x).nb = s.nb := by
 rw [unOwn_sl]; exact ⟨rfl, rfl, rfl, rfl⟩
theorem step_mem2 {C : CallFn} {s : St} {o : AOpk} (h : o.cls ≤ 2) {d : Did} (hd : stepOp C s o = some d) : ({ d.st with sl := [] } : St) = { s with sl := [] } := by
 by_cases h0 : o.cls = 0
 ·have := step_mem0 (C := C) (s := s) (m := s) h0
  have hs : s.mem s = s := rfl
  rw [hs, hd] at this
  simp only [Option.map_some, Option.some.injEq] at this
  cases d with
  | val v s' => simp only [Did.mapSt, Did.val.injEq, true_and] at this; simp only [Did.st]; rw [this]; rfl
  | none_ s' => simp only [Did.mapSt, Did.none_.injEq] at this; simp only [Did.st]; rw [this]; rfl
  | pan v s' => simp only [Did.mapSt, Did.pan.injEq, true_and] at this; simp only [Did.st]; rw [this]; rfl
 ·cases o <;> (try (simp [AOpk.cls] at h h0; done)) <;> simp only [stepOp] at hd
  case load agg x =>
   split at hd
   ·rw [vl_st hd]
   ·simp at hd
  case loadB agg x b =>
   split at hd
   ·split at hd
    ·rw [vl_st hd]
    ·simp at hd
   ·simp at hd
  case lookup pk ok zero m k =>
   repeat' first
    | (rw [vl_st hd]; done)
    | (simp at hd; done)
    | split at hd
  case callQ f xs =>
   split at hd
   ·split at hd
    ·split at hd
     ·simp only [Option.some.injEq] at hd; subst hd; rfl
     ·simp at hd
    ·simp at hd
   ·simp at hd
theorem loads_push {m : St} {cs : List AV} {m' : St} (h : m'.rf = m.rf ++ [cs]) : Loads m m' := by
 intro agg p v hv
 unfold loadAt at hv ⊢
 cases p with
 | ptr r off =>
   simp only at hv ⊢
   rw [h]
   cases agg with
   | none =>
     simp only at hv ⊢
     split at hv
     ·rename_i c hc
      rw [List.getElem?_append_left (List.getElem?_eq_some_iff.1 hc).1, hc]
      exact hv
     ·simp at hv
   | some n =>
     simp only [Refs.cellsAt] at hv ⊢
     cases hc : m.rf[r]? with
     | none => simp [hc] at hv
     | some c =>
       rw [hc] at hv
       rw [List.getElem?_append_left (List.getElem?_eq_some_iff.1 hc).1, hc]
       exact hv
 | ept c o => exact hv
 | _ => simp at hv
theorem step_mem3 {C : CallFn} {s : St} {o : AOpk} (h : o.cls = 3) {d : Did} (hd : stepOp C s o = some d) : Loads s d.st := by
 cases o <;> (try (simp [AOpk.cls] at h; done)) <;> simp only [stepOp] at hd
 case alloc cells =>
  simp only [Option.some.injEq] at hd; subst hd
  exact loads_push rfl
 case box x =>
  split at hd
  ·split at hd
   ·simp only [Option.some.injEq] at hd; subst hd
    exact loads_push rfl
   ·simp at hd
  ·simp at hd
 case makeMap =>
  simp only [Option.some.injEq] at hd; subst hd
  exact loads_push rfl
 case mkS cell n =>
  split at hd
  ·split at hd
   ·simp only [Option.some.injEq] at hd; subst hd
    exact loads_push rfl
   ·simp at hd
  ·simp at hd
theorem eff_mem0 {C : CallFn} {s m : St} {o : AOp} (h : o.op.cls = 0) {v : Option AV} {b : Bool} {m' : St} (he : eff C o s = some (v, b, m')) : eff C o (s.mem m) = some (v, b, { m with sl := [] }) := by
 have hw : wantedA (s.mem m) o.guard = wantedA s o.guard := by cases o.guard <;> rfl
 simp only [eff, hw, step_mem0 h] at he ⊢
 split at he
 ·simp at he
 ·simp only [Option.some.injEq, Prod.mk.injEq] at he ⊢
  obtain ⟨rfl, rfl, rfl⟩ := he
  exact ⟨rfl, rfl, rfl⟩
 ·cases hs : stepOp C s o.op with
  | none => rw [hs] at he; simp at he
  | some d =>
    rw [hs] at he
    cases d with
    | val u s' =>
      simp only [Option.some.injEq, Prod.mk.injEq] at he
      obtain ⟨rfl, rfl, rfl⟩ := he
      rfl
    | none_ s' =>
      simp only [Option.some.injEq, Prod.mk.injEq] at he
      obtain ⟨rfl, rfl, rfl⟩ := he
      rfl
    | pan u s' => simp at he
theorem eff_mem1 {C : CallFn} {s m : St} {o : AOp} (h : o.op.cls = 1) (hl : Loads s m) {v : Option AV} {b : Bool} {m' : St} (he : eff C o s = some (v, b, m')) : eff C o (s.mem m) = some (v, b, { m with sl := [] }) := by
 have hw : wantedA (s.mem m) o.guard = wantedA s o.guard := by cases o.guard <;> rfl
 simp only [eff, hw] at he ⊢
 split at he
 ·simp at he
 ·simp only [Option.some.injEq, Prod.mk.injEq] at he ⊢
  obtain ⟨rfl, rfl, rfl⟩ := he
  exact ⟨rfl, rfl, rfl⟩
 ·cases hs : stepOp C s o.op with
  | none => rw [hs] at he; simp at he
  | some d =>
    rw [hs] at he
    rw [step_mem1 h hl hs]
    cases d with
    | val u s' =>
      simp only [Option.some.injEq, Prod.mk.injEq] at he
      obtain ⟨rfl, rfl, rfl⟩ := he
      rfl
    | none_ s' =>
      simp only [Option.some.injEq, Prod.mk.injEq] at he
      obtain ⟨rfl, rfl, rfl⟩ := he
      rfl
    | pan u s' => simp at he
theorem eff_mem2 {C : CallFn} {s : St} {o : AOp} (h : o.op.cls ≤ 2) {v : Option AV} {b : Bool} {m' : St} (he : eff C o s = some (v, b, m')) : m' = { s with sl := [] } := by
 simp only [eff] at he
 split at he
 ·simp at he
 ·simp only [Option.some.injEq, Prod.mk.injEq] at he
  exact he.2.2.symm
 ·cases hs : stepOp C s o.op with
  | none => rw [hs] at he; simp at he
  | some d =>
    have := step_mem2 h hs
    rw [hs] at he
    cases d with
    | val u s' =>
      simp only [Option.some.injEq, Prod.mk.injEq] at he
      obtain ⟨rfl, rfl, rfl⟩ := he
      exact this
    | none_ s' =>
      simp only [Option.some.injEq, Prod.mk.injEq] at he
      obtain ⟨rfl, rfl, rfl⟩ := he
      exact this
    | pan u s' => simp at he
theorem eff_mem3 {C : CallFn} {s : St} {o : AOp} (h : o.op.cls = 3) {v : Option AV} {b : Bool} {m' : St} (he : eff C o s = some (v, b, m')) : Loads s m' := by
 simp only [eff] at he
 split at he
 ·simp at he
 ·simp only [Option.some.injEq, Prod.mk.injEq] at he
  obtain ⟨_, _, rfl⟩ := he
  exact fun _ _ _ h => h
 ·cases hs : stepOp C s o.op with
  | none => rw [hs] at he; simp at he
  | some d =>
    have := step_mem3 h hs
    rw [hs] at he
    cases d with
    | val u s' =>
      simp only [Option.some.injEq, Prod.mk.injEq] at he
      obtain ⟨rfl, rfl, rfl⟩ := he
      exact this
    | none_ s' =>
      simp only [Option.some.injEq, Prod.mk.injEq] at he
      obtain ⟨rfl, rfl, rfl⟩ := he
      exact this
    | pan u s' => simp at he
def SameL (m m' : St) : Prop := ∀ agg p, (loadAt m.rf agg p).map AV.strip = (loadAt m'.rf agg p).map AV.strip
theorem SameL.symm {m m' : St} (h : SameL m m') : SameL m' m := fun agg p => (h agg p).symm
theorem step_memL {C : CallFn} {s m : St} {o : AOpk} (h : o.cls = 1) (hl : SameL s m) : stepOp C (s.mem m) o = (stepOp C s o).map (Did.mapSt fun st => st.mem m) := by
 cases o <;> (try (simp [AOpk.cls] at h; done)) <;> simp only [stepOp]
 case load agg x =>
  have h1 : getO (s.mem m).sl x = getO s.sl x := rfl
  rw [h1]
  split
  ·rename_i p hp
   have h2 : (s.mem m).rf = m.rf := rfl
   rw [h2, ← hl agg p]
   unfold vl
   cases (loadAt s.rf agg p).map AV.strip <;> rfl
  ·rfl
 case loadB agg x b =>
  have h1 : getO (s.mem m).sl x = getO s.sl x := rfl
  have h3 : getO (s.mem m).sl b = getO s.sl b := rfl
  rw [h1, h3]
  split
  ·rename_i r off q o' hp hq
   split
   ·have h2 : (s.mem m).rf = m.rf := rfl
    rw [h2, ← hl agg _]
    unfold vl
    cases (loadAt s.rf agg (.ptr r off)).map AV.strip <;> rfl
   ·rfl
  ·rfl
theorem eff_memL {C : CallFn} {s m : St} {o : AOp} (h : o.op.cls = 1) (hl : SameL s m) {v : Option AV} {b : Bool} {m' : St} (he : eff C o s = some (v, b, m')) : eff C o (s.mem m) = some (v, b, { m with sl := [] }) := by
 have hw : wantedA (s.mem m) o.guard = wantedA s o.guard := by cases o.guard <;> rfl
 simp only [eff, hw, step_memL h hl] at he ⊢
 split at he
 ·simp at he
 ·simp only [Option.some.injEq, Prod.mk.injEq] at he ⊢
  obtain ⟨rfl, rfl, rfl⟩ := he
  exact ⟨rfl, rfl, rfl⟩
 ·cases hs : stepOp C s o.op with
  | none => rw [hs] at he; simp at he
  | some d =>
    rw [hs] at he
    cases d with
    | val u s' =>
      simp only [Option.some.injEq, Prod.mk.injEq] at he
      obtain ⟨rfl, rfl, rfl⟩ := he
      rfl
    | none_ s' =>
      simp only [Option.some.injEq, Prod.mk.injEq] at he
      obtain ⟨rfl, rfl, rfl⟩ := he
      rfl
    | pan u s' => simp at he
mutual
theorem strip_strip : ∀ x : AV, x.strip.strip = x.strip
 | .own es => rfl
 | .agg cs => by simp only [AV.strip, strips_strips cs]
 | .ifc t v => by simp only [AV.strip, strip_strip v]
 | .tup vs => by simp only [AV.strip, strips_strips vs]
 | .d x => rfl
 | .nil => rfl
 | .ptr r o => rfl
 | .ept cs o => rfl
 | .sref r o n => rfl
 | .mp r => rfl
 | .fn f a b => rfl
theorem strips_strips : ∀ l : List AV, AV.strips (AV.strips l) = AV.strips l
 | [] => rfl
 | x :: l => by simp only [AV.strips, strip_strip x, strips_strips l]
end
theorem strips_map : ∀ l : List AV, AV.strips l = l.map AV.strip
 | [] => rfl
 | x :: l => by simp [AV.strips, strips_map l]
theorem strips_set {l : List AV} {i : Nat} {v : AV} (h : l[i]? = some v) : AV.strips (l.set i v.strip) = AV.strips l := by
 rw [strips_map, strips_map, List.map_set, strip_strip]
 apply List.ext_getElem?
 intro j
 rw [List.getElem?_set]
 split
 ·rename_i hij
  subst hij
  have := (List.getElem?_eq_some_iff.1 h).1
  rw [List.length_map, if_pos this, List.getElem?_map, h]
  rfl
 ·rfl
theorem isMp_strips {cs : List AV} {i : Nat} {v : AV} (hg : cs[i]? = some v) : isMp (cs.set i v.strip) = isMp cs := by
 cases cs with
 | nil => rfl
 | cons c r =>
   cases i with
   | zero =>
     simp only [List.getElem?_cons_zero, Option.some.injEq] at hg
     subst hg
     cases c <;> first | rfl | skip
     rename_i vs
     cases vs with
     | nil => rfl
     | cons x vs => rfl
   | succ i =>
     rw [List.set_cons_succ]
     cases c <;> first | rfl | skip
     rename_i vs
     cases vs <;> rfl
theorem sameL_set {m m' : St} {r off : Nat} {cs : List AV} {v : AV} (hcs : m.rf[r]? = some cs) (hv : cs[off]? = some v) (h : m'.rf = m.rf.set r (cs.set off v.strip)) : SameL m m' := by
 have hlt := (List.getElem?_eq_some_iff.1 hcs).1
 have hget : ∀ q, m'.rf[q]? = if r = q then some (cs.set off v.strip) else m.rf[q]? := fun q => by
  rw [h, List.getElem?_set]
  split
  ·first | rfl | rw [if_pos hlt]
  ·rfl
 intro agg p
 cases p with
 | ptr q o =>
   cases agg with
   | none =>
     simp only [loadAt, hget]
     by_cases hq : r = q
     ·subst hq
      simp only [if_true, hcs, isMp_strips hv]
      rw [List.getElem?_set]
      split
      ·by_cases ho : off = o
       ·subst ho
        rw [if_pos rfl, if_pos (List.getElem?_eq_some_iff.1 hv).1, hv]
        simp [strip_strip]
       ·rw [if_neg ho]
      ·rfl
     ·rw [if_neg hq]
   | some n =>
     simp only [loadAt, Refs.cellsAt, hget]
     by_cases hq : r = q
     ·subst hq
      simp only [if_true, hcs, List.length_set, isMp_strips hv]
      split
      ·simp only [Option.map_some, AV.strip, Option.some.injEq, AV.agg.injEq]
       have := strips_set hv
       rw [strips_map, strips_map] at this
       rw [strips_map, strips_map, List.map_take, List.map_drop, List.map_take, List.map_drop, this]
      ·rfl
     ·rw [if_neg hq]
 | ept cs o => rfl
 | _ => rfl
theorem eff_mem5 {C : CallFn} {s : St} {o : AOp} (h : o.op.cls = 5) {v : Option AV} {b : Bool} {m' : St} (he : eff C o s = some (v, b, m')) : SameL s m' := by
 simp only [eff] at he
 split at he
 ·simp at he
 ·simp only [Option.some.injEq, Prod.mk.injEq] at he
  obtain ⟨_, _, rfl⟩ := he
  exact fun _ _ => rfl
 ·rename_i hwant
  obtain ⟨dst, op, gd, may⟩ := o
  simp only at h he
  clear hwant
  cases op <;> (try (simp [AOpk.cls] at h; done))
  case takeload a =>
   cases hs : stepOp C s (.takeload a) with
   | none => rw [hs] at he; simp at he
   | some d =>
     rw [hs] at he
     simp only [stepOp] at hs
     split at hs
     ·rename_i r off hp
      split at hs
      ·rename_i u hu
       split at hs
       ·rename_i cs hcs
        simp only [Option.some.injEq] at hs
        subst hs
        simp only [Option.some.injEq, Prod.mk.injEq] at he
        obtain ⟨_, _, rfl⟩ := he
        simp only [loadAt, hcs] at hu
        split at hu
        ·exact sameL_set hcs hu rfl
        ·cases hu
       ·simp at hs
      ·simp at hs
     ·simp at hs
theorem apartB_get {s : Slots} {r n q off : Nat} : ∀ {l : List Opd}, apartB s r l = true → l.any (Opd.isT n) = true → getO s (.t n) = some (.ptr q off) → q ≠ r
 | [], _, h, _ => by simp at h
 | x :: l, h, hm, hg => by
   simp only [apartB, Bool.and_eq_true] at h
   simp only [List.any_cons, Bool.or_eq_true] at hm
   rcases hm with hm | hm
   ·cases x <;> simp [Opd.isT] at hm
    subst hm
    have := h.1
    rw [hg] at this
    simpa using this
   ·exact apartB_get h.2 hm hg
theorem eff_memW {C : CallFn} {s : St} {x y : AOp} (h : sep y.op x.op = true) {v : Option AV} {b : Bool} {m' : St} (he : eff C x s = some (v, b, m')) :
  ∀ agg a n, y.op = .loadB agg a (.t n) → ∀ q off, getO s.sl (.t n) = some (.ptr q off) → m'.rf[q]? = s.rf[q]? := by
 intro agg a n hy q off hg
 rw [hy] at h
 obtain ⟨dst, op, gd, may⟩ := x
 cases op <;> simp only [sep, Bool.false_eq_true] at h
 rename_i sz ad va ws
 simp only [eff] at he
 split at he
 ·simp at he
 ·simp only [Option.some.injEq, Prod.mk.injEq] at he
  obtain ⟨_, _, rfl⟩ := he
  rfl
 ·cases hs : stepOp C s (.storeW sz ad va ws) with
  | none => rw [hs] at he; simp at he
  | some d =>
    rw [hs] at he
    simp only [stepOp] at hs
    split at hs
    ·rename_i r off' u hp hu
     split at hs
     ·rename_i hap
      split at hs
      ·rename_i rf hrf
       simp only [Option.some.injEq] at hs
       subst hs
       simp only [Option.some.injEq, Prod.mk.injEq] at he
       obtain ⟨_, _, rfl⟩ := he
       have hne := apartB_get hap h hg
       simp only [unOwn_rf]
       simp only [storeAt] at hrf
       split at hrf
       ·simp at hrf
       ·split at hrf
        ·split at hrf
         ·simp only [Option.some.injEq] at hrf
          subst hrf
          rw [List.getElem?_set_ne (fun e => hne e.symm)]
         ·simp at hrf
        ·simp at hrf
      ·simp at hs
     ·simp at hs
    ·simp at hs
theorem loadAt_same {rf rf' : Refs} {r : Nat} (h : rf'[r]? = rf[r]?) (agg : Option Nat) (off : Nat) : loadAt rf' agg (.ptr r off) = loadAt rf agg (.ptr r off) := by
 cases agg with
 | none => simp only [loadAt, h]
 | some n => simp only [loadAt, Refs.cellsAt, h]
theorem eff_memR {C : CallFn} {s m : St} {y : AOp} {agg : Option Nat} {a : Opd} {n : Nat} (hy : y.op = .loadB agg a (.t n)) (hm : ∀ q off, getO s.sl (.t n) = some (.ptr q off) → m.rf[q]? = s.rf[q]?)
  {v : Option AV} {b : Bool} {m' : St} (he : eff C y s = some (v, b, m')) : eff C y (s.mem m) = some (v, b, { m with sl := [] }) := by
 have hw : wantedA (s.mem m) y.guard = wantedA s y.guard := by cases y.guard <;> rfl
 have hstep : stepOp C (s.mem m) y.op = (stepOp C s y.op).map (Did.mapSt fun st => st.mem m) := by
  rw [hy]
  simp only [stepOp]
  have h1 : getO (s.mem m).sl a = getO s.sl a := rfl
  have h3 : getO (s.mem m).sl (.t n) = getO s.sl (.t n) := rfl
  rw [h1, h3]
  split
  ·rename_i r off q o' hp hq
   split
   ·rename_i hrq
    subst hrq
    have h2 : (s.mem m).rf = m.rf := rfl
    rw [h2, loadAt_same (hm _ _ hq)]
    unfold vl
    cases (loadAt s.rf agg (.ptr r off)).map AV.strip <;> rfl
   ·rfl
  ·rfl
 simp only [eff, hw, hstep] at he ⊢
 split at he
 ·simp at he
 ·simp only [Option.some.injEq, Prod.mk.injEq] at he ⊢
  obtain ⟨rfl, rfl, rfl⟩ := he
  exact ⟨rfl, rfl, rfl⟩
 ·cases hs : stepOp C s y.op with
  | none => rw [hs] at he; simp at he
  | some d =>
    rw [hs] at he
    cases d with
    | val u s' =>
      simp only [Option.some.injEq, Prod.mk.injEq] at he
      obtain ⟨rfl, rfl, rfl⟩ := he
      rfl
    | none_ s' =>
      simp only [Option.some.injEq, Prod.mk.injEq] at he
      obtain ⟨rfl, rfl, rfl⟩ := he
      rfl
    | pan u s' => simp at he
theorem sep_form {x y : AOpk} (h : sep y x = true) : y.cls = 1 ∧ ∃ agg a n, y = .loadB agg a (.t n) := by
 unfold sep at h
 split at h
 ·exact ⟨rfl, _, _, _, rfl⟩
 ·cases h
theorem eff_norm {C : CallFn} {o : AOp} {s : St} {v : Option AV} {b : Bool} {m : St} (he : eff C o s = some (v, b, m)) : m = { m with sl := [] } := by
 simp only [eff] at he
 split at he
 ·simp at he
 ·simp only [Option.some.injEq, Prod.mk.injEq] at he; rw [← he.2.2]
 ·split at he <;> first | (simp at he; done) | (simp only [Option.some.injEq, Prod.mk.injEq] at he; rw [← he.2.2])
end Go.Ab
