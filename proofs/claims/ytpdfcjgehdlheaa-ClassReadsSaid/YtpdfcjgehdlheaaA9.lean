/- Each operation does what the abstract one says: loads, stores, new memory. -/
import Derived.Test.YtpdfcjgehdlheaaA8
set_option linter.all false
namespace Go.Ab
section
variable {P : Program} {E : Env} {K : Ctx} {s : St} {a : Act} {w : World}

theorem RepCells.vals {b : Nat} : ∀ {l : List D} {o : Nat}, RepCells K.G b o l → ∃ vs, RepL K (l.map .d) vs ∧ ∀ (j : Nat) v, vs[j]? = some v → K.G b (o + j) = some v
  | [], o, _ => ⟨[], by simp [RepL], fun j v h => by simp at h⟩
  | x :: l, o, h => by
    simp only [RepCells] at h
    obtain ⟨⟨v, hv, hr⟩, hl⟩ := h
    obtain ⟨vs, h1, h2⟩ := RepCells.vals hl
    refine ⟨v :: vs, ?_, fun j u hj => ?_⟩
    · simp only [List.map_cons, RepL]
      exact ⟨v, vs, rfl, by simpa [Rep] using hr, h1⟩
    · cases j with
      | zero => simp only [List.getElem?_cons_zero, Option.some.injEq] at hj; subst hj; simpa using hv
      | succ j =>
        simp only [List.getElem?_cons_succ] at hj
        have := h2 j u hj
        rwa [show o + (j + 1) = o + 1 + j by omega]

theorem run_load_cell {ad : Addr} {v : Value} (h : w.cell? ad = some v) : (Go.load ad).run P w = .ok v w := by simp [run_load, h]

theorem run_loadVar {t : TypeId} {agg : Option Nat} {b o : Nat} {cs : List AV} {vs : List Value} {off : Nat} {v : AV} (hc : chkAgg P agg t = true) (hr : RepL K cs vs)
    (hcell : ∀ (j : Nat) u, vs[j]? = some u → w.cell? ⟨b, o + j, none⟩ = some u) (hv : partA agg cs off = some v) : ∃ pv, (loadVar t ⟨b, o + off, none⟩).run P w = .ok pv w ∧ Rep K v pv := by
  unfold chkAgg at hc
  unfold partA at hv
  split at hc
  · rename_i n
    simp only [Bool.and_eq_true, beq_iff_eq] at hc
    simp only at hv
    split at hv
    · rename_i hlen
      simp only [Option.some.injEq] at hv
      subst hv
      have hl : ((vs.drop off).take n).length = n := by
        have := hr.length
        simp; omega
      have hrun := run_loadCells_list (P := P) w ⟨b, o + off, none⟩ ((vs.drop off).take n) (fun j u hj => by
        rw [add_addr]
        have : vs[off + j]? = some u := by
          rw [List.getElem?_take] at hj
          split at hj
          · rwa [List.getElem?_drop] at hj
          · simp at hj
        rw [show o + off + j = o + (off + j) by omega]
        exact hcell _ _ this)
      rw [hl] at hrun
      refine ⟨.agg ((vs.drop off).take n).toArray, by simp [loadVar, run_isAgg hc.1, run_sizeOf hc.2, hrun], ?_⟩
      simp only [Rep]
      exact ⟨_, rfl, by simpa using RepL.take n (RepL.drop off hr)⟩
    · simp at hv
  · simp only [Bool.and_eq_true, beq_iff_eq] at hc
    simp only at hv
    obtain ⟨u, hu, hru⟩ := RepL.get hr hv
    exact ⟨u, by simp only [loadVar, Sem.run_bind, run_isAgg hc.1, Result.andThen_ok, Bool.false_eq_true, if_false]; exact run_load_cell (hcell _ _ hu), hru⟩

theorem loadAt_ptr {rf : Refs} {agg : Option Nat} {r off : Nat} {v : AV} (h : loadAt rf agg (.ptr r off) = some v) : ∃ cs, rf[r]? = some cs ∧ partA agg cs off = some v := by
  unfold loadAt at h
  cases agg with
  | none =>
    simp only at h
    split at h
    · rename_i cs hcs
      exact ⟨cs, hcs, h⟩
    · simp at h
  | some n =>
    simp only [Option.map_eq_some_iff] at h
    obtain ⟨l, hl, rfl⟩ := h
    unfold Refs.cellsAt at hl
    split at hl
    · rename_i cs hcs
      split at hl
      · rename_i hlen
        simp only [Option.some.injEq] at hl
        subst hl
        exact ⟨cs, hcs, by simp [partA, hlen]⟩
      · simp at hl
    · simp at hl

theorem loadAt_ept {rf : Refs} {agg : Option Nat} {cs : List D} {off : Nat} {v : AV} (h : loadAt rf agg (.ept cs off) = some v) : partA agg (cs.map .d) off = some v := by
  unfold loadAt at h
  cases agg with
  | none => simpa [partA] using h
  | some n =>
    simp only at h
    split at h
    · rename_i hlen
      simp only [Option.some.injEq] at h
      subst h
      simp [partA, hlen, List.map_drop, List.map_take]
    · simp at h

theorem run_load_any (h : Sim E K s a.tmps w) {t : TypeId} {agg : Option Nat} {p : AV} {pv : Value} {v : AV} (hc : chkAgg P agg t = true) (hp : Rep K p pv) (hv : loadAt s.rf agg p = some v) :
    ∃ ad u, pv = .pointer (some ad) ∧ (loadVar t ad).run P w = .ok u w ∧ Rep K v u := by
  cases p <;> try (simp [loadAt] at hv; done)
  · rename_i r off
    obtain ⟨cs, hcs, hpart⟩ := loadAt_ptr hv
    obtain ⟨b, vs, el, hρ, hb, hr⟩ := h.refs r cs hcs
    simp only [Rep] at hp
    obtain ⟨b', hρ', rfl⟩ := hp
    rw [hρ] at hρ'
    cases hρ'
    obtain ⟨u, hrun, hru⟩ := run_loadVar (P := P) (w := w) (b := b) (o := 0) hc hr (fun j u hj => by
      rw [cell_of hb, Nat.zero_add]
      simpa using hj) hpart
    exact ⟨⟨b, off, none⟩, u, rfl, by simpa using hrun, hru⟩
  · rename_i cs off
    have hpart := loadAt_ept hv
    simp only [Rep] at hp
    obtain ⟨b, o, rfl, hcells⟩ := hp
    obtain ⟨vs, hr, hG⟩ := hcells.vals
    obtain ⟨u, hrun, hru⟩ := run_loadVar (P := P) (w := w) (b := b) (o := o) hc hr (fun j u hj => h.cells b (o + j) u (hG j u hj)) hpart
    exact ⟨_, u, rfl, hrun, hru⟩

theorem ok_load {agg : Option Nat} {x : Opd} {y : Operand} {t : TypeId} {o : Oper} {p : AV} {d : Did} (ho : o.op = .load t y) (h : Sim E K s a.tmps w) (h1 : chkO x y = true) (hc : chkAgg P agg t = true)
    (hx : getO s.sl x = some p) (hd : vl s ((loadAt s.rf agg p).map AV.strip) = some d) : OpOK P E K s a w o d := by
  obtain ⟨v, hv, rfl⟩ := vl_of hd
  simp only [Option.map_eq_some_iff] at hv
  obtain ⟨v0, hv0, rfl⟩ := hv
  obtain ⟨ad, u, hpv, hrun, hru⟩ := run_load_any h hc (getO_rep h h1 hx) hv0
  refine opOK_pure h (pv := u) ?_ (Rep.strip _ _ hru) (strip_not_own _)
  simp only [execOp, ho, hpv, Instr.loadAt, Instr.sureAddr, Sem.run_bind, Sem.run_pure, Result.andThen_ok, hrun]

theorem ok_takeload {x : Opd} {y : Operand} {t : TypeId} {o : Oper} {r off : Nat} {v : AV} {cs : List AV} (ho : o.op = .load t y) (h : Sim E K s a.tmps w) (h1 : chkO x y = true) (hc : chkAgg P none t = true)
    (hx : getO s.sl x = some (.ptr r off)) (hv : loadAt s.rf none (.ptr r off) = some v) (hcs : s.rf[r]? = some cs) : OpOK P E K s a w o (.val v { s with rf := s.rf.set r (cs.set off v.strip) }) := by
  obtain ⟨ad, u, hpv, hrun, hru⟩ := run_load_any h hc (getO_rep h h1 hx) hv
  have hget : cs[off]? = some v := by simpa [loadAt, hcs] using hv
  obtain ⟨b, vs, el, hρ, hb, hr⟩ := h.refs r cs hcs
  obtain ⟨u', hu', hru'⟩ := RepL.get hr hget
  have hp := getO_rep h h1 hx
  simp only [Rep] at hp
  obtain ⟨b', hρ', hpv'⟩ := hp
  rw [hρ] at hρ'
  cases hρ'
  rw [hpv] at hpv'
  cases hpv'
  have huu : u = u' := by
    simp only [chkAgg, Bool.and_eq_true, beq_iff_eq] at hc
    have h2 : (loadVar t ⟨b, off, none⟩).run P w = .ok u' w := by
      simp only [loadVar, Sem.run_bind, run_isAgg hc.1, Result.andThen_ok, Bool.false_eq_true, if_false]
      exact run_load_cell (by rw [cell_of hb]; simpa using hu')
    rw [h2] at hrun
    cases hrun; rfl
  subst huu
  have hset : RepL K (cs.set off v.strip) vs.toList := by
    have := RepL.set (i := off) hr (Rep.strip _ _ hru)
    rwa [show vs.toList.set off u = vs.toList from by
      apply List.ext_getElem?
      intro j
      by_cases hj : off = j
      · subst hj
        rw [List.getElem?_set_self (List.getElem?_eq_some_iff.1 hu').1, hu']
      · rw [List.getElem?_set_ne hj]] at this
  have hsim := h.setRef (w' := w) (i0 := none) hcs hρ hb hset hb (fun _ _ => rfl) rfl rfl rfl rfl (fun i es hi _ => by
    by_cases e : off = i
    · subst e
      rw [List.getElem?_set_self (List.getElem?_eq_some_iff.1 hget).1] at hi
      simp only [Option.some.injEq] at hi
      exact absurd hi (strip_not_own v es)
    · rw [List.getElem?_set_ne e] at hi
      exact ⟨hi, rfl⟩) (fun i es v hi => by simp at hi)
  refine ⟨u, w, K, ?_, hsim, hru, fun es e => ?_, Up.refl _ _⟩
  · simp only [execOp, ho, hpv, Instr.loadAt, Instr.sureAddr, Sem.run_bind, Sem.run_pure, Result.andThen_ok, hrun]
  · subst e
    have hh : holds K s a.tmps w (.rf r off) (.own es) u := ⟨cs, b, hcs, hget, hρ, by rw [cell_of hb]; simpa using hu'⟩
    refine ⟨h.own _ _ _ hh, fun bb hbb => ⟨h.tO _ _ _ _ hh hbb, fun ℓ es' v' _ h2 hb2 => ?_⟩⟩
    have h2' : holds K s a.tmps w ℓ (.own es') v' ∧ ℓ ≠ .rf r off := by
      cases ℓ with
      | sl t => exact ⟨h2, by simp⟩
      | rf r' i =>
        obtain ⟨cs1, β, g1, g2, g3, g4⟩ := h2
        simp only at g1
        by_cases e : r = r'
        · subst e
          rw [List.getElem?_set_self (List.getElem?_eq_some_iff.1 hcs).1] at g1
          cases g1
          by_cases e2 : off = i
          · subst e2
            rw [List.getElem?_set_self (List.getElem?_eq_some_iff.1 hget).1] at g2
            simp only [Option.some.injEq] at g2
            exact absurd g2 (strip_not_own _ _)
          · rw [List.getElem?_set_ne e2] at g2
            exact ⟨⟨cs, β, hcs, g2, g3, g4⟩, by simp; omega⟩
        · rw [List.getElem?_set_ne e] at g1
          exact ⟨⟨cs1, β, g1, g2, g3, g4⟩, by simp; omega⟩
    exact h2'.2 (h.uniq ℓ (.rf r off) es' es v' u bb h2'.1 hh hb2 hbb)

theorem cellFree {b o : Nat} {c : Array Value} {el : TypeId} {fz : Nat × Nat} (h : w.heap[b]? = some (.cells c el fz)) (hz : fz.1 = fz.2 ∨ c.size ≤ fz.1) (ho : o < c.size) : w.frozen? ⟨b, o, none⟩ = false := by
  obtain ⟨lo, hi⟩ := fz
  simp only at hz
  simp only [World.frozen?, h, Bool.and_eq_false_imp, decide_eq_true_eq, decide_eq_false_iff_not]
  omega

theorem heap_set {b o : Nat} {c : Array Value} {el : TypeId} {fz : Nat × Nat} {v : Value} (h : w.heap[b]? = some (.cells c el fz)) : (w.setCell ⟨b, o, none⟩ v).heap[b]? = some (.cells (c.setIfInBounds o v) el fz) := by
  simp [World.setCell, Array.getElem?_modify, h]

theorem heap_set_ne {b k o : Nat} {v : Value} (h : k ≠ b) : (w.setCell ⟨b, o, none⟩ v).heap[k]? = w.heap[k]? := by
  simp only [World.setCell, Array.getElem?_modify]
  rw [if_neg (by omega)]

theorem run_storeCells {b : Nat} {el : TypeId} {fz : Nat × Nat} : ∀ (vs : List Value) (off i : Nat) (c : List Value) (w : World), w.heap[b]? = some (.cells c.toArray el fz) → off + i + vs.length ≤ c.length →
    (∀ v, v ∈ vs → v.oneCell' = true) → (fz.1 = fz.2 ∨ c.length ≤ fz.1) →
    ∃ w', (storeCells ⟨b, off, none⟩ vs i).run P w = .ok () w' ∧ w'.heap[b]? = some (.cells (setRangeV c (off + i) vs).toArray el fz) ∧ (∀ k, k ≠ b → w'.heap[k]? = w.heap[k]?) ∧ w'.heap.size = w.heap.size ∧ w'.os = w.os ∧ w'.tape = w.tape ∧ w'.output = w.output
  | [], off, i, c, w, h, _, _, _ => ⟨w, by simp [storeCells], by simpa [setRangeV] using h, fun _ _ => rfl, rfl, rfl, rfl, rfl⟩
  | v :: vs, off, i, c, w, h, hl, hone, hz => by
    simp only [List.length_cons] at hl
    have hcell : w.cell? ⟨b, off + i, none⟩ = some c[off + i] := by
      rw [cell_of h]
      simp
    have hfr : w.frozen? ⟨b, off + i, none⟩ = false := cellFree h (by simpa using hz) (by simp; omega)
    have h1 : (w.setCell ⟨b, off + i, none⟩ v).heap[b]? = some (.cells (c.set (off + i) v).toArray el fz) := by
      rw [heap_set h]; simp
    obtain ⟨w', hr, g1, g2, g3, g4, g5, g6⟩ := run_storeCells vs off (i + 1) (c.set (off + i) v) (w.setCell ⟨b, off + i, none⟩ v) h1 (by simp; omega) (fun u hu => hone u (List.mem_cons_of_mem _ hu)) (by simpa using hz)
    refine ⟨w', ?_, by simpa [setRangeV, Nat.add_assoc] using g1, fun k hk => by rw [g2 k hk, heap_set_ne hk], by rw [g3]; simp, by rw [g4]; rfl, by rw [g5]; rfl, by rw [g6]; rfl⟩
    have hst : (Go.store ⟨b, off + i, none⟩ v).run P w = .ok () (w.setCell ⟨b, off + i, none⟩ v) := by
      rw [run_store P w _ v _ (hone v (by simp)), hcell]
      simp [hfr]
    simp only [storeCells, Sem.run_bind, add_addr, hst, Result.andThen_ok, hr]

theorem one_rep {x : AV} {v : Value} (h : x.one = true) (hr : Rep K x v) : v.oneCell' = true := by
  cases x <;> simp only [AV.one, Bool.false_eq_true] at h <;> simp only [Rep] at hr
  · rename_i d
    cases d <;> simp only [RepD] at hr
    all_goals first
      | (subst hr; rfl)
      | (obtain ⟨_, _, rfl, _⟩ := hr; rfl)
  · subst hr; rfl
  · simp only [RepD] at hr
    obtain ⟨_, _, rfl, _⟩ := hr; rfl
  · obtain ⟨_, _, rfl⟩ := hr; rfl
  · obtain ⟨_, _, rfl, _⟩ := hr; rfl
  · obtain ⟨_, _, _, _, rfl, _⟩ := hr; rfl
  · obtain ⟨_, _, rfl, _⟩ := hr; rfl
  · obtain ⟨_, rfl, _⟩ := hr; rfl

theorem ones_rep : ∀ {l : List AV} {vs : List Value}, l.all AV.one = true → RepL K l vs → ∀ v, v ∈ vs → v.oneCell' = true
  | [], vs, _, hr, v, hv => by simp only [RepL] at hr; subst hr; simp at hv
  | x :: l, vs, h, hr, v, hv => by
    simp only [List.all_cons, Bool.and_eq_true] at h
    simp only [RepL] at hr
    obtain ⟨u, r, rfl, hx, hl⟩ := hr
    simp only [List.mem_cons] at hv
    rcases hv with rfl | hv
    · exact one_rep h.1 hx
    · exact ones_rep h.2 hl v hv

/-- the cells of a value, as they are stored -/
theorem cells_rep {x : AV} {v : Value} (h : Rep K x v) (hone : x.one = true ∨ ∃ cs, x = .agg cs) : RepL K x.cellsO v.cells.toList := by
  rcases hone with h1 | ⟨cs, rfl⟩
  · have := one_rep h1 h
    have hv : v.cells = #[v] := by cases v <;> simp [Value.oneCell', Value.cells] at this ⊢
    rw [hv]
    cases x <;> simp only [AV.one, Bool.false_eq_true] at h1 <;> (simp only [AV.cellsO, RepL]; exact ⟨v, [], rfl, h, rfl⟩)
  · simp only [Rep] at h
    obtain ⟨vs, rfl, hr⟩ := h
    simp only [AV.cellsO, Value.cells]
    exact RepL.strips _ _ hr

theorem cells_rep' {x : AV} {v : Value} (h : Rep K x v) (hone : x.one = true ∨ ∃ cs, x = .agg cs) : RepL K x.cells v.cells.toList := by
  rcases hone with h1 | ⟨cs, rfl⟩
  · have := one_rep h1 h
    have hv : v.cells = #[v] := by cases v <;> simp [Value.oneCell', Value.cells] at this ⊢
    rw [hv]
    cases x <;> simp only [AV.one, Bool.false_eq_true] at h1 <;> (simp only [AV.cells, RepL]; exact ⟨v, [], rfl, h, rfl⟩)
  · simp only [Rep] at h
    obtain ⟨vs, rfl, hr⟩ := h
    exact hr

theorem setRange_get {l m : List AV} {off : Nat} (h : off + m.length ≤ l.length) (j : Nat) : (setRange l off m)[j]? = if off ≤ j ∧ j < off + m.length then m[j - off]? else l[j]? := by
  induction m generalizing l off with
  | nil => simp [setRange]; omega
  | cons x m ih =>
    simp only [List.length_cons] at h
    simp only [setRange]
    rw [ih (by simp; omega)]
    simp only [List.length_cons]
    by_cases h1 : off + 1 ≤ j ∧ j < off + 1 + m.length
    · rw [if_pos h1, if_pos (by omega), show j - off = (j - (off + 1)) + 1 by omega, List.getElem?_cons_succ]
    · rw [if_neg h1]
      by_cases h2 : off = j
      · subst h2
        rw [List.getElem?_set_self (by omega), if_pos (by omega)]
        simp
      · rw [List.getElem?_set_ne h2, if_neg (by omega)]

theorem setRangeV_get {l m : List Value} {off : Nat} (h : off + m.length ≤ l.length) (j : Nat) : (setRangeV l off m)[j]? = if off ≤ j ∧ j < off + m.length then m[j - off]? else l[j]? := by
  induction m generalizing l off with
  | nil => simp [setRangeV]; omega
  | cons x m ih =>
    simp only [List.length_cons] at h
    simp only [setRangeV]
    rw [ih (by simp; omega)]
    simp only [List.length_cons]
    by_cases h1 : off + 1 ≤ j ∧ j < off + 1 + m.length
    · rw [if_pos h1, if_pos (by omega), show j - off = (j - (off + 1)) + 1 by omega, List.getElem?_cons_succ]
    · rw [if_neg h1]
      by_cases h2 : off = j
      · subst h2
        rw [List.getElem?_set_self (by omega), if_pos (by omega)]
        simp
      · rw [List.getElem?_set_ne h2, if_neg (by omega)]

theorem setRangeV_len {l m : List Value} {off : Nat} : (setRangeV l off m).length = l.length := by
  induction m generalizing l off with
  | nil => rfl
  | cons x m ih => simp [setRangeV, ih]

theorem unOwn_set (s : St) (rf : Refs) (x : Opd) : unOwn { s with rf := rf } x = { unOwn s x with rf := rf } := by
  unfold unOwn
  split
  · simp only
    split <;> rfl
  · rfl

theorem ok_store {sz : Nat} {x v : Opd} {x' v' : Operand} {t : TypeId} {o : Oper} {p u : AV} {rf : Refs} (ho : o.op = .store t x' v') (h : Sim E K s a.tmps w) (h1 : chkO x x' = true) (h2 : chkO v v' = true) (hsz : sizeT P t = some sz)
    (hx : getO s.sl x = some p) (hu : rawO s.sl v = some u) (hst : storeAt s.rf s.nb sz p u = some rf) : OpOK P E K s a w o (.none_ (unOwn { s with rf := rf } v)) := by
  have hp := getO_rep h h1 hx
  have hur := rawO_rep h h2 hu
  unfold storeAt at hst
  split at hst
  · rename_i r off
    simp only at hst
    split at hst
    · simp at hst
    · rename_i hc
      split at hst
      · rename_i cs hcs
        split at hst
        · rename_i hcc
          simp only [Option.some.injEq] at hst
          subst hst
          have hlen : u.cellsO.length = sz := Classical.byContradiction fun e => hc (.inl e)
          have hall : u.cellsO.all AV.one = true := by
            cases hh : u.cellsO.all AV.one with
            | true => rfl
            | false => exact absurd (.inr hh) hc
          have hone : u.one = true ∨ ∃ cs, u = .agg cs := by
            cases u <;> simp_all [AV.one, AV.cellsO]
          have hcr := cells_rep hur hone
          have hvl : (a.eval v').cells.toList.length = sz := by rw [hcr.length]; exact hlen
          simp only [Rep] at hp
          obtain ⟨b, hρ, hpv⟩ := hp
          obtain ⟨b', vs, el, hρ', hb, hr⟩ := h.refs r cs hcs
          rw [hρ] at hρ'
          cases hρ'
          have hvsl : vs.toList.length = cs.length := hr.length
          obtain ⟨w', hrun, g1, g2, g3, g4, g5, g6⟩ := run_storeCells (P := P) (b := b) (el := el) (fz := (0, 0)) (a.eval v').cells.toList off 0 vs.toList w (by simpa using hb) (by omega) (ones_rep hall hcr) (.inl rfl)
          have hrep : RepL K (setRange cs off u.cellsO) (setRangeV vs.toList (off + 0) (a.eval v').cells.toList).toArray.toList := by
            simpa using RepL.setRange (off := off) hr hcr
          -- the value's leave to append goes along
          have hfresh : Fresh E K (unOwn s v) a.tmps w none u (a.eval v') := by
            cases v with
            | t n =>
              cases v' <;> simp [chkO] at h2
              subst h2
              exact h.fresh_raw hu none
            | c av =>
              cases v' <;> simp [chkO] at h2
              simp only [rawO, Option.some.injEq] at hu
              subst hu
              refine fresh_of_not_own fun es e => ?_
              subst e
              exact absurd h2.1 (by unfold chkV; simp)
            | f id =>
              simp only [rawO, Option.some.injEq] at hu
              subst hu
              exact fresh_of_not_own fun es e => by cases e
          have hs1 := h.unOwn v
          have hcs1 : (unOwn s v).rf[r]? = some cs := by rw [unOwn_rf]; exact hcs
          have hnoU : ∀ (j : Nat) es, u.cellsO[j]? = some (.own es) → j = 0 ∧ u = .own es := fun j es hj => by
            cases u <;> simp only [AV.cellsO] at hj
            case agg zs =>
              have : ∀ (l : List AV) (i : Nat), (AV.strips l)[i]? ≠ some (.own es) := fun l => by
                induction l with
                | nil => intro i; simp [AV.strips]
                | cons c l ih =>
                  intro i
                  cases i with
                  | zero => simp only [AV.strips, List.getElem?_cons_zero, ne_eq, Option.some.injEq]; exact strip_not_own c es
                  | succ i => simp only [AV.strips, List.getElem?_cons_succ]; exact ih i
              exact absurd hj (this _ _)
            all_goals (cases j <;> simp at hj <;> exact ⟨rfl, by simp [hj]⟩)
          have hsim := hs1.setRef (w' := w') (i0 := some off) hcs1 hρ hb hrep g1 g2 g3 g4 g5 g6 (fun i es hi hne => by
            rw [setRange_get (by omega)] at hi
            split at hi
            · rename_i hin
              have := hnoU _ _ hi
              exact absurd (by congr 1; omega) hne
            · rename_i hin
              refine ⟨hi, ?_⟩
              rw [List.getElem?_toArray, setRangeV_get (by omega), if_neg (by omega), Array.getElem?_toList]) (fun i es pv hi hown hpv2 => by
            simp only [Option.some.injEq] at hi
            subst hi
            rw [setRange_get (by omega)] at hown
            by_cases hz : off ≤ off ∧ off < off + u.cellsO.length
            · rw [if_pos hz] at hown
              obtain ⟨_, rfl⟩ := hnoU _ _ hown
              rw [List.getElem?_toArray, setRangeV_get (by omega), if_pos (by omega)] at hpv2
              have hcells : (a.eval v').cells.toList = [a.eval v'] := by
                have := one_rep (K := K) (x := .own es) rfl hur
                cases hev : a.eval v' <;> simp [hev, Value.oneCell', Value.cells] at this ⊢
              rw [hcells] at hpv2
              simp at hpv2
              subst hpv2
              obtain ⟨f1, f2⟩ := hfresh es rfl
              exact ⟨f1, fun bb hbb => ⟨(f2 bb hbb).1, fun ℓ es' uu _ hh => (f2 bb hbb).2 ℓ es' uu (by simp) hh⟩⟩
            · have hzero : sz = 0 := by omega
              rw [if_neg hz] at hown
              -- nothing is stored: the cell was owned before
              have hl0 : u.cellsO = [] := List.length_eq_zero_iff.1 (by omega)
              rw [List.getElem?_toArray, setRangeV_get (by omega), if_neg (by omega)] at hpv2
              have hh : holds K (unOwn s v) a.tmps w (.rf r off) (.own es) pv := ⟨cs, b, hcs1, hown, hρ, by rw [cell_of hb]; simpa using hpv2⟩
              refine ⟨hs1.own _ _ _ hh, fun bb hbb => ⟨hs1.tO _ _ _ _ hh hbb, fun ℓ es' uu hne h3 hb3 => hne (hs1.uniq ℓ (.rf r off) es' es uu pv bb h3 hh hb3 hbb)⟩⟩)
          refine ⟨w', K, ?_, ?_, Up.refl _ _⟩
          · simp only [execOp, ho, hpv, Instr.storeAt, Instr.sureAddr, Sem.run_bind, Sem.run_pure, Result.andThen_ok, storeVar, run_sizeOf hsz]
            have hsize : (a.eval v').cells.size = sz := by rw [← hvl, Array.length_toList]
            rw [if_neg (by simp [hsize])]
            simp [hrun]
          · rw [unOwn_set]
            rw [unOwn_rf] at hsim
            exact hsim
        · simp at hst
      · simp at hst
  · simp at hst

end
end Go.Ab
