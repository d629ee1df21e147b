/- New rows, rows that grow, references that are written. -/
import Derived.Test.YtpdfcjgehdlheaaA5
set_option linter.all false
namespace Go.Ab

theorem rows_of_flat {G : Ghost} {b sz : Nat} : ∀ {es : List (List D)} {o : Nat}, (∀ e, e ∈ es → e.length = sz) →
    (∀ (j : Nat) x, es.flatten[j]? = some x → ∃ v, G b (o + j) = some v ∧ RepD G x v) → RepRows G b sz o es
  | [], o, _, _ => by simp [RepRows]
  | e :: es, o, hl, h => by
    simp only [RepRows]
    have hcells : ∀ (l : List D) (o' : Nat), (∀ (j : Nat) x, l[j]? = some x → ∃ v, G b (o' + j) = some v ∧ RepD G x v) → RepCells G b o' l := fun l => by
      induction l with
      | nil => intro o' _; simp [RepCells]
      | cons x l ih =>
        intro o' hx
        simp only [RepCells]
        refine ⟨by simpa using hx 0 x (by simp), ih (o' + 1) fun j y hy => ?_⟩
        have := hx (j + 1) y (by simpa using hy)
        rwa [show o' + (j + 1) = o' + 1 + j by omega] at this
    refine ⟨hl e (by simp), hcells e o fun j x hx => h j x ?_, rows_of_flat (fun e he => hl e (List.mem_cons_of_mem _ he)) fun j x hx => ?_⟩
    · simp only [List.flatten_cons]
      rw [List.getElem?_append_left (List.getElem?_eq_some_iff.1 hx).1]
      exact hx
    · have := h (sz + j) x (by
        simp only [List.flatten_cons]
        rw [List.getElem?_append_right (by rw [hl e (by simp)]; omega), hl e (by simp)]
        rw [show sz + j - sz = j by omega]
        exact hx)
      rwa [show o + (sz + j) = o + sz + j by omega] at this

theorem flat_of_rows {G : Ghost} {b sz : Nat} : ∀ {es : List (List D)} {o : Nat}, RepRows G b sz o es → ∀ (j : Nat) x, es.flatten[j]? = some x → ∃ v, G b (o + j) = some v ∧ RepD G x v
  | [], o, _, j, x, h => by simp at h
  | e :: es, o, r, j, x, h => by
    simp only [RepRows] at r
    simp only [List.flatten_cons] at h
    by_cases hj : j < e.length
    · rw [List.getElem?_append_left hj] at h
      exact RepCells.get r.2.1 h
    · rw [List.getElem?_append_right (by omega)] at h
      have := flat_of_rows r.2.2 _ _ h
      rwa [show o + sz + (j - e.length) = o + j by omega] at this

theorem rows_len {G : Ghost} {b sz : Nat} : ∀ {es : List (List D)} {o : Nat}, RepRows G b sz o es → ∀ e, e ∈ es → e.length = sz
  | [], o, _, e, h => by simp at h
  | x :: es, o, r, e, h => by
    simp only [RepRows] at r
    simp only [List.mem_cons] at h
    rcases h with rfl | h
    · exact r.1
    · exact rows_len r.2.2 e h

theorem flat_len {sz : Nat} : ∀ {es : List (List D)}, (∀ e, e ∈ es → e.length = sz) → es.flatten.length = es.length * sz
  | [], _ => by simp
  | e :: es, h => by
    simp only [List.flatten_cons, List.length_append, List.length_cons, h e (by simp), flat_len (fun e he => h e (List.mem_cons_of_mem _ he)), Nat.add_mul]
    omega

/-- a new row, which may grow behind its elements -/
theorem Sim.newRow {E : Env} {K : Ctx} {s : St} {tm : Array Value} {w : World} (h : Sim E K s tm w) {es : List (List D)} {sz : Nat} {c : Array Value} {el : TypeId} {fz : Nat × Nat}
    (hl : ∀ e, e ∈ es → e.length = sz) (hc : ∀ (j : Nat) x, es.flatten[j]? = some x → ∃ v, c[j]? = some v ∧ RepD K.G x v)
    (hz : fz.1 = fz.2 ∨ c.size ≤ fz.1) :
    ∃ K', Sim E K' s tm (w.alloc (.cells c el fz)) ∧ K'.ρ = K.ρ ∧ Le K.G K'.G ∧ RepRows K'.G w.heap.size sz 0 es ∧ K'.F w.heap.size = some (es.length * sz) := by
  have hgb : ∀ b o v, K.G b o = some v → b < w.heap.size := fun b o v hg => cell_lt (h.cells b o v hg)
  have hfb : ∀ b f, K.F b = some f → b < w.heap.size := fun b f hf => by
    obtain ⟨⟨c, el, fz, hc, _⟩, _⟩ := h.rows b f hf
    exact heap_lt hc
  have hbl : ∀ r b, r < s.rf.length → K.ρ r = some b → b < w.heap.size := fun r b hr hb => by
    obtain ⟨cs, hcs⟩ : ∃ cs, s.rf[r]? = some cs := ⟨_, List.getElem?_eq_getElem hr⟩
    obtain ⟨b', vs', el', h1, h2, _⟩ := h.refs r cs hcs
    rw [h1] at hb
    cases hb
    exact heap_lt h2
  have hold : ∀ (b : Nat) (o : Obj), w.heap[b]? = some o → (w.alloc (.cells c el fz)).heap[b]? = some o := fun b o hb => by
    rw [alloc_old (heap_lt hb)]; exact hb
  let G' : Ghost := fun b o => if b = w.heap.size then (if o < es.length * sz then c[o]? else none) else K.G b o
  let K' : Ctx := { G := G', F := updN K.F w.heap.size (some (es.length * sz)), ρ := K.ρ }
  have hG' : ∀ b o, b ≠ w.heap.size → G' b o = K.G b o := fun b o hb => by simp only [G']; rw [if_neg hb]
  have hle : Le K.G G' := fun b o v hg => by
    rw [hG' b o (by have := hgb b o v hg; omega)]; exact hg
  have hF' : ∀ b, b ≠ w.heap.size → K'.F b = K.F b := fun b hb => by simp only [K', updN]; rw [if_neg hb]
  have hh : ∀ ℓ es v, holds K' s tm (w.alloc (.cells c el fz)) ℓ (.own es) v → holds K s tm w ℓ (.own es) v := fun ℓ es v h' => by
    cases ℓ with
    | sl t => exact h'
    | rf r i =>
      obtain ⟨cs', β, h1, h2, h3, h4⟩ := h'
      have := hbl r β (List.getElem?_eq_some_iff.1 h1).1 h3
      rw [cell_alloc this] at h4
      exact ⟨cs', β, h1, h2, h3, h4⟩
  refine ⟨K', ⟨by simp; have := h.size; omega, h.os, h.tape, h.output, fun b hb hT => ?_, h.gle.trans hle, h.rho, fun b o v hg => ?_, fun r cs' hcs => ?_, fun r b hr hb => ?_, h.inj, fun b f hf => ?_, fun t av ha => ?_,
    fun ℓ es v h1 => ?_, fun ℓ ℓ' es es' v v' b h1 h2 => h.uniq ℓ ℓ' es es' v v' b (hh _ _ _ h1) (hh _ _ _ h2), fun ℓ es v b h1 => h.tO ℓ es v b (hh _ _ _ h1), h.tR⟩, rfl, hle, ?_, by simp [K', updN]⟩
  · have := h.size
    rw [alloc_old (by omega), hF' b (by omega)]
    refine ⟨(h.keep b hb hT).1, (h.keep b hb hT).2.1, fun o => ?_⟩
    show G' b o = _
    rw [hG' b o (by omega)]
    exact (h.keep b hb hT).2.2 o
  · change G' b o = some v at hg
    by_cases hb : b = w.heap.size
    · subst hb
      simp only [G', if_true] at hg
      split at hg
      · rw [cell_of (alloc_new _ _)]; exact hg
      · simp at hg
    · rw [hG' b o hb] at hg
      rw [cell_alloc (hgb b o v hg)]
      exact h.cells b o v hg
  · obtain ⟨b, vs', el', h1, h2, h3⟩ := h.refs r cs' hcs
    exact ⟨b, vs', el', h1, hold _ _ h2, RepL.mono (K := K) (K' := K') (n := AV.refBs cs') hle (fun _ _ => rfl) _ _ (Nat.le_refl _) h3⟩
  · have := hbl r b hr hb
    rw [hF' b (by omega)]
    refine ⟨(h.refG r b hr hb).1, fun o => ?_⟩
    show G' b o = _
    rw [hG' b o (by omega)]
    exact (h.refG r b hr hb).2 o
  · by_cases hb : b = w.heap.size
    · subst hb
      simp only [K', updN, if_true, Option.some.injEq] at hf
      subst hf
      refine ⟨⟨c, el, fz, alloc_new _ _, hz⟩, fun o ho => ?_⟩
      show G' _ o = _
      simp only [G', if_true]
      rw [if_neg (by omega)]
    · rw [hF' b hb] at hf
      obtain ⟨⟨c', el', fz', hc', hz'⟩, hg⟩ := h.rows b f hf
      refine ⟨⟨c', el', fz', hold _ _ hc', hz'⟩, fun o ho => ?_⟩
      show G' b o = _
      rw [hG' b o hb]
      exact hg o ho
  · have := h.slots t av ha
    exact ⟨this.1, Rep.mono (K := K) (K' := K') (n := av.refB) hle (fun _ _ => rfl) _ _ (Nat.le_refl _) this.2⟩
  · refine (h.own ℓ es v (hh _ _ _ h1)).mono hle (fun b f hf _ => ?_) (fun b _ c el' fz hc => ⟨c, hold _ _ hc, rfl⟩)
    rw [hF' b (by have := hfb b f hf; omega)]; exact hf
  · refine rows_of_flat hl fun j x hx => ?_
    obtain ⟨v, hv, hr⟩ := hc j x hx
    refine ⟨v, ?_, RepD.mono hle x v hr⟩
    show G' _ _ = _
    have hj : j < es.length * sz := by
      have := (List.getElem?_eq_some_iff.1 hx).1
      rwa [flat_len hl] at this
    simp only [G', if_true, Nat.zero_add, if_pos hj]
    exact hv

/-- a row that grows where it lies -/
theorem Sim.growRow {E : Env} {K : Ctx} {s : St} {tm : Array Value} {w w' : World} (h : Sim E K s tm w) {b f m : Nat} {c c' : Array Value} {el : TypeId} {fz fz' : Nat × Nat}
    (hf : K.F b = some f) (hb : w.heap[b]? = some (.cells c el fz)) (hb' : w'.heap[b]? = some (.cells c' el fz')) (hz' : fz'.1 = fz'.2 ∨ c'.size ≤ fz'.1) (hc : ∀ o, o < f → c'[o]? = c[o]?)
    (hoth : ∀ k, k ≠ b → w'.heap[k]? = w.heap[k]?) (hsz : w'.heap.size = w.heap.size) (hos : w'.os = w.os) (htape : w'.tape = w.tape) (hout : w'.output = w.output)
    (hT : b < E.w0.heap.size → E.T b) (hno : ∀ ℓ es v, holds K s tm w ℓ (.own es) v → blk v ≠ some b) :
    ∃ K', Sim E K' s tm w' ∧ K'.ρ = K.ρ ∧ Le K.G K'.G ∧ (∀ o, f ≤ o → o < f + m → K'.G b o = c'[o]?) ∧ K'.F b = some (f + m) := by
  have hfree := (h.rows b f hf).2
  have hrefne : ∀ r β, r < s.rf.length → K.ρ r = some β → β ≠ b := fun r β hr hβ e => by
    subst e
    rw [(h.refG r _ hr hβ).1] at hf
    cases hf
  let G' : Ghost := fun k o => if k = b ∧ f ≤ o ∧ o < f + m then c'[o]? else K.G k o
  let K' : Ctx := { G := G', F := updN K.F b (some (f + m)), ρ := K.ρ }
  have hG' : ∀ k o, k ≠ b → G' k o = K.G k o := fun k o hk => by simp only [G']; rw [if_neg (by simp [hk])]
  have hle : Le K.G G' := fun k o v hg => by
    by_cases hk : k = b ∧ f ≤ o ∧ o < f + m
    · obtain ⟨rfl, h1, h2⟩ := hk
      rw [hfree o h1] at hg; cases hg
    · simp only [G']; rw [if_neg hk]; exact hg
  have hF' : ∀ k, k ≠ b → K'.F k = K.F k := fun k hk => by simp only [K', updN]; rw [if_neg hk]
  have hcell : ∀ k o, k ≠ b → w'.cell? ⟨k, o, none⟩ = w.cell? ⟨k, o, none⟩ := fun k o hk => World.cell?_of_block (hoth k hk)
  have hh : ∀ ℓ es v, holds K' s tm w' ℓ (.own es) v → holds K s tm w ℓ (.own es) v := fun ℓ es v h' => by
    cases ℓ with
    | sl t => exact h'
    | rf r i =>
      obtain ⟨cs', β, h1, h2, h3, h4⟩ := h'
      rw [hcell β i (hrefne r β (List.getElem?_eq_some_iff.1 h1).1 h3)] at h4
      exact ⟨cs', β, h1, h2, h3, h4⟩
  refine ⟨K', ⟨by rw [hsz]; exact h.size, by rw [hos]; exact h.os, by rw [htape]; exact h.tape, by rw [hout]; exact h.output, fun k hk hTk => ?_, h.gle.trans hle, h.rho, fun k o v hg => ?_, fun r cs' hcs => ?_, fun r k hr hk => ?_, h.inj, fun k g hg => ?_, fun t av ha => ?_,
    fun ℓ es v h1 => ?_, fun ℓ ℓ' es es' v v' b h1 h2 => h.uniq ℓ ℓ' es es' v v' b (hh _ _ _ h1) (hh _ _ _ h2), fun ℓ es v b h1 => h.tO ℓ es v b (hh _ _ _ h1), h.tR⟩, rfl, hle, fun o h1 h2 => ?_, by simp [K', updN]⟩
  · have hne : k ≠ b := fun e => by subst e; exact hTk (hT hk)
    rw [hoth k hne, hF' k hne]
    refine ⟨(h.keep k hk hTk).1, (h.keep k hk hTk).2.1, fun o => ?_⟩
    show G' k o = _
    rw [hG' k o hne]
    exact (h.keep k hk hTk).2.2 o
  · change G' k o = some v at hg
    by_cases hk : k = b
    · subst hk
      rw [cell_of hb']
      by_cases ho : f ≤ o ∧ o < f + m
      · simp only [G'] at hg
        rw [if_pos (by simp [ho])] at hg
        exact hg
      · simp only [G'] at hg
        rw [if_neg (by simp; omega)] at hg
        by_cases ho' : f ≤ o
        · rw [hfree o ho'] at hg; cases hg
        · rw [hc o (by omega)]
          have := h.cells k o v hg
          rwa [cell_of hb] at this
    · rw [hG' k o hk] at hg
      rw [hcell k o hk]
      exact h.cells k o v hg
  · obtain ⟨β, vs', el', h1, h2, h3⟩ := h.refs r cs' hcs
    exact ⟨β, vs', el', h1, by rw [hoth β (hrefne r β (List.getElem?_eq_some_iff.1 hcs).1 h1)]; exact h2, RepL.mono (K := K) (K' := K') (n := AV.refBs cs') hle (fun _ _ => rfl) _ _ (Nat.le_refl _) h3⟩
  · have hne := hrefne r k hr hk
    rw [hF' k hne]
    refine ⟨(h.refG r k hr hk).1, fun o => ?_⟩
    show G' k o = _
    rw [hG' k o hne]
    exact (h.refG r k hr hk).2 o
  · by_cases hk : k = b
    · subst hk
      simp only [K', updN, if_true, Option.some.injEq] at hg
      subst hg
      refine ⟨⟨c', el, fz', hb', hz'⟩, fun o ho => ?_⟩
      show G' k o = _
      simp only [G']
      rw [if_neg (by omega)]
      exact hfree o (by omega)
    · rw [hF' k hk] at hg
      obtain ⟨⟨c1, el', fz', hc1, hz'⟩, hgg⟩ := h.rows k g hg
      refine ⟨⟨c1, el', fz', by rw [hoth k hk]; exact hc1, hz'⟩, fun o ho => ?_⟩
      show G' k o = _
      rw [hG' k o hk]
      exact hgg o ho
  · have := h.slots t av ha
    exact ⟨this.1, Rep.mono (K := K) (K' := K') (n := av.refB) hle (fun _ _ => rfl) _ _ (Nat.le_refl _) this.2⟩
  · have hbk := hno ℓ es v (hh _ _ _ h1)
    refine (h.own ℓ es v (hh _ _ _ h1)).mono hle (fun k g hg hk => ?_) (fun k hk c1 el' fz' hc1 => ⟨c1, ?_, rfl⟩)
    · rw [hF' k (fun e => hbk (by rw [hk, e]))]; exact hg
    · rw [hoth k (fun e => hbk (by rw [hk, e]))]; exact hc1
  · show G' b o = _
    simp only [G']
    rw [if_pos (by simp [h1, h2])]

/-- a reference is written -/
theorem Sim.setRef {E : Env} {K : Ctx} {s : St} {tm : Array Value} {w w' : World} (h : Sim E K s tm w) {r β : Nat} {cs cs' : List AV} {vs vs' : Array Value} {el : TypeId} {i0 : Option Nat}
    (hr : s.rf[r]? = some cs) (hβ : K.ρ r = some β) (hv : w.heap[β]? = some (.cells vs el)) (hrep : RepL K cs' vs'.toList)
    (hb' : w'.heap[β]? = some (.cells vs' el)) (hoth : ∀ k, k ≠ β → w'.heap[k]? = w.heap[k]?) (hsz : w'.heap.size = w.heap.size) (hos : w'.os = w.os) (htape : w'.tape = w.tape) (hout : w'.output = w.output)
    (hown : ∀ i es, cs'[i]? = some (.own es) → i0 ≠ some i → cs[i]? = some (.own es) ∧ vs'[i]? = vs[i]?)
    (hnew : ∀ i es v, i0 = some i → cs'[i]? = some (.own es) → vs'[i]? = some v → OwnV K w es v ∧ ∀ b, blk v = some b → (b < E.w0.heap.size → E.T b) ∧
      ∀ ℓ es' u, ℓ ≠ .rf r i → holds K s tm w ℓ (.own es') u → blk u ≠ some b) :
    Sim E K { s with rf := s.rf.set r cs' } tm w' := by
  have hrl : r < s.rf.length := (List.getElem?_eq_some_iff.1 hr).1
  have hFβ := (h.refG r β hrl hβ).1
  have hGβ := (h.refG r β hrl hβ).2
  have hcell : ∀ k o, k ≠ β → w'.cell? ⟨k, o, none⟩ = w.cell? ⟨k, o, none⟩ := fun k o hk => World.cell?_of_block (hoth k hk)
  have hne : ∀ r' k, r' < s.rf.length → K.ρ r' = some k → r' ≠ r → k ≠ β := fun r' k hr' hk hn e => by
    subst e
    exact hn (h.inj r' r k hr' hrl hk hβ)
  have hh : ∀ ℓ es v, holds K { s with rf := s.rf.set r cs' } tm w' ℓ (.own es) v → holds K s tm w ℓ (.own es) v ∨ ∃ i, i0 = some i ∧ ℓ = .rf r i ∧ cs'[i]? = some (.own es) ∧ vs'[i]? = some v := fun ℓ es v h' => by
    cases ℓ with
    | sl t => exact .inl h'
    | rf r' i =>
      obtain ⟨cs1, β', h1, h2, h3, h4⟩ := h'
      simp only at h1
      by_cases e : r = r'
      · subst e
        rw [List.getElem?_set_self hrl] at h1
        simp only [Option.some.injEq] at h1
        subst h1
        rw [hβ] at h3
        cases h3
        rw [cell_of hb'] at h4
        by_cases hi : i0 = some i
        · exact .inr ⟨i, hi, rfl, h2, h4⟩
        · obtain ⟨a1, a2⟩ := hown i es h2 hi
          refine .inl ⟨cs, β, hr, a1, hβ, ?_⟩
          rw [cell_of hv, ← a2]; exact h4
      · rw [List.getElem?_set_ne e] at h1
        have hl := (List.getElem?_eq_some_iff.1 h1).1
        rw [hcell β' i (hne r' β' hl h3 (fun x => e x.symm))] at h4
        exact .inl ⟨cs1, β', h1, h2, h3, h4⟩
  have hrowne : ∀ b f, K.F b = some f → b ≠ β := fun b f hf e => by subst e; rw [hFβ] at hf; cases hf
  have ownKeep : ∀ es v, OwnV K w es v → OwnV K w' es v := fun es v ho => by
    cases es with
    | nil => exact ho
    | cons e l =>
      obtain ⟨b, o, n, c, el', fz, hv', hn, hf, hc, hs, hrr⟩ := ho
      exact ⟨b, o, n, c, el', fz, hv', hn, hf, by rw [hoth b (hrowne b _ hf)]; exact hc, hs, hrr⟩
  refine ⟨by rw [hsz]; exact h.size, by rw [hos]; exact h.os, by rw [htape]; exact h.tape, by rw [hout]; exact h.output, fun k hk hTk => ?_, h.gle, h.rho, fun k o v hg => ?_, fun r' cs1 hcs => ?_, fun r' k hr' hk => ?_, fun r1 r2 k h1 h2 => ?_, fun k g hg => ?_, h.slots,
    fun ℓ es v h1 => ?_, fun ℓ ℓ' es es' v v' b h1 h2 b1 b2 => ?_, fun ℓ es v b h1 hb hlt => ?_, fun r' b hr' => h.tR r' b (by simpa using hr')⟩
  · have hnβ : k ≠ β := fun e => by subst e; exact hTk (h.tR r k hrl hβ hk)
    rw [hoth k hnβ]
    exact h.keep k hk hTk
  · have hnβ : k ≠ β := fun e => by subst e; rw [hGβ o] at hg; cases hg
    rw [hcell k o hnβ]
    exact h.cells k o v hg
  · simp only at hcs
    by_cases e : r = r'
    · subst e
      rw [List.getElem?_set_self hrl] at hcs
      simp only [Option.some.injEq] at hcs
      subst hcs
      exact ⟨β, vs', el, hβ, hb', hrep⟩
    · rw [List.getElem?_set_ne e] at hcs
      obtain ⟨β', vs1, el', h1, h2, h3⟩ := h.refs r' cs1 hcs
      exact ⟨β', vs1, el', h1, by rw [hoth β' (hne r' β' (List.getElem?_eq_some_iff.1 hcs).1 h1 (fun x => e x.symm))]; exact h2, h3⟩
  · exact h.refG r' k (by simpa using hr') hk
  · exact h.inj r1 r2 k (by simpa using h1) (by simpa using h2)
  · obtain ⟨⟨c1, el', fz', hc1, hz'⟩, hgg⟩ := h.rows k g hg
    exact ⟨⟨c1, el', fz', by rw [hoth k (hrowne k g hg)]; exact hc1, hz'⟩, hgg⟩
  · rcases hh _ _ _ h1 with h1 | ⟨i, hi, rfl, hcs, hvs⟩
    · exact ownKeep _ _ (h.own ℓ es v h1)
    · exact ownKeep _ _ (hnew i es v hi hcs hvs).1
  · rcases hh _ _ _ h1 with h1 | ⟨i, hi, rfl, hcs, hvs⟩ <;> rcases hh _ _ _ h2 with h2 | ⟨i', hi', rfl, hcs', hvs'⟩
    · exact h.uniq ℓ ℓ' es es' v v' b h1 h2 b1 b2
    · by_cases e : ℓ = .rf r i'
      · exact e
      · exact absurd b1 (((hnew i' es' v' hi' hcs' hvs').2 b b2).2 ℓ es v e h1)
    · by_cases e : ℓ' = .rf r i
      · exact e.symm
      · exact absurd b2 (((hnew i es v hi hcs hvs).2 b b1).2 ℓ' es' v' e h2)
    · rw [hi] at hi'; cases hi'; rfl
  · rcases hh _ _ _ h1 with h1 | ⟨i, hi, rfl, hcs, hvs⟩
    · exact h.tO ℓ es v b h1 hb hlt
    · exact ((hnew i es v hi hcs hvs).2 b hb).1 hlt

end Go.Ab
