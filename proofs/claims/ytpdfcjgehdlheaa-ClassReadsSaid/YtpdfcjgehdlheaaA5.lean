/- A state of the machine that an abstract state speaks of; how it goes on. -/
import Derived.Test.YtpdfcjgehdlheaaA4
set_option linter.all false
namespace Go.Ab

inductive Loc where
  | sl (t : Nat)
  | rf (r i : Nat)
  deriving DecidableEq

def holds (K : Ctx) (s : St) (tm : Array Value) (w : World) : Loc → AV → Value → Prop
  | .sl t, av, v => s.sl.get t = some av ∧ tm.getD t undef = v
  | .rf r i, av, v => ∃ cs β, s.rf[r]? = some cs ∧ cs[i]? = some av ∧ K.ρ r = some β ∧ w.cell? ⟨β, i, none⟩ = some v

def blk : Value → Option Nat
  | .slice (some a) (_ + 1) _ => some a.block
  | _ => none

def OwnV (K : Ctx) (w : World) (es : List (List D)) (v : Value) : Prop :=
  match es with
  | [] => ∃ a, v = .slice a 0 0
  | e :: r => ∃ b o n c el fz, v = .slice (some ⟨b, o, none⟩) (r.length + 1) n ∧ r.length + 1 ≤ n ∧ K.F b = some (o + (r.length + 1) * e.length) ∧
      w.heap[b]? = some (.cells c el fz) ∧ o + n * e.length ≤ c.size ∧ RepRows K.G b e.length o (e :: r)

structure Env where
  w0 : World
  K0 : Ctx
  rf0 : Refs
  T : Nat → Prop

structure Sim (E : Env) (K : Ctx) (s : St) (tm : Array Value) (w : World) : Prop where
  size : E.w0.heap.size ≤ w.heap.size
  os : w.os = E.w0.os
  tape : w.tape = E.w0.tape
  output : w.output = E.w0.output
  keep : ∀ b, b < E.w0.heap.size → ¬ E.T b → w.heap[b]? = E.w0.heap[b]? ∧ K.F b = E.K0.F b ∧ ∀ o, K.G b o = E.K0.G b o
  gle : Le E.K0.G K.G
  rho : ∀ r, r < E.rf0.length → K.ρ r = E.K0.ρ r
  cells : ∀ b o v, K.G b o = some v → w.cell? ⟨b, o, none⟩ = some v
  refs : ∀ (r : Nat) cs, s.rf[r]? = some cs → ∃ b vs el, K.ρ r = some b ∧ w.heap[b]? = some (.cells vs el) ∧ RepL K cs vs.toList
  refG : ∀ r b, r < s.rf.length → K.ρ r = some b → K.F b = none ∧ ∀ o, K.G b o = none
  inj : ∀ r r' b, r < s.rf.length → r' < s.rf.length → K.ρ r = some b → K.ρ r' = some b → r = r'
  rows : ∀ b f, K.F b = some f → (∃ c el fz, w.heap[b]? = some (.cells c el fz) ∧ (fz.1 = fz.2 ∨ c.size ≤ fz.1)) ∧ ∀ o, f ≤ o → K.G b o = none
  slots : ∀ t av, s.sl.get t = some av → t < tm.size ∧ Rep K av (tm.getD t undef)
  own : ∀ ℓ es v, holds K s tm w ℓ (.own es) v → OwnV K w es v
  uniq : ∀ ℓ ℓ' es es' v v' b, holds K s tm w ℓ (.own es) v → holds K s tm w ℓ' (.own es') v' → blk v = some b → blk v' = some b → ℓ = ℓ'
  tO : ∀ ℓ es v b, holds K s tm w ℓ (.own es) v → blk v = some b → b < E.w0.heap.size → E.T b
  tR : ∀ r b, r < s.rf.length → K.ρ r = some b → b < E.w0.heap.size → E.T b

/-- a value that a slot may take: if it may be appended to, no other place may -/
def Fresh (E : Env) (K : Ctx) (s : St) (tm : Array Value) (w : World) (d : Option Nat) (av : AV) (v : Value) : Prop :=
  ∀ es, av = .own es → OwnV K w es v ∧ ∀ b, blk v = some b → (b < E.w0.heap.size → E.T b) ∧ ∀ ℓ es' v', (∀ t, d = some t → ℓ ≠ .sl t) → holds K s tm w ℓ (.own es') v' → blk v' ≠ some b

theorem getD_set {tm : Array Value} {d t : Nat} {v : Value} (hd : d < tm.size) : (tm.setIfInBounds d v).getD t undef = if d = t then v else tm.getD t undef := by
  rw [Array.getD_eq_getD_getElem?, Array.getD_eq_getD_getElem?, Array.getElem?_setIfInBounds]
  by_cases h : d = t
  · subst h; simp [hd]
  · simp [h]

theorem holds_put {K : Ctx} {s : St} {tm : Array Value} {w : World} {d : Nat} {av : AV} {v : Value} (hd : d < tm.size) {ℓ : Loc} {bv : AV} {u : Value}
    (h : holds K { s with sl := s.sl.put d av } (tm.setIfInBounds d v) w ℓ bv u) : (ℓ = .sl d ∧ bv = av ∧ u = v) ∨ (ℓ ≠ .sl d ∧ holds K s tm w ℓ bv u) := by
  cases ℓ with
  | sl t =>
    simp only [holds, Slots.put, Slots.get] at h
    rw [getD_set hd] at h
    by_cases ht : d = t
    · subst ht
      simp only [if_true, Option.some.injEq] at h
      exact .inl ⟨rfl, h.1.symm, h.2.symm⟩
    · simp only [if_neg ht] at h
      exact .inr ⟨by simp; omega, h⟩
  | rf r i => exact .inr ⟨by simp, h⟩

theorem Sim.put {E : Env} {K : Ctx} {s : St} {tm : Array Value} {w : World} (h : Sim E K s tm w) {d : Nat} (hd : d < tm.size) {av : AV} {v : Value} (hv : Rep K av v)
    (hf : Fresh E K s tm w (some d) av v) : Sim E K { s with sl := s.sl.put d av } (tm.setIfInBounds d v) w where
  size := h.size
  os := h.os
  tape := h.tape
  output := h.output
  keep := h.keep
  gle := h.gle
  rho := h.rho
  cells := h.cells
  refs := h.refs
  refG := h.refG
  inj := h.inj
  rows := h.rows
  slots := fun t bv hb => by
    simp only [Slots.put, Slots.get] at hb
    rw [getD_set hd]
    by_cases ht : d = t
    · subst ht
      simp only [if_true, Option.some.injEq] at hb ⊢
      subst hb
      exact ⟨by simpa using hd, hv⟩
    · simp only [if_neg ht] at hb ⊢
      have := h.slots t bv hb
      exact ⟨by simpa using this.1, this.2⟩
  own := fun ℓ es u hh => by
    rcases holds_put hd hh with ⟨rfl, rfl, rfl⟩ | ⟨_, h'⟩
    · exact (hf es rfl).1
    · exact h.own ℓ es u h'
  uniq := fun ℓ ℓ' es es' u u' b h1 h2 b1 b2 => by
    rcases holds_put hd h1 with ⟨rfl, e1, rfl⟩ | ⟨n1, h1'⟩ <;> rcases holds_put hd h2 with ⟨rfl, e2, rfl⟩ | ⟨n2, h2'⟩
    · rfl
    · exact absurd b2 (((hf es e1.symm).2 b b1).2 ℓ' es' u' (fun t ht => by cases ht; exact n2) h2')
    · exact absurd b1 (((hf es' e2.symm).2 b b2).2 ℓ es u (fun t ht => by cases ht; exact n1) h1')
    · exact h.uniq ℓ ℓ' es es' u u' b h1' h2' b1 b2
  tO := fun ℓ es u b hh hb hlt => by
    rcases holds_put hd hh with ⟨rfl, e1, rfl⟩ | ⟨_, h'⟩
    · exact ((hf es e1.symm).2 b hb).1 hlt
    · exact h.tO ℓ es u b h' hb hlt
  tR := h.tR

theorem fresh_of_not_own {E : Env} {K : Ctx} {s : St} {tm : Array Value} {w : World} {d : Option Nat} {av : AV} {v : Value} (h : ∀ es, av ≠ .own es) : Fresh E K s tm w d av v :=
  fun es e => absurd e (h es)

theorem strip_not_own (x : AV) : ∀ es, x.strip ≠ .own es := fun es h => by cases x <;> simp [AV.strip] at h

theorem holds_unOwn {K : Ctx} {s : St} {tm : Array Value} {w : World} {x : Opd} {ℓ : Loc} {es : List (List D)} {v : Value} (h : holds K (unOwn s x) tm w ℓ (.own es) v) :
    holds K s tm w ℓ (.own es) v ∧ ∀ t, x = .t t → ℓ ≠ .sl t := by
  unfold unOwn at h
  split at h
  · rename_i n
    split at h
    · rename_i es' he
      cases ℓ with
      | sl t =>
        simp only [holds, Slots.put, Slots.get] at h
        by_cases ht : n = t
        · simp [ht] at h
        · simp only [if_neg ht] at h
          exact ⟨h, fun t' e => by cases e; simp; omega⟩
      | rf r i => exact ⟨h, by simp⟩
    · rename_i hne
      refine ⟨h, fun t e hℓ => ?_⟩
      cases e
      subst hℓ
      exact hne es h.1
  · rename_i hne
    exact ⟨h, fun t e => absurd e (hne t)⟩

theorem Sim.unOwn {E : Env} {K : Ctx} {s : St} {tm : Array Value} {w : World} (h : Sim E K s tm w) (x : Opd) : Sim E K (unOwn s x) tm w where
  size := h.size
  os := h.os
  tape := h.tape
  output := h.output
  keep := h.keep
  gle := h.gle
  rho := h.rho
  cells := h.cells
  refs := by rw [unOwn_rf]; exact h.refs
  refG := by rw [unOwn_rf]; exact h.refG
  inj := by rw [unOwn_rf]; exact h.inj
  rows := h.rows
  slots := fun t av ha => by
    unfold Ab.unOwn at ha
    split at ha
    · split at ha
      · rename_i n es' he
        simp only [Slots.put, Slots.get] at ha
        split at ha
        · rename_i ht
          subst ht
          simp only [Option.some.injEq] at ha
          subst ha
          have := h.slots _ _ he
          exact ⟨this.1, by simpa [Rep] using this.2⟩
        · exact h.slots t av ha
      · exact h.slots t av ha
    · exact h.slots t av ha
  own := fun ℓ es v hh => h.own ℓ es v (holds_unOwn hh).1
  uniq := fun ℓ ℓ' es es' v v' b h1 h2 => h.uniq ℓ ℓ' es es' v v' b (holds_unOwn h1).1 (holds_unOwn h2).1
  tO := fun ℓ es v b hh => h.tO ℓ es v b (holds_unOwn hh).1
  tR := by rw [unOwn_rf]; exact h.tR

/-- what is taken out of a slot may be appended to where it goes -/
theorem Sim.fresh_raw {E : Env} {K : Ctx} {s : St} {tm : Array Value} {w : World} (h : Sim E K s tm w) {t : Nat} {av : AV} (ha : s.sl.get t = some av) (d : Option Nat) :
    Fresh E K (Ab.unOwn s (.t t)) tm w d av (tm.getD t undef) := fun es e => by
  subst e
  have hh : holds K s tm w (.sl t) (.own es) (tm.getD t undef) := ⟨ha, rfl⟩
  refine ⟨h.own _ _ _ hh, fun b hb => ⟨h.tO _ _ _ _ hh hb, fun ℓ es' v' _ h2 hb2 => ?_⟩⟩
  have := holds_unOwn h2
  exact this.2 t rfl (h.uniq ℓ (.sl t) es' es v' _ b this.1 hh hb2 hb)

theorem Sim.drew {E : Env} {K : Ctx} {s : St} {tm : Array Value} {w : World} (h : Sim E K s tm w) : Sim E K s tm w.drew :=
  ⟨h.size, h.os, h.tape, h.output, h.keep, h.gle, h.rho, h.cells, h.refs, h.refG, h.inj, h.rows, h.slots, h.own, h.uniq, h.tO, h.tR⟩

/-- slots are forgotten -/
theorem Sim.forget {E : Env} {K : Ctx} {s : St} {tm : Array Value} {w : World} (h : Sim E K s tm w) {sl : Slots} (hk : ∀ t av, sl.get t = some av → s.sl.get t = some av) :
    Sim E K { s with sl := sl } tm w := by
  have hh : ∀ ℓ av v, holds K { s with sl := sl } tm w ℓ av v → holds K s tm w ℓ av v := fun ℓ av v h' => by
    cases ℓ with
    | sl t => exact ⟨hk t av h'.1, h'.2⟩
    | rf r i => exact h'
  exact ⟨h.size, h.os, h.tape, h.output, h.keep, h.gle, h.rho, h.cells, h.refs, h.refG, h.inj, h.rows, fun t av ha => h.slots t av (hk t av ha),
    fun ℓ es v h1 => h.own ℓ es v (hh _ _ _ h1), fun ℓ ℓ' es es' v v' b h1 h2 => h.uniq ℓ ℓ' es es' v v' b (hh _ _ _ h1) (hh _ _ _ h2), fun ℓ es v b h1 => h.tO ℓ es v b (hh _ _ _ h1), h.tR⟩

theorem OwnV.mono {K K' : Ctx} {w w' : World} {es : List (List D)} {v : Value} (h : OwnV K w es v) (hG : Le K.G K'.G)
    (hF : ∀ b f, K.F b = some f → blk v = some b → K'.F b = some f) (hw : ∀ b, blk v = some b → ∀ c el fz, w.heap[b]? = some (.cells c el fz) → ∃ c', w'.heap[b]? = some (.cells c' el fz) ∧ c'.size = c.size) : OwnV K' w' es v := by
  cases es with
  | nil => exact h
  | cons e r =>
    obtain ⟨b, o, n, c, el, fz, hv, hn, hf, hh, hs, hr⟩ := h
    have hb : blk v = some b := by rw [hv]; rfl
    obtain ⟨c', h1, h2⟩ := hw b hb c el fz hh
    exact ⟨b, o, n, c', el, fz, hv, hn, hF b _ hf hb, h1, by omega, RepRows.mono hG _ _ _ _ hr⟩

def updN {α : Type} (f : Nat → α) (n : Nat) (v : α) : Nat → α := fun m => if m = n then v else f m

theorem heap_lt {w : World} {b : Nat} {o : Obj} (h : w.heap[b]? = some o) : b < w.heap.size := (Array.getElem?_eq_some_iff.1 h).1

theorem alloc_old {w : World} {o : Obj} {b : Nat} (h : b < w.heap.size) : (w.alloc o).heap[b]? = w.heap[b]? := by
  simp only [World.alloc, Array.getElem?_push]
  rw [if_neg (by omega)]

theorem alloc_new (w : World) (o : Obj) : (w.alloc o).heap[w.heap.size]? = some o := by
  simp only [World.alloc, Array.getElem?_push_size]

theorem cell_alloc {w : World} {o : Obj} {a : Addr} (h : a.block < w.heap.size) : (w.alloc o).cell? a = w.cell? a := World.cell?_of_block (alloc_old h)

theorem cell_lt {w : World} {a : Addr} {v : Value} (h : w.cell? a = some v) : a.block < w.heap.size := by
  unfold World.cell? at h
  split at h
  · rename_i hb; exact heap_lt hb
  · simp at h

theorem cell_of {w : World} {b o : Nat} {c : Array Value} {el : TypeId} {fz : Nat × Nat} (h : w.heap[b]? = some (.cells c el fz)) : w.cell? ⟨b, o, none⟩ = c[o]? := by
  simp [World.cell?, h]

/-- a new reference -/
theorem Sim.newRef {E : Env} {K : Ctx} {s : St} {tm : Array Value} {w : World} (h : Sim E K s tm w) (hw : WF E.rf0 s) {cs : List AV} {vs : Array Value} {el : TypeId}
    (hr : RepL K cs vs.toList) (hb : AV.refBs cs ≤ s.rf.length) (hno : ∀ x, x ∈ cs → ∀ es, x ≠ .own es) {K' : Ctx} (hG : K'.G = K.G) (hF : K'.F = K.F)
    (hρ : ∀ r, r < s.rf.length → K.ρ r = K'.ρ r) (hn : K'.ρ s.rf.length = some w.heap.size) :
    Sim E K' { s with rf := s.rf ++ [cs] } tm (w.alloc (.cells vs el)) := by
  have hle : Le K.G K'.G := by rw [hG]; exact Le.refl _
  have hold : ∀ (b : Nat) (o : Obj), w.heap[b]? = some o → (w.alloc (.cells vs el)).heap[b]? = some o := fun b o hb => by
    rw [alloc_old (heap_lt hb)]; exact hb
  have hbl : ∀ r b, r < s.rf.length → K.ρ r = some b → b < w.heap.size := fun r b hr hb => by
    obtain ⟨cs, hcs⟩ : ∃ cs, s.rf[r]? = some cs := ⟨_, List.getElem?_eq_getElem hr⟩
    obtain ⟨b', vs', el', h1, h2, _⟩ := h.refs r cs hcs
    rw [h1] at hb
    cases hb
    exact heap_lt h2
  have hgb : ∀ b o v, K.G b o = some v → b < w.heap.size := fun b o v hg => cell_lt (h.cells b o v hg)
  have hfb : ∀ b f, K.F b = some f → b < w.heap.size := fun b f hf => by
    obtain ⟨⟨c, el, fz, hc, _⟩, _⟩ := h.rows b f hf
    exact heap_lt hc
  have hh : ∀ ℓ es v, holds K' { s with rf := s.rf ++ [cs] } tm (w.alloc (.cells vs el)) ℓ (.own es) v → holds K s tm w ℓ (.own es) v := fun ℓ es v h' => by
    cases ℓ with
    | sl t => exact h'
    | rf r i =>
      obtain ⟨cs', β, h1, h2, h3, h4⟩ := h'
      by_cases hr' : r < s.rf.length
      · simp only at h1 h3
        rw [List.getElem?_append_left hr'] at h1
        rw [← hρ r hr'] at h3
        have := hbl r β hr' h3
        rw [cell_alloc this] at h4
        exact ⟨cs', β, h1, h2, h3, h4⟩
      · simp only at h1
        rw [List.getElem?_append_right (by omega)] at h1
        have hm := List.mem_of_getElem? h1
        simp only [List.mem_singleton] at hm
        subst hm
        exact absurd rfl (hno _ (List.mem_of_getElem? h2) es)
  refine ⟨by simp; have := h.size; omega, h.os, h.tape, h.output, fun b hb hT => ?_, by rw [hG]; exact h.gle, fun r hr => ?_, fun b o v hg => ?_, fun r cs' hcs => ?_, fun r b hr hb => ?_, fun r r' b hr hr' h1 h2 => ?_, fun b f hf => ?_, fun t av ha => ?_,
    fun ℓ es v h1 => ?_, fun ℓ ℓ' es es' v v' b h1 h2 => h.uniq ℓ ℓ' es es' v v' b (hh _ _ _ h1) (hh _ _ _ h2), fun ℓ es v b h1 => h.tO ℓ es v b (hh _ _ _ h1), fun r b hr hb hlt => ?_⟩
  · have := h.size
    rw [alloc_old (by omega), hG, hF]
    exact h.keep b hb hT
  · have := hw.le
    rw [← hρ r (by omega)]
    exact h.rho r hr
  · rw [hG] at hg
    rw [cell_alloc (hgb b o v hg)]
    exact h.cells b o v hg
  · by_cases hr' : r < s.rf.length
    · rw [List.getElem?_append_left hr'] at hcs
      obtain ⟨b, vs', el', h1, h2, h3⟩ := h.refs r cs' hcs
      exact ⟨b, vs', el', by rw [← hρ r hr']; exact h1, hold _ _ h2, RepL.mono hle hρ _ _ (hw.rb.get hcs) h3⟩
    · rw [List.getElem?_append_right (by omega)] at hcs
      have hz : r - s.rf.length = 0 := by
        have := (List.getElem?_eq_some_iff.1 hcs).1
        simp at this; omega
      rw [hz] at hcs
      simp only [List.getElem?_cons_zero, Option.some.injEq] at hcs
      subst hcs
      have : r = s.rf.length := by omega
      subst this
      exact ⟨w.heap.size, vs, el, hn, alloc_new _ _, RepL.mono hle hρ _ _ hb hr⟩
  · rw [hF, hG]
    by_cases hr' : r < s.rf.length
    · rw [← hρ r hr'] at hb
      exact h.refG r b hr' hb
    · have : r = s.rf.length := by simp at hr; omega
      subst this
      rw [hn] at hb
      simp only [Option.some.injEq] at hb
      subst hb
      refine ⟨?_, fun o => ?_⟩
      · cases hF : K.F w.heap.size with
        | none => rfl
        | some f => exact absurd (hfb _ _ hF) (by omega)
      · cases hG : K.G w.heap.size o with
        | none => rfl
        | some f => exact absurd (hgb _ _ _ hG) (by omega)
  · simp only [List.length_append, List.length_cons, List.length_nil] at hr hr'
    by_cases hr1 : r < s.rf.length <;> by_cases hr2 : r' < s.rf.length
    · rw [← hρ r hr1] at h1
      rw [← hρ r' hr2] at h2
      exact h.inj r r' b hr1 hr2 h1 h2
    · have : r' = s.rf.length := by omega
      subst this
      rw [hn] at h2
      rw [← hρ r hr1] at h1
      have := hbl r b hr1 h1
      simp only [Option.some.injEq] at h2
      omega
    · have : r = s.rf.length := by omega
      subst this
      rw [hn] at h1
      rw [← hρ r' hr2] at h2
      have := hbl r' b hr2 h2
      simp only [Option.some.injEq] at h1
      omega
    · omega
  · rw [hF] at hf
    rw [hG]
    obtain ⟨⟨c, el', fz, hc, hz⟩, hg⟩ := h.rows b f hf
    exact ⟨⟨c, el', fz, hold _ _ hc, hz⟩, hg⟩
  · have := h.slots t av ha
    exact ⟨this.1, Rep.mono hle hρ _ _ (hw.sb t av ha) this.2⟩
  · refine (h.own ℓ es v (hh _ _ _ h1)).mono hle (fun b f hf _ => by rw [hF]; exact hf) (fun b _ c el' fz hc => ⟨c, hold _ _ hc, rfl⟩)
  · by_cases hr' : r < s.rf.length
    · rw [← hρ r hr'] at hb
      exact h.tR r b hr' hb hlt
    · have : r = s.rf.length := by simp at hr; omega
      subst this
      rw [hn] at hb
      simp only [Option.some.injEq] at hb
      have := h.size
      omega

end Go.Ab
