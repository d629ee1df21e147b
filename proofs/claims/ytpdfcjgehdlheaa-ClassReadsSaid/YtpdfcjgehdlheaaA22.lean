/- Functions: a table of simplified functions that fits the program is sound. First: without what is put off. -/
import Derived.Test.YtpdfcjgehdlheaaA21
import Derived.Laws.Sem
set_option linter.all false
namespace Go.Ab

def chkRes (P : Program) : List ResV → List ResultVar → Bool
  | [], [] => true
  | .tmp t :: l, .tmp u :: m => t == u && chkRes P l m
  | .cell a agg :: l, .cell b ty :: m => a == b && chkAgg P agg ty && chkRes P l m
  | _, _ => false

def chkBody (P : Program) (af : AFn) (fn : Func) : Bool :=
  match fn.body with
  | some code => chkC P fn.ntmps af.body code
  | none => false

def resF (tmps : Array Value) : ResultVar → Sem Value
  | .tmp t => pure (tmps.getD t undef)
  | .cell b t => do loadVar t (← asAddr (tmps.getD b undef))

theorem results_eq (fn : Func) (tmps : Array Value) : results fn tmps = (do let vs ← fn.results.mapM (resF tmps); pure (if h : vs.size = 1 then vs[0] else .tuple vs)) := by
  unfold results
  congr 1

section
variable {P : Program} {E : Env} {K : Ctx} {s : St} {a : Act} {w : World} {N : Nat}

theorem run_res (h : Sim E K s a.tmps w) : ∀ {l : List ResV} {m : List ResultVar} {vs : List AV}, chkRes P l m = true → resAs s l = some vs →
    ∃ ws, (m.mapM (resF a.tmps)).run P w = .ok ws w ∧ RepL K vs ws
  | [], m, vs, hc, hv => by
    cases m with
    | cons x m => simp [chkRes] at hc
    | nil =>
      simp only [resAs, Option.some.injEq] at hv
      subst hv
      exact ⟨[], by simp, by simp [RepL]⟩
  | r :: l, m, vs, hc, hv => by
    simp only [resAs] at hv
    split at hv
    · rename_i v vs' h1 h2
      simp only [Option.some.injEq] at hv
      subst hv
      cases m with
      | nil => cases r <;> simp [chkRes] at hc
      | cons x m =>
        cases r with
        | tmp t =>
          cases x <;> simp [chkRes] at hc
          obtain ⟨rfl, hc⟩ := hc
          obtain ⟨ws, hws, hr⟩ := run_res h hc h2
          refine ⟨a.tmps.getD t undef :: ws, ?_, ?_⟩
          · simp only [List.mapM_cons, resF, Sem.run_bind, Sem.run_pure, Result.andThen_ok, hws]
          · simp only [RepL]
            exact ⟨_, _, rfl, (h.slots t v h1).2, hr⟩
        | cell b agg =>
          cases x <;> simp [chkRes] at hc
          rename_i b' ty
          obtain ⟨⟨rfl, hagg⟩, hc⟩ := hc
          obtain ⟨ws, hws, hr⟩ := run_res h hc h2
          simp only [resA] at h1
          split at h1
          · rename_i p hp
            obtain ⟨ad, u, e1, e2, e3⟩ := run_load_any (P := P) h hagg (h.slots b p hp).2 h1
            refine ⟨u :: ws, ?_, ?_⟩
            · have he : asAddr (a.tmps.getD b undef) = pure ad := by rw [e1]; rfl
              simp only [List.mapM_cons, resF, Sem.run_bind, he, Sem.run_pure, Result.andThen_ok, e2, hws]
            · simp only [RepL]
              exact ⟨_, _, rfl, e3, hr⟩
          · simp at h1
    · simp at hv

theorem run_results (h : Sim E K s a.tmps w) {fn : Func} {l : List ResV} {v : AV} (hc : chkRes P l fn.results.toList = true) (hv : resOf s false l = some v) :
    ∃ pv, (results fn a.tmps).run P w = .ok pv w ∧ Rep K v pv ∧ ∀ es, v ≠ .own es := by
  unfold resOf at hv
  have mk : ∀ vs, resAs s l = some vs → ∃ ws : List Value, (results fn a.tmps).run P w = .ok (if h : ws.toArray.size = 1 then ws.toArray[0] else .tuple ws.toArray) w ∧ RepL K vs ws := fun vs hvs => by
    obtain ⟨ws, hws, hr⟩ := run_res h hc hvs
    refine ⟨ws, ?_, hr⟩
    rw [results_eq, Array.mapM_eq_mapM_toList]
    simp only [map_eq_pure_bind, Sem.run_bind, Sem.run_pure, hws, Result.andThen_ok]
  split at hv
  · rename_i v' hvs
    obtain ⟨ws, h1, h2⟩ := mk _ hvs
    simp only [Option.some.injEq, Bool.false_eq_true, if_false] at hv
    subst hv
    simp only [RepL] at h2
    obtain ⟨u, r, rfl, h3, rfl⟩ := h2
    refine ⟨u, by simpa using h1, Rep.bare _ _ h3, fun es e => ?_⟩
    cases v' <;> simp [AV.bare] at e
  · rename_i vs hne hvs
    obtain ⟨ws, h1, h2⟩ := mk _ hvs
    simp only [Option.some.injEq] at hv
    subst hv
    have hlen := h2.length
    have hn1 : ws.length ≠ 1 := fun e => by
      have : vs.length = 1 := by omega
      match vs, this with
      | [x], _ => exact hne x rfl
    refine ⟨.tuple ws.toArray, ?_, ?_, fun es e => by cases e⟩
    · rw [h1]
      have : ¬ ws.toArray.size = 1 := by simpa using hn1
      rw [dif_neg this]
    · simp only [Rep]
      exact ⟨ws.toArray, rfl, RepL.bares _ _ h2⟩
  · simp at hv

/-- the callee's world: what it may touch -/
def callEnv (K : Ctx) (s : St) (tm : Array Value) (w : World) : Env :=
  ⟨w, K, s.rf, fun b => (∃ r, r < s.rf.length ∧ K.ρ r = some b) ∨ (∃ r i es v, holds K s tm w (.rf r i) (.own es) v ∧ blk v = some b)⟩

theorem enterS_idx : ∀ {args : List AV} {i n : Nat} {v : AV}, (enterS args i).get n = some v → i ≤ n ∧ args[n - i]? = some v
  | [], i, n, v, h => by simp [enterS, Slots.get] at h
  | x :: r, i, n, v, h => by
    simp only [enterS, Slots.get] at h
    split at h
    · rename_i hin
      subst hin
      simp only [Option.some.injEq] at h
      subst h
      simp
    · obtain ⟨h1, h2⟩ := enterS_idx h
      refine ⟨by omega, ?_⟩
      rw [show n - i = (n - (i + 1)) + 1 by omega, List.getElem?_cons_succ]
      exact h2

theorem Sim.enter {tm : Array Value} (h : Sim E K s tm w) {args : List AV} {vs : Array Value} (hno : ∀ x ∈ args, ∀ es, x ≠ .own es) (hr : RepL K args vs.toList) (n : Nat) (df : List (AV × List AV)) (pn : Option (Option AV)) :
    Sim (callEnv K s tm w) K { sl := enterS args 0, rf := s.rf, df := df, pn := pn, nb := s.rf.length } (vs ++ Array.replicate n undef) w := by
  have hslot : ∀ t av, (enterS args 0).get t = some av → av ∈ args := fun t av ht => List.mem_of_getElem? (enterS_idx ht).2
  have hh : ∀ ℓ es v, holds K { sl := enterS args 0, rf := s.rf, df := df, pn := pn, nb := s.rf.length } (vs ++ Array.replicate n undef) w ℓ (.own es) v → (∃ r i, ℓ = .rf r i) ∧ holds K s tm w ℓ (.own es) v := fun ℓ es v hh => by
    cases ℓ with
    | sl t => exact absurd rfl (hno _ (hslot t _ hh.1) es)
    | rf r i => exact ⟨⟨r, i, rfl⟩, hh⟩
  refine ⟨Nat.le_refl _, rfl, rfl, rfl, fun b _ _ => ⟨rfl, rfl, fun _ => rfl⟩, Le.refl _, fun r hr => rfl, h.cells, h.refs, h.refG, h.inj, h.rows, fun t av ht => ?_, fun ℓ es v h1 => h.own ℓ es v (hh _ _ _ h1).2,
    fun ℓ ℓ' es es' v v' b h1 h2 => h.uniq ℓ ℓ' es es' v v' b (hh _ _ _ h1).2 (hh _ _ _ h2).2, fun ℓ es v b h1 hb _ => ?_, fun r b hr hb _ => .inl ⟨r, hr, hb⟩⟩
  · obtain ⟨_, h2⟩ := enterS_idx ht
    obtain ⟨v, hv, hrv⟩ := hr.get h2
    rw [Nat.sub_zero, Array.getElem?_toList] at hv
    have hlt := (Array.getElem?_eq_some_iff.1 hv).1
    refine ⟨by simp; omega, ?_⟩
    have : (vs ++ Array.replicate n undef).getD t undef = v := by
      rw [Array.getD_eq_getD_getElem?, Array.getElem?_append_left hlt, hv]; rfl
    rw [this]
    exact hrv
  · obtain ⟨⟨r, i, rfl⟩, h3⟩ := hh _ _ _ h1
    exact .inr ⟨r, i, es, v, h3, hb⟩

/-- behind the call -/
theorem Sim.back {tm : Array Value} (h : Sim E K s tm w) (hw : WF E.rf0 s) {K' : Ctx} {s' : St} {tm' : Array Value} {w' : World} (hc : Sim (callEnv K s tm w) K' s' tm' w') {rf' : Refs} (hrf : rf' = s'.rf.take s.rf.length) (hlen : rf'.length = s.rf.length) :
    Sim E K' { s with rf := rf' } tm w' ∧ Up s.rf.length K K' := by
  subst hrf
  have hc := hc.cut s.rf.length
  have hρ : ∀ r, r < s.rf.length → K'.ρ r = K.ρ r := fun r hr => hc.rho r hr
  have hρ' : ∀ r, r < s.rf.length → K.ρ r = K'.ρ r := fun r hr => (hρ r hr).symm
  have hsz : w.heap.size ≤ w'.heap.size := hc.size
  have hlt : ∀ r, r < (s'.rf.take s.rf.length).length ↔ r < s.rf.length := fun r => by rw [hlen]
  have old : ∀ t es v b, holds K s tm w (.sl t) (.own es) v → blk v = some b → b < w.heap.size ∧ ¬ (callEnv K s tm w).T b := fun t es v b hh hb => by
    obtain ⟨h1, f, hf⟩ := blk_lt h hh hb
    refine ⟨h1, ?_⟩
    rintro (⟨r, hr, hrb⟩ | ⟨r, i, es', v', hh', hb'⟩)
    · rw [(h.refG r b hr hrb).1] at hf
      cases hf
    · exact absurd (h.uniq _ _ _ _ _ _ b hh hh' hb hb') (by simp)
  refine ⟨⟨Nat.le_trans h.size hsz, hc.os.trans h.os, hc.tape.trans h.tape, hc.output.trans h.output, fun b hb hT => ?_, h.gle.trans hc.gle, fun r hr => ?_, hc.cells, hc.refs, hc.refG, hc.inj, hc.rows, fun t av ha => ?_, fun ℓ es v h1 => ?_, fun ℓ ℓ' es es' v v' b h1 h2 b1 b2 => ?_, fun ℓ es v b h1 hb hlt' => ?_, fun r b hr hb hlt' => ?_⟩, ⟨hc.gle, hρ'⟩⟩
  · have hT' : ¬ (callEnv K s tm w).T b := by
      rintro (⟨r, hr, hrb⟩ | ⟨r, i, es, v, hh, hb'⟩)
      · exact hT (h.tR r b hr hrb hb)
      · exact hT (h.tO _ _ _ b hh hb' hb)
    have h1 := h.keep b hb hT
    have h2 := hc.keep b (Nat.lt_of_lt_of_le hb h.size) hT'
    exact ⟨h2.1.trans h1.1, h2.2.1.trans h1.2.1, fun o => (h2.2.2 o).trans (h1.2.2 o)⟩
  · rw [hρ r (Nat.lt_of_lt_of_le hr hw.le)]
    exact h.rho r hr
  · exact ⟨(h.slots t av ha).1, Rep.mono hc.gle hρ' _ _ (hw.sb t av ha) (h.slots t av ha).2⟩
  · cases ℓ with
    | sl t =>
      refine (h.own (.sl t) es v h1).kept hc.gle fun b hb => ?_
      have := old t es v b h1 hb
      have h2 := hc.keep b this.1 this.2
      exact ⟨h2.1, h2.2.1⟩
    | rf r i => exact hc.own (.rf r i) es v h1
  · cases ℓ with
    | sl t =>
      cases ℓ' with
      | sl t' => exact h.uniq (.sl t) (.sl t') es es' v v' b h1 h2 b1 b2
      | rf r i =>
        have := old t es v b h1 b1
        exact absurd (hc.tO (.rf r i) es' v' b h2 b2 this.1) this.2
    | rf r i =>
      cases ℓ' with
      | sl t' =>
        have := old t' es' v' b h2 b2
        exact absurd (hc.tO (.rf r i) es v b h1 b1 this.1) this.2
      | rf r' i' => exact hc.uniq (.rf r i) (.rf r' i') es es' v v' b h1 h2 b1 b2
  · cases ℓ with
    | sl t => exact h.tO (.sl t) es v b h1 hb hlt'
    | rf r i =>
      rcases hc.tO (.rf r i) es v b h1 hb (Nat.lt_of_lt_of_le hlt' h.size) with ⟨r', hr', hrb⟩ | ⟨r', i', es', v', hh, hb'⟩
      · exact h.tR r' b hr' hrb hlt'
      · exact h.tO _ _ _ b hh hb' hlt'
  · have hr' := (hlt r).1 hr
    exact h.tR r b hr' (by rw [← hρ r hr']; exact hb) hlt'

end
end Go.Ab
