/- Calls: a callee that sees no reference; the rules for the three forms of a call. -/
import Derived.Test.YtpdfcjgehdlheaaA15
set_option linter.all false
namespace Go.Ab

theorem blk_lt {E : Env} {K : Ctx} {s : St} {tm : Array Value} {w : World} (h : Sim E K s tm w) {ℓ : Loc} {es : List (List D)} {v : Value} (hh : holds K s tm w ℓ (.own es) v) {b : Nat} (hb : blk v = some b) :
    b < w.heap.size ∧ ∃ f, K.F b = some f := by
  have := h.own ℓ es v hh
  cases es with
  | nil =>
    obtain ⟨a, rfl⟩ := this
    cases a <;> simp [blk] at hb
  | cons e r =>
    obtain ⟨b', o, n, c, el, fz, hv, hn, hf, hh', hs, hr⟩ := this
    rw [hv] at hb
    simp only [blk, Option.some.injEq] at hb
    subst hb
    exact ⟨heap_lt hh', _, hf⟩

theorem OwnV.kept {K K' : Ctx} {w w' : World} {es : List (List D)} {v : Value} (h : OwnV K w es v) (hG : Le K.G K'.G)
    (hk : ∀ b, blk v = some b → w'.heap[b]? = w.heap[b]? ∧ K'.F b = K.F b) : OwnV K' w' es v :=
  h.mono hG (fun b f hf hb => by rw [(hk b hb).2]; exact hf) (fun b hb c el fz hc => ⟨c, by rw [(hk b hb).1]; exact hc, rfl⟩)

/-- what was there before is as it was -/
theorem Sim.frame {E : Env} {K : Ctx} {s : St} {tm : Array Value} {w : World} (h : Sim E K s tm w) (hw : WF E.rf0 s) {K' : Ctx} {w' : World}
    (hsz : w.heap.size ≤ w'.heap.size) (hos : w'.os = w.os) (htape : w'.tape = w.tape) (hout : w'.output = w.output)
    (hb : ∀ b, b < w.heap.size → w'.heap[b]? = w.heap[b]? ∧ K'.F b = K.F b ∧ ∀ o, K'.G b o = K.G b o) (hle : Le K.G K'.G) (hρ : K'.ρ = K.ρ)
    (hcells : ∀ b o v, K'.G b o = some v → w'.cell? ⟨b, o, none⟩ = some v)
    (hrows : ∀ b f, K'.F b = some f → (∃ c el fz, w'.heap[b]? = some (.cells c el fz) ∧ (fz.1 = fz.2 ∨ c.size ≤ fz.1)) ∧ ∀ o, f ≤ o → K'.G b o = none) : Sim E K' s tm w' := by
  have hup : ∀ r, r < s.rf.length → K.ρ r = K'.ρ r := fun r _ => by rw [hρ]
  have hbl : ∀ r b, r < s.rf.length → K.ρ r = some b → b < w.heap.size := fun r b hr hb => by
    obtain ⟨cs, hcs⟩ : ∃ cs, s.rf[r]? = some cs := ⟨_, List.getElem?_eq_getElem hr⟩
    obtain ⟨b', vs', el', h1, h2, _⟩ := h.refs r cs hcs
    rw [h1] at hb
    cases hb
    exact heap_lt h2
  have hh : ∀ ℓ es v, holds K' s tm w' ℓ (.own es) v → holds K s tm w ℓ (.own es) v := fun ℓ es v h' => by
    cases ℓ with
    | sl t => exact h'
    | rf r i =>
      obtain ⟨cs', β, h1, h2, h3, h4⟩ := h'
      rw [hρ] at h3
      have := hbl r β (List.getElem?_eq_some_iff.1 h1).1 h3
      refine ⟨cs', β, h1, h2, h3, ?_⟩
      rw [← h4]
      exact (World.cell?_of_block (hb β this).1).symm
  refine ⟨Nat.le_trans h.size hsz, hos.trans h.os, htape.trans h.tape, hout.trans h.output, fun b hb' hT => ?_, h.gle.trans hle, fun r hr => by rw [hρ]; exact h.rho r hr, hcells, fun r cs hr => ?_,
    fun r b hr hb' => ?_, fun r r' b hr hr' h1 h2 => h.inj r r' b hr hr' (by rw [← hρ]; exact h1) (by rw [← hρ]; exact h2), hrows, fun t av ha => ⟨(h.slots t av ha).1, Rep.mono hle hup _ _ (hw.sb t av ha) (h.slots t av ha).2⟩,
    fun ℓ es v h1 => ?_, fun ℓ ℓ' es es' v v' b h1 h2 => h.uniq ℓ ℓ' es es' v v' b (hh _ _ _ h1) (hh _ _ _ h2), fun ℓ es v b h1 => h.tO ℓ es v b (hh _ _ _ h1), fun r b hr hb' => h.tR r b hr (by rw [← hρ]; exact hb')⟩
  · have h1 := h.keep b hb' hT
    have h2 := hb b (Nat.lt_of_lt_of_le hb' h.size)
    exact ⟨h2.1.trans h1.1, h2.2.1.trans h1.2.1, fun o => (h2.2.2 o).trans (h1.2.2 o)⟩
  · obtain ⟨b, vs, el, h1, h2, h3⟩ := h.refs r cs hr
    exact ⟨b, vs, el, by rw [hρ]; exact h1, by rw [(hb b (heap_lt h2)).1]; exact h2, RepL.mono hle hup _ _ (hw.rb.get hr) h3⟩
  · rw [hρ] at hb'
    have h1 := h.refG r b hr hb'
    have h2 := hb b (hbl r b hr hb')
    exact ⟨h2.2.1.trans h1.1, fun o => (h2.2.2 o).trans (h1.2 o)⟩
  · have h2 := hh _ _ _ h1
    refine (h.own ℓ es v h2).kept hle fun b hb' => ?_
    have h3 := hb b (blk_lt h h2 hb').1
    exact ⟨h3.1, h3.2.1⟩

def St.blank : St := { sl := [], rf := [] }

theorem Sim.blank {E : Env} {K : Ctx} {s : St} {tm : Array Value} {w : World} (h : Sim E K s tm w) : Sim ⟨w, K, [], fun _ => False⟩ K St.blank #[] w := by
  have hno : ∀ ℓ es v, ¬ holds K St.blank #[] w ℓ (.own es) v := fun ℓ es v hh => by
    cases ℓ with
    | sl t => simp [holds, St.blank, Slots.get] at hh
    | rf r i => simp [holds, St.blank] at hh
  exact ⟨Nat.le_refl _, rfl, rfl, rfl, fun b _ _ => ⟨rfl, rfl, fun _ => rfl⟩, Le.refl _, fun r hr => by simp at hr, h.cells, fun r cs hr => by simp [St.blank] at hr, fun r b hr => by simp [St.blank] at hr,
    fun r r' b hr => by simp [St.blank] at hr, h.rows, fun t av ht => by simp [St.blank, Slots.get] at ht, fun ℓ es v hh => absurd hh (hno _ _ _), fun ℓ _ es _ v _ b hh => absurd hh (hno _ _ _),
    fun ℓ es v b hh => absurd hh (hno _ _ _), fun r b hr => by simp [St.blank] at hr⟩

theorem blank_wf : WF [] St.blank :=
  ⟨rfl, by simp, fun n v h => by simp [St.blank, Slots.get] at h, fun r cs h => by simp [St.blank] at h, fun m _ _ r cs _ h => by simp [St.blank] at h, fun p h => by simp [St.blank] at h, fun v h => by simp [St.blank] at h⟩

section
variable {P : Program} {E : Env} {K : Ctx} {s : St} {a : Act} {w : World} {next : Act → World → Prop} {Q : Exit → Act → World → Prop} {C : CallFn}

theorem wp_call (hC : CallSound P C) {o : Oper} {f : Opd} {xs : List Opd} {d : Did} (h : Sim E K s a.tmps w) (hw : WF E.rf0 s) (hc : chkOp P (.call f xs) o = true)
    (hk : (AOpk.call f xs).cok = true) (hs : stepOp C s (.call f xs) = some d) (k : After E K s a o.dst next Q d) : o.wp P a w next Q := by
  simp only [chkOp] at hc
  split at hc
  · rename_i c ho
    rw [Bool.and_eq_true] at hc
    simp only [stepOp] at hs
    split at hs
    · rename_i id first cap vs hf hvs
      obtain ⟨args, he, hr⟩ := exec_call (P := P) ho h hc.1 hc.2 hf hvs
      unfold Oper.wp
      rw [he]
      simp only [AOpk.cok, Bool.and_eq_true] at hk
      have hb := getO_b hw hk.1 hf
      have hb2 := getOs_b hw hk.2 hvs
      simp only [AV.refB] at hb
      have hargs : AV.refBs (AV.bares (first ++ vs ++ cap)) ≤ s.rf.length := by
        rw [refBs_bares]; exact refBs_append_le (refBs_append_le (by omega) hb2) (by omega)
      have key : ∀ out rf', C id (AV.bares (first ++ vs ++ cap)) s.rf = some (out, rf') → Does P id args w fun e w' => ∃ K', Sim E K' { s with rf := rf' } a.tmps w' ∧ Up s.rf.length K K' ∧ CallRes K' out e :=
        fun out rf' hcall => hC _ _ _ _ _ hcall E K s a.tmps w args rfl h hw hargs (bares_not_own _) hr
      split at hs
      · rename_i v rf hcall
        simp only [Option.some.injEq] at hs; subst hs
        refine upon_does (key _ _ hcall) fun e w' hR => ?_
        obtain ⟨K', h1, h2, h3⟩ := hR
        cases e with
        | returned u =>
          obtain ⟨av, e1, h4, h5⟩ := h3
          cases e1
          exact k u w' K' h1 h4 (fresh_of_not_own h5) h2
        | panicked ch => obtain ⟨av, pv, e1, _⟩ := h3; cases e1
        | outgrown => exact h3
      · rename_i v rf hcall
        simp only [Option.some.injEq] at hs; subst hs
        refine upon_does (key _ _ hcall) fun e w' hR => ?_
        obtain ⟨K', h1, h2, h3⟩ := hR
        cases e with
        | returned u => obtain ⟨av, e1, _⟩ := h3; cases e1
        | panicked ch =>
          obtain ⟨av, pv, e1, h4, h5⟩ := h3
          cases e1
          exact k pv ch w' K' h1 h4 h5 h2
        | outgrown => exact h3
      · simp at hs
    · simp at hs
  · simp at hc

theorem wp_callQ (hC : CallSound P C) {o : Oper} {f : Opd} {xs : List Opd} {d : Did} (h : Sim E K s a.tmps w) (hw : WF E.rf0 s) (hc : chkOp P (.callQ f xs) o = true)
    (hk : (AOpk.callQ f xs).cok = true) (hs : stepOp C s (.callQ f xs) = some d) (k : After E K s a o.dst next Q d) : o.wp P a w next Q := by
  refine wp_call (f := f) (xs := xs) (d := d) hC h hw hc hk ?_ k
  simp only [stepOp] at hs ⊢
  split at hs
  · rename_i id first cap vs hf hvs
    split at hs
    · rename_i v rf hcall
      split at hs
      · rename_i hsame
        simp only [Option.some.injEq] at hs; subst hs
        have := sameRf_eq _ _ hsame
        subst this
        simp only [hcall]
      · simp at hs
    · simp at hs
  · simp at hs

theorem wp_callZ (hC : CallSound P C) {o : Oper} {f : Opd} {xs : List Opd} {d : Did} (h : Sim E K s a.tmps w) (hw : WF E.rf0 s) (hc : chkOp P (.callZ f xs) o = true)
    (hs : stepOp C s (.callZ f xs) = some d) (k : After E K s a o.dst next Q d) (hCW : CallWF C) : o.wp P a w next Q := by
  simp only [chkOp] at hc
  split at hc
  · rename_i c ho
    rw [Bool.and_eq_true] at hc
    simp only [stepOp] at hs
    split at hs
    · rename_i id first cap vs hf hvs
      obtain ⟨args, he, hr⟩ := exec_call (P := P) ho h hc.1 hc.2 hf hvs
      unfold Oper.wp
      rw [he]
      split at hs
      · rename_i hz
        split at hs
        · rename_i v rf hcall
          simp only [Option.some.injEq] at hs; subst hs
          have hwf := hCW _ _ _ _ _ hcall (fun r cs hr => by simp at hr) (by rw [hz]; exact Nat.le_refl _)
          have hl : rf = [] := List.eq_nil_of_length_eq_zero hwf.1
          subst hl
          refine upon_does (hC _ _ _ _ _ hcall _ K St.blank #[] w args rfl h.blank blank_wf (by rw [hz]; exact Nat.le_refl _) (bares_not_own _) hr) fun e w' hR => ?_
          obtain ⟨K', h1, h2, h3⟩ := hR
          cases e with
          | returned u =>
            obtain ⟨av, e1, h4, h5⟩ := h3
            cases e1
            have hb : v.refB ≤ 0 := hwf.2.2.1
            let K'' : Ctx := ⟨K'.G, K'.F, K.ρ⟩
            have hsim : Sim E K'' s a.tmps w' := h.frame hw h1.size h1.os h1.tape h1.output (fun b hb => h1.keep b hb (fun hf => hf)) h1.gle rfl h1.cells h1.rows
            exact k u w' K'' hsim (Rep.mono (K := K') (K' := K'') (n := 0) (Le.refl _) (fun r hr => by omega) _ _ hb h4) (fresh_of_not_own h5) ⟨h1.gle, fun r _ => rfl⟩
          | panicked ch => obtain ⟨av, pv, e1, _⟩ := h3; cases e1
          | outgrown => exact h3
        · simp at hs
      · simp at hs
    · simp at hs
  · simp at hc

end
end Go.Ab
