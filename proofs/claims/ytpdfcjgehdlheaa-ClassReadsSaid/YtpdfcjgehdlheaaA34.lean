/- From the machine's calls to the kit's contracts, and back. -/
import Derived.Test.YtpdfcjgehdlheaaA33
import Derived.Test.YtpdfcjgehdlheaaA28
set_option linter.all false
namespace Go.Ab
open Go.RowKit

theorem Sim.below {E : Env} {K : Ctx} {s : St} {tm : Array Value} {w w' : World} (h : Sim E K s tm w) (hb : Below w.heap.size w w') : Sim E K s tm w' := by
  have hk : ∀ b o, w.heap[b]? = some o → w'.heap[b]? = some o := fun b o hh => by rw [hb.block b (heap_lt hh)]; exact hh
  have hcell : ∀ a v, w.cell? a = some v → w'.cell? a = some v := fun a v hh => by
    rw [World.cell?_of_block (hb.block _ (cell_lt hh))]; exact hh
  have hkeep : ∀ b, b < E.w0.heap.size → w'.heap[b]? = w.heap[b]? := fun b hb' => hb.block b (Nat.lt_of_lt_of_le hb' h.size)
  have hbl : ∀ r b, r < s.rf.length → K.ρ r = some b → b < w.heap.size := fun r b hr hb => by
    obtain ⟨cs, hcs⟩ : ∃ cs, s.rf[r]? = some cs := ⟨_, List.getElem?_eq_getElem hr⟩
    obtain ⟨b', vs', el', h1, h2, _⟩ := h.refs r cs hcs
    rw [h1] at hb
    cases hb
    exact heap_lt h2
  have hh : ∀ ℓ es v, holds K s tm w' ℓ (.own es) v → holds K s tm w ℓ (.own es) v := fun ℓ es v h' => by
    cases ℓ with
    | sl t => exact h'
    | rf r i =>
      obtain ⟨cs', β, h1, h2, h3, h4⟩ := h'
      have := hbl r β (List.getElem?_eq_some_iff.1 h1).1 h3
      rw [World.cell?_of_block (hb.block _ this)] at h4
      exact ⟨cs', β, h1, h2, h3, h4⟩
  refine ⟨Nat.le_trans h.size hb.size, hb.os.trans h.os, hb.tape.trans h.tape, hb.output.trans h.output, fun b hlt hT => ?_, h.gle, h.rho, fun b o v hg => hcell _ _ (h.cells b o v hg), fun r cs hr => ?_, h.refG, h.inj, fun b f hf => ?_, h.slots,
    fun ℓ es v h1 => ?_, fun ℓ ℓ' es es' v v' b h1 h2 => h.uniq ℓ ℓ' es es' v v' b (hh _ _ _ h1) (hh _ _ _ h2), fun ℓ es v b h1 => h.tO ℓ es v b (hh _ _ _ h1), h.tR⟩
  · have := h.keep b hlt hT
    exact ⟨(hkeep b hlt).trans this.1, this.2⟩
  · obtain ⟨b, vs, el, h1, h2, h3⟩ := h.refs r cs hr
    exact ⟨b, vs, el, h1, hk _ _ h2, h3⟩
  · obtain ⟨⟨c, el, fz, hc, hz⟩, hg⟩ := h.rows b f hf
    exact ⟨⟨c, el, fz, hk _ _ hc, hz⟩, hg⟩
  · exact (h.own ℓ es v (hh _ _ _ h1)).mono (Le.refl _) (fun b f hf _ => hf) (fun b _ c el fz hc => ⟨c, hk _ _ hc, rfl⟩)

/-- a plain value: a number, a bool, a text -/
def D.flat : D → Option Value
  | .int k n => some (.int k n)
  | .bool b => some (.bool b)
  | .str s => some (.string ⟨s.toArray⟩)
  | _ => none

theorem RepD.flat {G : Ghost} {x : D} {v u : Value} (hf : x.flat = some u) (h : RepD G x v) : v = u := by
  cases x <;> simp [D.flat] at hf <;> subst hf <;> simpa [RepD] using h

theorem RepD.of_flat {G : Ghost} {x : D} {u : Value} (hf : x.flat = some u) : RepD G x u := by
  cases x <;> simp [D.flat] at hf <;> subst hf <;> simp [RepD]

/-- the machine's call, as a contract -/
theorem calls_of_ev {P : Program} {T : Tb} (hN : FitN P T.tab) (hD : FitD P T.tabD) (hO : OrcOK P T.orc) {f : FuncId} {args : List AV} {x : D} {u : Value} {rf : Refs} (he : Ev T f args [] (.ret (.d x)) rf) (hu : x.flat = some u)
    (hf : ∃ af, T.tab f = some af) (ha : AV.refBs args = 0) (hno : ∀ y ∈ args, ∀ es, y ≠ .own es) {vs : Array Value} (hr : RepL K0 args vs.toList) (W : World) :
    Calls P f vs W fun e W' => e = .returned u ∧ Below W.heap.size W W' := by
  obtain ⟨k, hrun⟩ := he
  have hTN : TabOK T.tab := fun f af h => let ⟨_, _, hf, _⟩ := hN f af h; hf.cok
  have hTD : TabOK T.tabD := fun f af h => let ⟨_, _, hf, _⟩ := hD f af h; hf.cok
  have hCW : CallWF (T.C k) := call_wf hTN hTD (fun f args v h => (hO f args v h).1) k
  have hd := call_sound hN hD hO k f args [] _ rf hrun ⟨W, K0, [], fun _ => False⟩ K0 St.blank #[] W vs rfl (sim_start W) blank_wf (by rw [ha]; exact Nat.le_refl _) hno hr
  obtain ⟨af, haf⟩ := hf
  obtain ⟨fn, code, hfit, _⟩ := hN f af haf
  unfold Does at hd
  rw [hfit.call vs W] at hd
  refine hd.mono fun e W' ⟨K', h1, _, h3⟩ => ?_
  cases e with
  | returned v =>
    obtain ⟨av, e1, h4, _⟩ := h3
    cases e1
    simp only [Rep] at h4
    exact ⟨by rw [h4.flat hu], ⟨h1.os, h1.tape, h1.output, h1.size, fun b hb => (h1.keep b hb (fun hf => hf)).1⟩⟩
  | panicked ch => obtain ⟨av, pv, e1, _⟩ := h3; cases e1
  | outgrown => exact h3.elim

/-- a contract, as an oracle -/
theorem orcAt_of_calls {P : Program} {f : FuncId} {o : List AV → Option AV} (hen : ∀ args w, (callFunc f args).run P w = .ok (.enter f args) w)
    (h : ∀ args v, o args = some v → ∃ x u, v = .d x ∧ x.flat = some u ∧ ∀ (K : Ctx) (vs : Array Value), RepL K args vs.toList → ∀ w, Calls P f vs w fun e w' => e = .returned u ∧ Below w.heap.size w w') : OrcAt P f o := by
  intro args v hv
  obtain ⟨x, u, rfl, hu, hc⟩ := h args v hv
  refine ⟨rfl, fun es e => (by cases e), fun E K s tm w vs hs hw hr => ?_⟩
  unfold Does
  rw [hen vs w]
  refine (hc K vs hr w).mono fun e w' ⟨he, hb⟩ => ⟨K, u, hs.below hb, Up.refl _ _, he, ?_⟩
  simp only [Rep]
  exact RepD.of_flat hu

end Go.Ab
