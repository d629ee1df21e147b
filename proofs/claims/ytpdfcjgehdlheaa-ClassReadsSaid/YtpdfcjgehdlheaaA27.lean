/- A call of the whole: from the abstract run to the machine's. -/
import Derived.Test.YtpdfcjgehdlheaaA26
import Derived.ProofKit
import Derived.Below
set_option linter.all false
namespace Go.Ab
open Go.RowKit

def K0 : Ctx := ⟨fun _ _ => none, fun _ => none, fun _ => none⟩

theorem sim_start (w : World) : Sim ⟨w, K0, [], fun _ => False⟩ K0 St.blank #[] w := by
  have hno : ∀ ℓ es v, ¬ holds K0 St.blank #[] w ℓ (.own es) v := fun ℓ es v hh => by
    cases ℓ with
    | sl t => simp [holds, St.blank, Slots.get] at hh
    | rf r i => simp [holds, St.blank] at hh
  exact ⟨Nat.le_refl _, rfl, rfl, rfl, fun b _ _ => ⟨rfl, rfl, fun _ => rfl⟩, Le.refl _, fun r hr => by simp at hr, fun b o v h => by simp [K0] at h, fun r cs hr => by simp [St.blank] at hr, fun r b hr => by simp [St.blank] at hr,
    fun r r' b hr => by simp [St.blank] at hr, fun b f h => by simp [K0] at h, fun t av ht => by simp [St.blank, Slots.get] at ht, fun ℓ es v hh => absurd hh (hno _ _ _), fun ℓ _ es _ v _ b hh => absurd hh (hno _ _ _),
    fun ℓ es v b hh => absurd hh (hno _ _ _), fun r b hr => by simp [St.blank] at hr⟩

theorem true_of_run {P : Program} {tab tabD : FuncId → Option AFn} {orc : FuncId → List AV → Option AV} (hN : FitN P tab) (hD : FitD P tabD) (hO : OrcOK P orc) {k : Nat} {f : FuncId} {args : List AV} {rf : Refs}
    (hrun : call tab tabD orc k f args [] = some (.ret (.d (.bool true)), rf)) (hf : ∃ af, tab f = some af) (ha : AV.refBs args = 0) (hno : ∀ x ∈ args, ∀ es, x ≠ .own es) {vs : Array Value} (hr : RepL K0 args vs.toList) (W : World) :
    Calls P f vs W fun e W' => e = .returned (.bool true) ∧ Below W.heap.size W W' := by
  have hTN : TabOK tab := fun f af h => let ⟨_, _, hf, _⟩ := hN f af h; hf.cok
  have hTD : TabOK tabD := fun f af h => let ⟨_, _, hf, _⟩ := hD f af h; hf.cok
  have hCW : CallWF (call tab tabD orc k) := call_wf hTN hTD (fun f args v h => (hO f args v h).1) k
  have hd := call_sound hN hD hO k f args [] _ rf hrun ⟨W, K0, [], fun _ => False⟩ K0 St.blank #[] W vs rfl (sim_start W) blank_wf (by rw [ha]; exact Nat.le_refl _) hno hr
  obtain ⟨af, haf⟩ := hf
  obtain ⟨fn, code, hfit, _⟩ := hN f af haf
  unfold Does at hd
  rw [hfit.call vs W] at hd
  refine hd.mono fun e W' ⟨K', h1, _, h3⟩ => ?_
  cases e with
  | returned v =>
    obtain ⟨av, e1, h4, _⟩ := h3
    cases e1
    simp only [Rep, RepD] at h4
    exact ⟨by rw [h4], ⟨h1.os, h1.tape, h1.output, h1.size, fun b hb => (h1.keep b hb (fun hf => hf)).1⟩⟩
  | panicked ch => obtain ⟨av, pv, e1, _⟩ := h3; cases e1
  | outgrown => exact h3.elim

end Go.Ab
