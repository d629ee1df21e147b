/- A round's body by the machine: one cell block of the parent's is written. -/
import Derived.Test.YtpdfcjgehdlheaaA34
set_option linter.all false
namespace Go.Ab
open Go.RowKit

def K1 (b : Nat) : Ctx := ⟨fun _ _ => none, fun _ => none, fun r => if r = 0 then some b else none⟩

theorem sim_one {W : World} {b : Nat} {vs : Array Value} {el : TypeId} {cs : List AV} {sl : Slots} {tm : Array Value} (hb : W.heap[b]? = some (.cells vs el)) (hr : RepL (K1 b) cs vs.toList) (hno : ∀ x, x ∈ cs → ∀ es, x ≠ .own es)
    (hsl : ∀ t av, sl.get t = some av → t < tm.size ∧ Rep (K1 b) av (tm.getD t undef) ∧ av.refB ≤ 1 ∧ ∀ es, av ≠ .own es) : Sim ⟨W, K1 b, [cs], fun k => k = b⟩ (K1 b) ⟨sl, [cs], [], none, 1⟩ tm W := by
  have hrr : ∀ (r : Nat) k, (K1 b).ρ r = some k → r = 0 ∧ k = b := fun r k h => by
    simp only [K1] at h
    split at h
    · rename_i h0; cases h; exact ⟨h0, rfl⟩
    · cases h
  have hn : ∀ ℓ es v, ¬ holds (K1 b) ⟨sl, [cs], [], none, 1⟩ tm W ℓ (.own es) v := fun ℓ es v hh => by
    cases ℓ with
    | sl t => exact (hsl t _ hh.1).2.2.2 es rfl
    | rf r i =>
      obtain ⟨cs', β, h1, h2, h3, _⟩ := hh
      obtain ⟨rfl, _⟩ := hrr r β h3
      simp only [List.getElem?_cons_zero, Option.some.injEq] at h1
      subst h1
      exact hno _ (List.mem_of_getElem? h2) es rfl
  refine ⟨Nat.le_refl _, rfl, rfl, rfl, fun k _ _ => ⟨rfl, rfl, fun _ => rfl⟩, Le.refl _, fun r _ => rfl, fun k o v h => by simp [K1] at h, fun r cs' h => ?_, fun r k _ _ => ⟨rfl, fun _ => rfl⟩, fun r r' k _ _ h1 h2 => ?_, fun k f h => by simp [K1] at h,
    fun t av ht => ⟨(hsl t av ht).1, (hsl t av ht).2.1⟩, fun ℓ es v hh => absurd hh (hn _ _ _), fun ℓ _ es _ v _ k hh => absurd hh (hn _ _ _), fun ℓ es v k hh => absurd hh (hn _ _ _), fun r k _ h _ => (hrr r k h).2⟩
  · cases r with
    | zero =>
      simp only [List.getElem?_cons_zero, Option.some.injEq] at h
      subst h
      exact ⟨b, vs, el, rfl, hb, hr⟩
    | succ r => simp at h
  · rw [(hrr r k h1).1, (hrr r' k h2).1]

theorem round_of_wp {P : Program} {T : Tb} (hN : FitN P T.tab) (hD : FitD P T.tabD) (hO : OrcOK P T.orc) {c : AC} {code : Code} {N l nn : Nat} {sl : Slots} {cs cs' : List AV} {W : World} {b : Nat} {vs : Array Value} {el : TypeId} {tm : Array Value}
    (hb : W.heap[b]? = some (.cells vs el)) (hr : RepL (K1 b) cs vs.toList) (h0 : AV.refBs cs = 0) (hno : ∀ x, x ∈ cs → ∀ es, x ≠ .own es)
    (hsl : ∀ t av, sl.get t = some av → t < tm.size ∧ Rep (K1 b) av (tm.getD t undef) ∧ av.refB ≤ 1 ∧ ∀ es, av ≠ .own es) (hsz : N ≤ tm.size)
    (hchk : chkC P N c code = true) (hcok : c.cok = true) (hflat : c.flat = true) (hnd : c.noDefer = true)
    (hwp : WP T c ⟨sl, [cs], [], none, 1⟩ (fun st => ∃ sl', st = ⟨sl', [cs'], [], none, 1⟩) (fun _ _ => False)) {Q : Exit → Act → World → Prop}
    (hQ : ∀ a' W' K' vs' el', W'.heap[b]? = some (.cells vs' el') → RepL K' cs' vs'.toList → (∀ k, k < W.heap.size → k ≠ b → W'.heap[k]? = W.heap[k]?) → W.heap.size ≤ W'.heap.size → W'.os = W.os → W'.tape = W.tape → W'.output = W.output → Q .normal a' W') :
    code.wpIn (FW (some l)) nn P Q { tmps := tm, defers := [] } W := by
  obtain ⟨k, e, s', hrun, hex⟩ := hwp
  have hTN : TabOK T.tab := fun f af h => let ⟨_, _, hf, _⟩ := hN f af h; hf.cok
  have hTD : TabOK T.tabD := fun f af h => let ⟨_, _, hf, _⟩ := hD f af h; hf.cok
  have hCW : CallWF (T.C k) := call_wf hTN hTD (fun f args v h => (hO f args v h).1) k
  have hC := call_sound hN hD hO k
  have hrb : RB ([cs] : Refs).length [cs] := fun r cs' h => by
    cases r with
    | zero => simp only [List.getElem?_cons_zero, Option.some.injEq] at h; subst h; rw [h0]; exact Nat.zero_le _
    | succ r => simp at h
  have hwf : WF [cs] ⟨sl, [cs], [], none, 1⟩ := ⟨rfl, Nat.le_refl _, fun n v h => (hsl n v h).2.2.1, hrb, fun m _ h => h, fun p h => by simp at h, fun v h => by simp at h⟩
  cases e with
  | nrm =>
    obtain ⟨sl', rfl⟩ := hex
    refine runIn_wp (E := ⟨W, K1 b, [cs], fun k => k = b⟩) hC hCW hrb k c code _ _ W (K1 b) Q .nrm _ hchk hcok hflat (.inr hnd) ⟨sim_one hb hr hno hsl, hwf, rfl, hsz⟩ hrun fun ex a' w' K' h1 h2 => ?_
    cases ex <;> simp only [ExR] at h1
    obtain ⟨β, vs', el', h3, h4, h5⟩ := h2.sim.refs 0 cs' rfl
    have h6 := h2.sim.rho 0 (by simp)
    rw [h3] at h6
    simp only [K1, if_true, Option.some.injEq] at h6
    subst h6
    exact hQ a' w' K' vs' el' h4 h5 (fun k hk hne => (h2.sim.keep k hk hne).1) h2.sim.size h2.sim.os h2.sim.tape h2.sim.output
  | exit i => exact hex.elim
  | goto i => exact hex.elim
  | ret => exact hex.elim
  | pan v => exact hex.elim

end Go.Ab
