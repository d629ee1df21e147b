/- A part of the proof: tools. No condition. -/
import Derived.Test.YtomglfpnfioplaaGreatDoorCards
import Derived.Test.YtomglfpnfioplaaGreatDoorC7
import Derived.Test.YtomglfpnfioplaaGreatDoorC5
import Derived.Deep.Strs
set_option linter.all false
namespace Go.Ab.R09
open Go.RowKit Go.ChangeShapes Go.WideShapes Go.ChangeAt Go.Proofs Go.Proofs.YtomglfpnfioplaaGreatDoor
set_option linter.all false
theorem bulk_strs {H : Type} (S : Nat → List UInt8) : ∀ (n i : Nat), Rows.uptoBulkAll ((List.range' i n).map fun j => (DataW.lit (.string (S j)) : DataW H)) = longN ((List.range' i n).map S)
 | 0, i => rfl
 | n + 1, i => by
   have := bulk_strs (H := H) S n (i + 1)
   simp only [List.range'_succ, List.map_cons, Rows.uptoBulkAll, Rows.uptoBulk, longN, List.length_cons, sumL] at this ⊢
   omega
theorem open_rows {H : Type} {enc : TypeId × Value → H} {P : Program} {W : World} {t e : TypeId} {v : Value} {d : DataW H} {pl : List MemPlace} (ht : P.underlying t = some (.slice e)) (he : P.underlying e = some .string) (hc : P.cellsOf e = 1)
  {fuel : Nat} (h : DataW.trod enc P W 0 (fun _ => true) true fuel t v.cells.toList = some (d, pl)) (hv : ∃ a len cap, v = .slice a len cap) :
  ∃ ls : List (List UInt8), RepD (glbW W).G0 (.lst (rowsS ls)) v ∧ longN ls ≤ Rows.uptoBulk d := by
 obtain ⟨a0, len0, cap0, rfl⟩ := hv
 rcases Go.Deep.open_strs ht he hc h with ⟨hcs, hx⟩ | ⟨a, len, cap, m, Sx, hcs, _, hl, hm, hmm, hx, hcell⟩
 ·simp [Value.cells] at hcs
  obtain ⟨rfl, rfl, rfl⟩ := hcs
  refine ⟨[], ?_, by simp [longN, sumL]⟩
  simp only [rowsS, List.map_nil, RepD]
  exact ⟨none, 0, rfl, Nat.le_refl _, fun h => absurd rfl h⟩
 ·simp [Value.cells] at hcs
  obtain ⟨rfl, rfl, rfl⟩ := hcs
  simp only [Prod.mk.injEq] at hx
  obtain ⟨rfl, rfl⟩ := hx
  refine ⟨(List.range len0).map fun i => (Sx i).data.toList, ?_, ?_⟩
  ·have := rep_strs (W := W) (a := a) (len := len0) (cap := cap0) (m := m) (Sx := Sx) hl (by rw [hmm]; split <;> omega) (fun i hi => (hcell i hi).1)
   simp only [rowsS, List.map_map]
   exact this
  ·have := bulk_strs (H := H) (fun i => (Sx i).data.toList) len0 0
   rw [← List.range_eq_range'] at this
   simp only [Rows.uptoBulk]
   rw [this]
   omega
end Go.Ab.R09
