/- An array of four numbers as an argument: what it reads as. -/
import Derived.ChangeVars
import Derived.OpenShut
import Derived.ChangeShapes
import Derived.WideKeyArr2
set_option linter.all false
namespace Go.Ab
open Go Go.ChangeShapes Go.WideShapes
section
variable {H : Type} {enc : TypeId × Value → H} {P : Program} {w : World} {base : Nat} {sp : Nat → Bool} {held : Bool}

theorem open_arr4 {r : Reach} {b0 : Nat} {t e : TypeId} {q : IntKind} {v : Value} {d : DataW H} {ps : List MemPlace} (ht : P.underlying t = some (.array 4 e)) (he : P.underlying e = some (.int q)) (hc1 : P.cellsOf e = 1) (hc4 : P.cellsOf t = 4)
    (hval : Value.okWide P w r b0 t v) (hd : DataW.Trod enc P w base sp held t v d ps) :
    ∃ n0 n1 n2 n3, v = .agg #[.int q n0, .int q n1, .int q n2, .int q n3] ∧ d = .agg [.lit (.int q n0), .lit (.int q n1), .lit (.int q n2), .lit (.int q n3)] ∧ ps = [] ∧
      (Lit.int q n0).wf = true ∧ (Lit.int q n1).wf = true ∧ (Lit.int q n2).wf = true ∧ (Lit.int q n3).wf = true := by
  simp only [Value.okWide, ht] at hval
  obtain ⟨cs, rfl, h2, _⟩ := hval
  obtain ⟨fuel, hf⟩ := hd
  obtain ⟨xs, m, rfl, hx, hl, hn, hi⟩ := DataW.trod_array ht hf
  obtain ⟨l⟩ := cs
  rw [hc4] at h2
  obtain ⟨a0, a1, a2, a3, rfl⟩ : ∃ a0 a1 a2 a3, l = [a0, a1, a2, a3] := by
    rcases l with _ | ⟨a, _ | ⟨b, _ | ⟨c, _ | ⟨d, _ | ⟨e, cs⟩⟩⟩⟩⟩ <;> simp at h2
    exact ⟨a, b, c, d, rfl⟩
  obtain ⟨x0, x1, x2, x3, rfl⟩ : ∃ a0 a1 a2 a3, xs = [a0, a1, a2, a3] := by
    rcases xs with _ | ⟨a, _ | ⟨b, _ | ⟨c, _ | ⟨d, _ | ⟨e, cs⟩⟩⟩⟩⟩ <;> simp at hn
    exact ⟨a, b, c, d, rfl⟩
  have i0 := hi 0 (by omega)
  have i1 := hi 1 (by omega)
  have i2 := hi 2 (by omega)
  have i3 := hi 3 (by omega)
  simp only [hc1, Value.cells, Nat.mul_one, List.drop_succ_cons, List.drop_zero, List.take_succ_cons, List.take_zero, List.getElem?_cons_zero, List.getElem?_cons_succ] at i0 i1 i2 i3
  obtain ⟨n0, e0, rfl, w0⟩ := DataW.trod_int he i0
  obtain ⟨n1, e1, rfl, w1⟩ := DataW.trod_int he i1
  obtain ⟨n2, e2, rfl, w2⟩ := DataW.trod_int he i2
  obtain ⟨n3, e3, rfl, w3⟩ := DataW.trod_int he i3
  simp only [List.cons.injEq, and_true] at e0 e1 e2 e3
  subst e0 e1 e2 e3
  simp only [Prod.mk.injEq] at hx
  exact ⟨n0, n1, n2, n3, rfl, by rw [hx.1]; rfl, by rw [hx.2]; rfl, w0, w1, w2, w3⟩

theorem shut_arr4 {t e : TypeId} {q : IntKind} {n0 n1 n2 n3 : Int} (ht : P.underlying t = some (.array 4 e)) (he : P.underlying e = some (.int q)) (hc1 : P.cellsOf e = 1) (hc4 : P.cellsOf t = 4)
    (w0 : (Lit.int q n0).wf = true) (w1 : (Lit.int q n1).wf = true) (w2 : (Lit.int q n2).wf = true) (w3 : (Lit.int q n3).wf = true) :
    DataW.Trod enc P w base sp held t (.agg #[.int q n0, .int q n1, .int q n2, .int q n3]) (.agg [.lit (.int q n0), .lit (.int q n1), .lit (.int q n2), .lit (.int q n3)]) [] := by
  refine ⟨2, ?_⟩
  rw [DataW.trod_step]
  unfold DataW.trodStep
  simp [ht, Value.cells, hc4, hc1, DataW.trod, he, w0, w1, w2, w3, List.range_succ]
end
end Go.Ab
