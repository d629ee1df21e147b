/- A part of the proof: tools. No condition. -/
import Derived.Test.YtghchmemjjpcbaaC7
import Derived.Test.YtghchmemjjpcbaaL3
import Derived.Deep.Slices
import Derived.OpenShut
import Derived.Test.YtghchmemjjpcbaaProg
set_option linter.all false
namespace Go.Ab.R05j
open Go Go.RowKit Go.ChangeShapes Go.WideShapes Go.ChangeAt Go.Proofs
set_option linter.all false
set_option maxHeartbeats 1000000
section
variable {H : Type} {enc : TypeId × Value → H} {W : World} {base : Nat} {sp : Nat → Bool} {held : Bool}
theorem seven {α : Type} {l : List α} (h : l.length = 7) : ∃ a b c d e f g, l = [a, b, c, d, e, f, g] := by
 rcases l with _ | ⟨a, _ | ⟨b, _ | ⟨c, _ | ⟨d, _ | ⟨e, _ | ⟨f, _ | ⟨g, _ | ⟨x, l⟩⟩⟩⟩⟩⟩⟩⟩ <;> simp at h
 exact ⟨a, b, c, d, e, f, g, rfl⟩
theorem four {α : Type} {l : List α} (h : l.length = 4) : ∃ a b c d, l = [a, b, c, d] := by
 rcases l with _ | ⟨a, _ | ⟨b, _ | ⟨c, _ | ⟨d, _ | ⟨x, l⟩⟩⟩⟩⟩ <;> simp at h
 exact ⟨a, b, c, d, rfl⟩
theorem three {α : Type} {l : List α} (h : l.length = 3) : ∃ a b c, l = [a, b, c] := by
 rcases l with _ | ⟨a, _ | ⟨b, _ | ⟨c, _ | ⟨x, l⟩⟩⟩⟩ <;> simp at h
 exact ⟨a, b, c, rfl⟩
theorem two {α : Type} {l : List α} (h : l.length = 2) : ∃ a b, l = [a, b] := by
 rcases l with _ | ⟨a, _ | ⟨b, _ | ⟨x, l⟩⟩⟩ <;> simp at h
 exact ⟨a, b, rfl⟩
theorem c41 : Try.prog.cellsOf 41 = 7 := by kernel_rfl
theorem c38 : Try.prog.cellsOf 38 = 4 := by kernel_rfl
theorem c39 : Try.prog.cellsOf 39 = 2 := by kernel_rfl
theorem c36 : Try.prog.cellsOf 36 = 1 := by kernel_rfl
theorem c3 : Try.prog.cellsOf 3 = 1 := by kernel_rfl
theorem open_re {cs : List Value} {n : Nat} {x : DataW H × List MemPlace} (h : DataW.trod enc Try.prog W base sp held n 41 cs = some x) :
  ∃ r : Re, r.set < 2 ^ 256 ∧ cs = [.int .i64 r.kind, .int .u64 (wd r.set 0 : Nat), .int .u64 (wd r.set 1 : Nat), .int .u64 (wd r.set 2 : Nat), .int .u64 (wd r.set 3 : Nat), .int .i64 r.k0, .int .i64 r.k1] := by
 obtain ⟨xs, m, rfl, _, hl, hlen, hf⟩ := DataW.trod_struct Try.underlying41 h
 rw [c41] at hl
 obtain ⟨v0, v1, v2, v3, v4, v5, v6, rfl⟩ := seven hl
 obtain ⟨x0, x1, x2, rfl⟩ := three hlen
 have h0 : DataW.trod enc Try.prog W base sp held m 3 ((List.drop 0 [v0, v1, v2, v3, v4, v5, v6]).take (Try.prog.cellsOf 3)) = some x0 := hf 0 _ rfl
 have h1 : DataW.trod enc Try.prog W base sp held m 38 ((List.drop 1 [v0, v1, v2, v3, v4, v5, v6]).take (Try.prog.cellsOf 38)) = some x1 := hf 1 _ rfl
 have h2 : DataW.trod enc Try.prog W base sp held m 39 ((List.drop 5 [v0, v1, v2, v3, v4, v5, v6]).take (Try.prog.cellsOf 39)) = some x2 := hf 2 _ rfl
 simp only [c3, c38, c39, List.drop_zero, List.drop_succ_cons, List.take_succ_cons, List.take_zero, List.getElem?_cons_zero, List.getElem?_cons_succ] at h0 h1 h2
 obtain ⟨k, e0, _, _⟩ := DataW.trod_int Try.underlying3 h0
 obtain ⟨ys, m1, _, _, _, hn1, hi1⟩ := DataW.trod_array Try.underlying38 h1
 obtain ⟨zs, m2, _, _, _, hn2, hi2⟩ := DataW.trod_array Try.underlying39 h2
 obtain ⟨y0, y1, y2, y3, rfl⟩ := four hn1
 obtain ⟨z0, z1, rfl⟩ := two hn2
 have i0 := hi1 0 (by omega)
 have i1 := hi1 1 (by omega)
 have i2 := hi1 2 (by omega)
 have i3 := hi1 3 (by omega)
 have j0 := hi2 0 (by omega)
 have j1 := hi2 1 (by omega)
 simp only [c36, c3, Nat.mul_one, List.drop_zero, List.drop_succ_cons, List.take_succ_cons, List.take_zero, List.getElem?_cons_zero, List.getElem?_cons_succ] at i0 i1 i2 i3 j0 j1
 obtain ⟨a0, f0, _, b0⟩ := DataW.trod_int Try.underlying36 i0
 obtain ⟨a1, f1, _, b1⟩ := DataW.trod_int Try.underlying36 i1
 obtain ⟨a2, f2, _, b2⟩ := DataW.trod_int Try.underlying36 i2
 obtain ⟨a3, f3, _, b3⟩ := DataW.trod_int Try.underlying36 i3
 obtain ⟨k0, g0, _, _⟩ := DataW.trod_int Try.underlying3 j0
 obtain ⟨k1, g1, _, _⟩ := DataW.trod_int Try.underlying3 j1
 simp only [List.cons.injEq, and_true] at e0 f0 f1 f2 f3 g0 g1
 subst e0 f0 f1 f2 f3 g0 g1
 have wb : ∀ a : Int, (Lit.int .u64 a).wf = true → 0 ≤ a ∧ a ≤ 18446744073709551615 := fun a h => by simpa [Lit.wf, IntKind.min, IntKind.max, IntKind.signed, IntKind.bits] using h
 obtain ⟨p0, q0⟩ := wb _ b0
 obtain ⟨p1, q1⟩ := wb _ b1
 obtain ⟨p2, q2⟩ := wb _ b2
 obtain ⟨p3, q3⟩ := wb _ b3
 obtain ⟨a0, rfl⟩ := Int.eq_ofNat_of_zero_le p0
 obtain ⟨a1, rfl⟩ := Int.eq_ofNat_of_zero_le p1
 obtain ⟨a2, rfl⟩ := Int.eq_ofNat_of_zero_le p2
 obtain ⟨a3, rfl⟩ := Int.eq_ofNat_of_zero_le p3
 have w0 : wd (a0 + a1 * 2 ^ 64 + a2 * 2 ^ 128 + a3 * 2 ^ 192) 0 = a0 := by unfold wd; omega
 have w1 : wd (a0 + a1 * 2 ^ 64 + a2 * 2 ^ 128 + a3 * 2 ^ 192) 1 = a1 := by unfold wd; omega
 have w2 : wd (a0 + a1 * 2 ^ 64 + a2 * 2 ^ 128 + a3 * 2 ^ 192) 2 = a2 := by unfold wd; omega
 have w3 : wd (a0 + a1 * 2 ^ 64 + a2 * 2 ^ 128 + a3 * 2 ^ 192) 3 = a3 := by unfold wd; omega
 refine ⟨⟨k, a0 + a1 * 2 ^ 64 + a2 * 2 ^ 128 + a3 * 2 ^ 192, k0, k1⟩, ?_, ?_⟩
 ·show a0 + a1 * 2 ^ 64 + a2 * 2 ^ 128 + a3 * 2 ^ 192 < 2 ^ 256
  omega
 ·simp only [w0, w1, w2, w3]
end
theorem cells_rows {W : World} {b : Nat} : ∀ (l : List D) (vs : List Value) (o : Nat), l.length = vs.length → (∀ (i : Nat) d v, l[i]? = some d → vs[i]? = some v → W.cell? ⟨b, o + i, none⟩ = some v ∧ RepD (glbW W).G0 d v) → RepCells (glbW W).G0 b o l
 | [], _, _, _, _ => by simp [RepCells]
 | d :: l, [], _, h, _ => by simp at h
 | d :: l, v :: vs, o, h, hc => by
   simp only [RepCells]
   refine ⟨⟨v, (hc 0 d v rfl rfl).1, (hc 0 d v rfl rfl).2⟩, cells_rows l vs (o + 1) (by simpa using h) fun i d' v' h1 h2 => ?_⟩
   have := hc (i + 1) d' v' (by simpa using h1) (by simpa using h2)
   rwa [show o + 1 + i = o + (i + 1) by omega]
theorem open_res {H : Type} {enc : TypeId × Value → H} {W : World} {v : Value} {d : DataW H} {pl : List MemPlace} {fuel : Nat} (h : DataW.trod enc Try.prog W 0 (fun _ => true) true fuel 23 v.cells.toList = some (d, pl)) (hv : ∃ a len cap, v = .slice a len cap) :
  ∃ t : List Re, (∀ r ∈ t, r.set < 2 ^ 256) ∧ RepD (glbW W).G0 (.lst (t.map reD)) v := by
 obtain ⟨a0, len0, cap0, rfl⟩ := hv
 rcases Go.Deep.open_slice Try.underlying23 h with ⟨hcs, hx⟩ | ⟨a, len, cap, m, n, Dd, Pl, hcs, _, hl, hm, hmm, hx, hcell⟩
 ·simp [Value.cells] at hcs
  obtain ⟨rfl, rfl, rfl⟩ := hcs
  refine ⟨[], by simp, ?_⟩
  simp only [List.map_nil, RepD]
  exact ⟨none, 0, rfl, Nat.le_refl _, fun h => absurd rfl h⟩
 ·simp [Value.cells] at hcs
  obtain ⟨rfl, rfl, rfl⟩ := hcs
  have hlm : len0 ≤ m := by rw [hmm]; split <;> omega
  have each : ∀ i, i < len0 → ∃ r : Re, r.set < 2 ^ 256 ∧ ∀ j v, ([.int .i64 r.kind, .int .u64 (wd r.set 0 : Nat), .int .u64 (wd r.set 1 : Nat), .int .u64 (wd r.set 2 : Nat), .int .u64 (wd r.set 3 : Nat), .int .i64 r.k0, .int .i64 r.k1] : List Value)[j]? = some v → W.cell? (a.add (i * 7 + j)) = some v := fun i hi => by
   obtain ⟨cs', h1, h2⟩ := hcell i (by omega)
   obtain ⟨r, hr, rfl⟩ := open_re h2
   rw [c41] at h1
   obtain ⟨_, hlen, hc⟩ := World.cells?_some h1
   refine ⟨r, hr, fun j v hj => ?_⟩
   have hj7 : j < 7 := by
    have := (List.getElem?_eq_some_iff.1 hj).1
    simpa using this
   have := hc j hj7
   rw [Go.Deep.add_add] at this
   rw [this, hj]
  have hinh : Inhabited Re := ⟨⟨0, 0, 0, 0⟩⟩
  obtain ⟨R, hR⟩ := Go.Deep.choose_lt each
  refine ⟨(List.range len0).map R, fun r hr => ?_, ?_⟩
  ·simp only [List.mem_map, List.mem_range] at hr
   obtain ⟨i, hi, rfl⟩ := hr
   exact (hR i hi).1
  ·simp only [RepD]
   refine ⟨some a, cap0, by simp, by simpa using hl, fun hne => ?_⟩
   have hpos : 0 < len0 := by
    rcases Nat.eq_zero_or_pos len0 with h | h
    ·subst h; simp at hne
    ·exact h
   have hsp : a.spot = none := by
    have h0 := (hR 0 hpos).2 0 _ rfl
    simpa [Addr.add] using World.cell?_spot h0
   obtain ⟨b, o, sp⟩ := a
   simp only at hsp
   subst hsp
   refine ⟨b, o, 7, rfl, ?_⟩
   have key : ∀ (k i : Nat), i + k ≤ len0 → RepRows (glbW W).G0 b 7 (o + i * 7) (((List.range' i k).map R).map reD) := fun k => by
    induction k with
    | zero => intro i _; simp [RepRows]
    | succ k ih =>
      intro i hi
      simp only [List.range'_succ, List.map_cons, RepRows]
      refine ⟨rfl, ?_, by have := ih (i + 1) (by omega); rwa [show o + (i + 1) * 7 = o + i * 7 + 7 by omega] at this⟩
      refine cells_rows (reD (R i)) [.int .i64 (R i).kind, .int .u64 (wd (R i).set 0 : Nat), .int .u64 (wd (R i).set 1 : Nat), .int .u64 (wd (R i).set 2 : Nat), .int .u64 (wd (R i).set 3 : Nat), .int .i64 (R i).k0, .int .i64 (R i).k1] _ rfl fun j d v h1 h2 => ?_
      have h3 := (hR i (by omega)).2 j v h2
      have h4 : (⟨b, o, none⟩ : Addr).add (i * 7 + j) = ⟨b, o + i * 7 + j, none⟩ := by rw [add_addr, Nat.add_assoc]
      rw [h4] at h3
      refine ⟨h3, ?_⟩
      unfold reD at h1
      rcases j with _ | _ | _ | _ | _ | _ | _ | j <;> simp at h1 h2 <;> subst h1 h2 <;> simp [RepD]
   have := key len0 0 (by omega)
   simpa [List.range_eq_range'] using this
end Go.Ab.R05j
