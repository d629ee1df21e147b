/- A part of the proof: tools. No condition. -/
import Derived.Test.YtghchmemjjpcbaaL1
import Derived.LoopN
import Derived.ScopeJumps
import Derived.Laws.Sem
import Derived.Lib.Bytealg
import Derived.ProofKit
import Derived.Below
set_option linter.all false
namespace Go.Ab
def Alike (s s' : St) : Prop := (∀ t, s.sl.get t = s'.sl.get t) ∧ ({ s with sl := [] } : St) = { s' with sl := [] }
theorem Alike.refl (s : St) : Alike s s := ⟨fun _ => rfl, rfl⟩
theorem Alike.trans {a b c : St} (h : Alike a b) (k : Alike b c) : Alike a c := ⟨fun t => (h.1 t).trans (k.1 t), h.2.trans k.2⟩
theorem Alike.eq {s s' : St} (h : Alike s s') : s' = { s with sl := s'.sl } := by
 obtain ⟨sl, rf, df, pn, nb⟩ := s
 obtain ⟨sl', rf', df', pn', nb'⟩ := s'
 have := h.2
 simp only [St.mk.injEq, true_and] at this
 simp [this]
theorem Alike.agr {s s' : St} (h : Alike s s') (o : AOp) : Agr o s.sl s'.sl := by
 have hraw : ∀ x, rawO s'.sl x = rawO s.sl x := fun x => by
  cases x with
  | t n => exact (h.1 n).symm
  | c v => rfl
  | f id => rfl
 exact ⟨fun x _ => by simp only [getO]; rw [hraw], fun x _ => hraw x, fun t _ _ => (h.1 t).symm⟩
theorem unOwnS_congr {sl sl' : Slots} (h : ∀ t, sl.get t = sl'.get t) (r : Option Opd) (t : Nat) : (unOwnS sl r).get t = (unOwnS sl' r).get t := by
 unfold unOwnS
 split
 ·rename_i n
  rw [← h n]
  split
  ·simp only [Slots.put, Slots.get]
   rw [h t]
  ·exact h t
 ·exact h t
theorem slAfter_congr {o : AOp} {b : Bool} {v : Option AV} {sl sl' : Slots} (h : ∀ t, sl.get t = sl'.get t) (t : Nat) : (slAfter o b v sl).get t = (slAfter o b v sl').get t := by
 have h1 : ∀ t, Slots.get (if b then unOwnS sl o.op.raw else sl) t = Slots.get (if b then unOwnS sl' o.op.raw else sl') t := fun t => by
  cases b
  ·exact h t
  ·exact unOwnS_congr h _ t
 simp only [slAfter]
 split
 ·simp only [Slots.put, Slots.get]
  rw [h1 t]
 ·exact h1 t
theorem fin_alike {o : AOp} {sl sl' : Slots} (h : ∀ t, sl.get t = sl'.get t) (x : Option AV × Bool × St) : Alike (fin o sl x) (fin o sl' x) :=
 ⟨fun t => slAfter_congr h t, rfl⟩
theorem step_alike {C : CallFn} {s s' : St} (h : Alike s s') (o : AOpk) : stepOp C s' o = (stepOp C s o).map (Did.mapSt fun st => { st with sl := unOwnS s'.sl o.raw }) := by
 have hraw : ∀ x, rawO s'.sl x = rawO s.sl x := fun x => by
  cases x with
  | t n => exact (h.1 n).symm
  | c v => rfl
  | f id => rfl
 rw [h.eq]
 exact step_slots (fun x _ => by simp only [getO]; rw [hraw]) (fun x _ => hraw x)
theorem wanted_alike {s s' : St} (h : Alike s s') (g : Option (Nat × Bool)) : wantedA s' g = wantedA s g := by
 cases g with
 | none => rfl
 | some p =>
   obtain ⟨t, b⟩ := p
   simp only [wantedA]
   rw [← h.1 t]
theorem putO_alike {s s' : St} (h : Alike s s') (d : Option Nat) (v : AV) : Alike (putO s d v) (putO s' d v) := by
 cases d with
 | none => exact h
 | some d => exact ⟨fun t => by simp only [putO, Slots.put, Slots.get]; rw [h.1 t], h.2⟩
theorem runOps_alike {C : CallFn} : ∀ {l : List AOp} {s s' : St} {e : Ex} {t : St}, Alike s s' → runOps C l s = some (e, t) → ∃ t', runOps C l s' = some (e, t') ∧ Alike t t'
 | [], s, s', e, t, h, hr => by
   simp only [runOps, Option.some.injEq, Prod.mk.injEq] at hr ⊢
   obtain ⟨rfl, rfl⟩ := hr
   exact ⟨s', ⟨rfl, rfl⟩, h⟩
 | o :: l, s, s', e, t, h, hr => by
   simp only [runOps] at hr ⊢
   rw [wanted_alike h]
   split at hr
   ·simp at hr
   ·exact runOps_alike (putO_alike h _ _) hr
   ·have hss := step_slots (C := C) (s := s) (o := o.op) (sl2 := s.sl) (fun _ _ => rfl) (fun _ _ => rfl)
    have hs0 : ({ s with sl := s.sl } : St) = s := rfl
    rw [hs0] at hss
    have hal : ∀ s1 : St, s1 = { s1 with sl := unOwnS s.sl o.op.raw } → Alike s1 { s1 with sl := unOwnS s'.sl o.op.raw } := fun s1 h1 =>
     ⟨fun t => by rw [h1]; exact unOwnS_congr h.1 _ t, rfl⟩
    rw [step_alike h]
    split at hr
    ·rename_i v s1 hs
     rw [hs] at hss ⊢
     simp only [Option.map_some, Did.mapSt, Option.some.injEq, Did.val.injEq, true_and] at hss ⊢
     exact runOps_alike (putO_alike (hal s1 hss) _ _) hr
    ·rename_i s1 hs
     rw [hs] at hss ⊢
     simp only [Option.map_some, Did.mapSt, Option.some.injEq, Did.none_.injEq] at hss ⊢
     exact runOps_alike (hal s1 hss) hr
    ·rename_i v s1 hs
     rw [hs] at hss ⊢
     simp only [Option.map_some, Did.mapSt, Option.some.injEq, Did.pan.injEq, true_and] at hss ⊢
     split at hr
     ·rename_i hm
      simp only [Option.some.injEq, Prod.mk.injEq] at hr
      obtain ⟨rfl, rfl⟩ := hr
      rw [if_pos hm]
      exact ⟨_, rfl, hal s1 hss⟩
     ·simp at hr
    ·simp at hr
def deown : Option AV → Option AV
 | some (.own es) => some (.d (.lst es))
 | z => z
def rOf (o : AOp) (b : Bool) (n : Nat) : Bool := b && o.op.raw.any (Opd.isT n)
def dOf (o : AOp) (v : Option AV) (n : Nat) : Option AV := if o.dst = some n then v else none
theorem get_unOwnS' {sl : Slots} {r : Option Opd} {n : Nat} : (unOwnS sl r).get n = if r.any (Opd.isT n) then deown (sl.get n) else sl.get n := by
 cases r with
 | none => rfl
 | some x =>
   cases x with
   | t m =>
     simp only [unOwnS, Option.any_some, Opd.isT]
     by_cases hm : m = n
     ·subst hm
      simp only [beq_self_eq_true, if_true]
      split
      ·rename_i es h
       rw [h]
       simp [Slots.put, Slots.get, deown]
      ·rename_i h
       unfold deown
       split
       ·rename_i es h'; exact absurd h' (h es)
       ·rfl
     ·have : (m == n) = false := by simp [hm]
      simp only [this, Bool.false_eq_true, if_false]
      split
      ·simp [Slots.put, Slots.get, hm]
      ·rfl
   | c v => rfl
   | f id => rfl
theorem get_slAfter {o : AOp} {b : Bool} {v : Option AV} {sl : Slots} {n : Nat} :
  (slAfter o b v sl).get n = match dOf o v n with
   | some u => some u
   | none => if rOf o b n then deown (sl.get n) else sl.get n := by
 have h1 : Slots.get (if b then unOwnS sl o.op.raw else sl) n = if rOf o b n then deown (sl.get n) else sl.get n := by
  cases b
  ·rfl
  ·simp only [if_true, rOf, Bool.true_and]
   exact get_unOwnS'
 simp only [slAfter, dOf]
 cases v with
 | none =>
   simp only [ite_self]
   exact h1
 | some u =>
   cases hd : o.dst with
   | none =>
     simp only [reduceCtorEq, if_false]
     exact h1
   | some d =>
     simp only [Slots.put, Slots.get, Option.some.injEq]
     by_cases hdn : d = n
     ·simp [hdn]
     ·simp only [if_neg hdn]
      exact h1
theorem swap2 {C : CallFn} {y x : AOp} (hc : compat y x = true) {l : List AOp} {s : St} {e : Ex} {t : St} (hr : runOps C (y :: x :: l) s = some (e, t)) : ∃ t', runOps C (x :: y :: l) s = some (e, t') ∧ Alike t t' := by
 simp only [compat, Bool.and_eq_true, Bool.not_eq_true', Bool.or_eq_true, beq_iff_eq, decide_eq_true_eq] at hc
 obtain ⟨⟨⟨⟨⟨⟨hym, hxm⟩, c1⟩, c2⟩, c3⟩, c4⟩, c5⟩ := hc
 have c1' : ∀ d, y.dst = some d → x.uses d = false ∧ x.dst ≠ some d := fun d hd => by
  rw [hd] at c1
  simpa using c1
 have c2' : ∀ d, x.dst = some d → y.uses d = false := fun d hd => by
  rw [hd] at c2
  simpa using c2
 have c3' : ∀ n, y.op.raw = some (.t n) → x.op.raw.any (Opd.isT n) = false ∧ isG n x.guard = false := fun n hn => by
  rw [hn] at c3
  simpa using c3
 have c4' : ∀ n, x.op.raw = some (.t n) → y.op.raw.any (Opd.isT n) = false ∧ isG n y.guard = false := fun n hn => by
  refine ⟨?_, ?_⟩
  ·cases hy : y.op.raw with
   | none => rfl
   | some z =>
     cases z with
     | t m =>
       have := (c3' m hy).1
       rw [hn] at this
       simp [Opd.isT] at this ⊢
       omega
     | c v => rfl
     | f id => rfl
  ·rw [hn] at c4
   simpa using c4
 rw [runOps_eff hym] at hr
 obtain ⟨⟨vy, by', my⟩, hy, hr⟩ := Option.bind_eq_some_iff.1 hr
 rw [runOps_eff hxm] at hr
 obtain ⟨⟨vx, bx, mx⟩, hx, hr⟩ := Option.bind_eq_some_iff.1 hr
 have hxs : eff C x (St.mem s my) = some (vx, bx, mx) := by
  rw [← hx]
  exact (eff_agr (s := St.mem s my) (agr_of (y := y) (x := x) (b := by') (v := vy) (sl := s.sl) (fun d hd => (c1' d hd).1) c3')).symm
 have mem_self : ∀ m : St, m = { s with sl := [] } → St.mem s m = s := fun m hm => by rw [hm]; rfl
 have first : ∃ mx', eff C x s = some (vx, bx, mx') ∧ eff C y (St.mem s mx') = some (vy, by', mx) := by
  have hmx := eff_norm hxs
  have y2 : y.op.cls ≤ 2 → eff C x s = some (vx, bx, mx) ∧ my = { s with sl := [] } := fun hy2 => by
   have hmy := eff_mem2 hy2 hy
   rw [mem_self my hmy] at hxs
   exact ⟨hxs, hmy⟩
  have back : x.op.cls ≤ 2 → eff C x (St.mem (St.mem s my) s) = some (vx, bx, { s with sl := [] }) → ∃ mx', eff C x s = some (vx, bx, mx') ∧ eff C y (St.mem s mx') = some (vy, by', mx) := fun hx2 h1 => by
   have hms : St.mem (St.mem s my) s = s := rfl
   rw [hms] at h1
   refine ⟨_, h1, ?_⟩
   have h2 : mx = { St.mem s my with sl := [] } := eff_mem2 hx2 hxs
   have h3 : St.mem s { s with sl := [] } = s := rfl
   rw [h3, hy, h2]
   simp only [St.mem]
   rw [← eff_norm hy]
  rcases c5 with ((((((h | h) | h) | h) | h) | h) | h) | h
  ·exact back (by omega) (eff_mem0 (m := s) h hxs)
  ·obtain ⟨h1, h2⟩ := y2 (by omega)
   exact ⟨mx, h1, by rw [eff_mem0 h hy, ← hmx]⟩
  ·obtain ⟨h1, h2⟩ := y2 h.1
   refine ⟨mx, h1, ?_⟩
   have h3 := eff_mem2 h.2 h1
   rw [mem_self mx h3, hy, h2, h3]
  ·obtain ⟨h1, h2⟩ := y2 (by omega)
   exact ⟨mx, h1, by rw [eff_mem1 h.1 (eff_mem3 h.2 h1) hy, ← hmx]⟩
  ·obtain ⟨h1, h2⟩ := y2 (by omega)
   exact ⟨mx, h1, by rw [eff_memL h.1 (eff_mem5 h.2 h1) hy, ← hmx]⟩
  ·exact back (by omega) (eff_memL (m := s) h.2 (show SameL (St.mem s my) s from (eff_mem5 h.1 hy).symm) hxs)
  ·obtain ⟨hcl, agg, a, n, hop⟩ := sep_form h
   obtain ⟨h1, h2⟩ := y2 (by omega)
   exact ⟨mx, h1, by rw [eff_memR hop (eff_memW h h1 agg a n hop) hy, ← hmx]⟩
  ·obtain ⟨hcl, agg, a, n, hop⟩ := sep_form h
   exact back (by omega) (eff_memR (s := St.mem s my) (m := s) hop (fun q off hg => (eff_memW h hy agg a n hop q off hg).symm) hxs)
 obtain ⟨mx', h1, h2⟩ := first
 have h3 : eff C y (fin x s.sl (vx, bx, mx')) = some (vy, by', mx) := by
  rw [← h2]
  exact eff_agr (s := St.mem s mx') (agr_of (y := x) (x := y) (b := bx) (v := vx) (sl := s.sl) c2' c4')
 have hal : Alike (fin x (fin y s.sl (vy, by', my)).sl (vx, bx, mx)) (fin y (fin x s.sl (vx, bx, mx')).sl (vy, by', mx)) := by
  refine ⟨fun n => ?_, rfl⟩
  simp only [fin]
  rw [get_slAfter, get_slAfter, get_slAfter, get_slAfter]
  have d1 : ∀ u, dOf y vy n = some u → dOf x vx n = none ∧ rOf x bx n = false := fun u hu => by
   unfold dOf at hu
   split at hu
   ·rename_i hd
    have := c1' n hd
    refine ⟨by simp [dOf, this.2], ?_⟩
    have hh := this.1
    simp only [AOp.uses, Bool.or_eq_false_iff] at hh
    simp [rOf, hh.1.2]
   ·simp at hu
  have d2 : ∀ u, dOf x vx n = some u → rOf y by' n = false := fun u hu => by
   unfold dOf at hu
   split at hu
   ·rename_i hd
    have hh := c2' n hd
    simp only [AOp.uses, Bool.or_eq_false_iff] at hh
    simp [rOf, hh.1.2]
   ·simp at hu
  cases hdy : dOf y vy n with
  | some u =>
    obtain ⟨e1, e2⟩ := d1 u hdy
    rw [e1, e2]
    rfl
  | none =>
    cases hdx : dOf x vx n with
    | some u =>
      rw [d2 u hdx]
      rfl
    | none =>
      simp only
      cases rOf x bx n <;> cases rOf y by' n <;> rfl
 obtain ⟨t', h4, h5⟩ := runOps_alike hal hr
 refine ⟨t', ?_, h5⟩
 rw [runOps_eff hxm, h1]
 simp only [Option.bind_some]
 rw [runOps_eff hym, h3]
 exact h4
theorem front {C : CallFn} {x : AOp} {l2 : List AOp} : ∀ {l1 : List AOp} {s : St} {e : Ex} {t : St}, (∀ y, y ∈ l1 → compat y x = true) → runOps C (l1 ++ x :: l2) s = some (e, t) →
  ∃ t', runOps C (x :: (l1 ++ l2)) s = some (e, t') ∧ Alike t t'
 | [], s, e, t, _, hr => ⟨t, hr, Alike.refl t⟩
 | y :: l1, s, e, t, hc, hr => by
   have hym : y.may = false := by
    have := hc y (by simp)
    simp only [compat, Bool.and_eq_true, Bool.not_eq_true'] at this
    exact this.1.1.1.1.1.1
   simp only [List.cons_append] at hr
   rw [runOps_eff hym] at hr
   obtain ⟨v, hv, hr⟩ := Option.bind_eq_some_iff.1 hr
   obtain ⟨t1, h1, a1⟩ := front (fun z hz => hc z (by simp [hz])) hr
   have h2 : runOps C (y :: x :: (l1 ++ l2)) s = some (e, t1) := by
    rw [runOps_eff hym, hv]
    exact h1
   obtain ⟨t2, h3, a2⟩ := swap2 (hc y (by simp)) h2
   exact ⟨t2, h3, a1.trans a2⟩
def waits (o : Oper) : List Nat := o.after.toList.filterMap fun e => if Region.binds .any e then some e.on else none
inductive Must (ops : Array Oper) : Nat → Nat → Prop
 | one {j i : Nat} {o : Oper} : ops[i]? = some o → j ∈ waits o → Must ops j i
 | more {j k i : Nat} {o : Oper} : ops[i]? = some o → k ∈ waits o → Must ops j k → Must ops j i
def maskOf (acc : List Nat) : List Nat → Nat
 | [] => 0
 | k :: r => (2 ^ k ||| acc.getD k 0) ||| maskOf acc r
def masks : List Oper → List Nat → List Nat
 | [], acc => acc
 | o :: r, acc => masks r (acc ++ [maskOf acc (waits o)])
theorem maskOf_bit {acc : List Nat} : ∀ {d : List Nat} {j : Nat}, (maskOf acc d).testBit j = true → ∃ k, k ∈ d ∧ (j = k ∨ (acc.getD k 0).testBit j = true)
 | [], j, h => by simp [maskOf] at h
 | k :: r, j, h => by
   simp only [maskOf, Nat.testBit_or, Bool.or_eq_true, Nat.testBit_two_pow, decide_eq_true_eq] at h
   rcases h with (h | h) | h
   ·exact ⟨k, by simp, .inl h.symm⟩
   ·exact ⟨k, by simp, .inr h⟩
   ·obtain ⟨k', h1, h2⟩ := maskOf_bit h
    exact ⟨k', by simp [h1], h2⟩
theorem masks_must {ops : Array Oper} : ∀ {r : List Oper} {acc : List Nat}, (∀ m : Nat, r[m]? = ops[acc.length + m]?) → (∀ i j, (acc.getD i 0).testBit j = true → Must ops j i) →
  ∀ i j, ((masks r acc).getD i 0).testBit j = true → Must ops j i
 | [], acc, _, h, i, j, hb => h i j hb
 | o :: r, acc, hr, h, i, j, hb => by
   refine masks_must (r := r) (acc := acc ++ [maskOf acc (waits o)]) (fun m => ?_) (fun i j hb => ?_) i j hb
   ·have := hr (m + 1)
    simp only [List.getElem?_cons_succ] at this
    rw [this]
    simp only [List.length_append, List.length_cons, List.length_nil]
    congr 1; omega
   ·have ho : ops[acc.length]? = some o := by
     have := hr 0
     simpa using this.symm
    rw [List.getD_eq_getElem?_getD] at hb
    by_cases hi : i < acc.length
    ·rw [List.getElem?_append_left hi, ← List.getD_eq_getElem?_getD] at hb
     exact h i j hb
    ·rw [List.getElem?_append_right (by omega)] at hb
     by_cases hz : i = acc.length
     ·subst hz
      simp only [Nat.sub_self, List.getElem?_cons_zero, Option.getD_some] at hb
      obtain ⟨k, hk, hj⟩ := maskOf_bit hb
      rcases hj with rfl | hj
      ·exact .one ho hk
      ·exact .more ho hk (h k j hj)
     ·have : ([maskOf acc (waits o)] : List Nat)[i - acc.length]? = none := by
       rw [List.getElem?_eq_none]; simp; omega
      rw [this] at hb
      simp at hb
def freeOf (m : Nat) (x : AOp) : Nat → List AOp → Bool
 | _, [] => true
 | j, y :: r => (m.testBit j || compat y x) && freeOf m x (j + 1) r
def frees : List AOp → List AOp → List Nat → Bool
 | _, [], _ => true
 | pre, x :: r, ms => freeOf (ms.getD pre.length 0) x 0 pre && frees (pre ++ [x]) r ms
def backs : Nat → List Oper → Bool
 | _, [] => true
 | i, o :: r => (waits o).all (fun k => decide (k < i)) && backs (i + 1) r
def drawOK (ops : Array Oper) (l : List AOp) : Bool :=
 backs 0 ops.toList && frees [] l (masks ops.toList [])
theorem freeOf_get {m : Nat} {x : AOp} : ∀ {l : List AOp} {n j : Nat} {y : AOp}, freeOf m x n l = true → l[j]? = some y → m.testBit (n + j) = true ∨ compat y x = true
 | [], n, j, y, _, h => by simp at h
 | z :: r, n, j, y, h, hj => by
   simp only [freeOf, Bool.and_eq_true, Bool.or_eq_true] at h
   cases j with
   | zero =>
     simp only [List.getElem?_cons_zero, Option.some.injEq] at hj
     subst hj
     exact h.1
   | succ j =>
     simp only [List.getElem?_cons_succ] at hj
     have := freeOf_get h.2 hj
     rwa [show n + 1 + j = n + (j + 1) by omega] at this
theorem frees_get {ms : List Nat} : ∀ {l pre : List AOp}, frees pre l ms = true → ∀ {i j : Nat} {x y : AOp}, pre.length ≤ i → j < i → (pre ++ l)[i]? = some x → (pre ++ l)[j]? = some y → (ms.getD i 0).testBit j = true ∨ compat y x = true
 | [], pre, _, i, j, x, y, hi, _, hx, _ => by
   rw [List.append_nil, List.getElem?_eq_none hi] at hx
   cases hx
 | z :: r, pre, h, i, j, x, y, hi, hj, hx, hy => by
   simp only [frees, Bool.and_eq_true] at h
   by_cases he : i = pre.length
   ·subst he
    simp only [List.getElem?_append_right (Nat.le_refl _), Nat.sub_self, List.getElem?_cons_zero, Option.some.injEq] at hx
    subst hx
    rw [List.getElem?_append_left hj] at hy
    have := freeOf_get h.1 hy
    simpa using this
   ·have e1 : pre ++ z :: r = (pre ++ [z]) ++ r := by simp
    rw [e1] at hx hy
    exact frees_get h.2 (by simp; omega) hj hx hy
theorem backs_get : ∀ {l : List Oper} {n i : Nat} {o : Oper}, backs n l = true → l[i]? = some o → ∀ k, k ∈ waits o → k < n + i
 | [], n, i, o, _, h => by simp at h
 | z :: r, n, i, o, h, hi => by
   simp only [backs, Bool.and_eq_true, List.all_eq_true, decide_eq_true_eq] at h
   cases i with
   | zero =>
     simp only [List.getElem?_cons_zero, Option.some.injEq] at hi
     subst hi
     exact h.1
   | succ i =>
     simp only [List.getElem?_cons_succ] at hi
     intro k hk
     have := backs_get h.2 hi k hk
     omega
theorem cons_congr {C : CallFn} {x : AOp} {l l' : List AOp} {s : St} {e : Ex} {t : St} (hr : runOps C (x :: l) s = some (e, t))
  (h : ∀ s1 e1 t1, runOps C l s1 = some (e1, t1) → ∃ t2, runOps C l' s1 = some (e1, t2) ∧ Alike t1 t2) : ∃ t', runOps C (x :: l') s = some (e, t') ∧ Alike t t' := by
 simp only [runOps] at hr ⊢
 split at hr
 ·simp at hr
 ·exact h _ _ _ hr
 ·split at hr
  ·exact h _ _ _ hr
  ·exact h _ _ _ hr
  ·split at hr
   ·rename_i hm
    rw [if_pos hm]
    exact ⟨t, hr, Alike.refl t⟩
   ·simp at hr
  ·simp at hr
theorem pickL_append (l : List AOp) (a b : List Nat) : pickL l (a ++ b) = pickL l a ++ pickL l b := by simp [pickL]
theorem pickL_range (l : List AOp) : ∀ n k, n + k = l.length → pickL l ((List.range' k n)) = l.drop k
 | 0, k, h => by
   simp [pickL, List.drop_eq_nil_of_le (show l.length ≤ k by omega)]
 | n + 1, k, h => by
   have hk : k < l.length := by omega
   have := pickL_range l n (k + 1) (by omega)
   simp only [pickL, List.range'_succ, List.filterMap_cons, List.getElem?_eq_getElem hk] at this ⊢
   rw [this]
   exact (List.drop_eq_getElem_cons hk).symm
def Closed (ops : Array Oper) (listed : Array Bool) : Prop := ∀ i o, ops[i]? = some o → listed.getD i false = true → ∀ k, k ∈ waits o → listed.getD k false = true
theorem must_listed {ops : Array Oper} {listed : Array Bool} (hc : Closed ops listed) {j i : Nat} (h : Must ops j i) : (∀ o, ops[i]? = some o → ∀ k, k ∈ waits o → listed.getD k false = true) → listed.getD j false = true := by
 induction h with
 | one ho hj => intro hi; exact hi _ ho _ hj
 | more ho hk _ ih => intro hi; exact ih fun o' ho' k' hk' => hc _ _ ho' (hi _ ho _ hk) _ hk'
theorem listed_conv {listed : Array Bool} {k : Nat} (h : listed.getD k false = true) : listed.getD k true = true := by
 rw [Array.getD_eq_getD_getElem?] at h ⊢
 cases hk : listed[k]? with
 | none => rfl
 | some b => rw [hk] at h; exact h
section
variable {ops : Array Oper} {l : List AOp}
theorem go_runs {C : CallFn} (hl : l.length = ops.size) (hd : drawOK ops l = true) : ∀ (fuel t : Nat) (listed : Array Bool) (rem : List Nat) (s : St) (e : Ex) (u : St), listed.size = ops.size → Closed ops listed →
  rem.Pairwise (· < ·) → (∀ j, j ∈ rem ↔ j < ops.size ∧ listed.getD j true = false) → rem.length ≤ fuel → runOps C (pickL l rem) s = some (e, u) →
  ∃ u', runOps C (pickL l (Region.linearise.go .any ops fuel t listed [])) s = some (e, u') ∧ Alike u u'
 | 0, t, listed, rem, s, e, u, _, _, _, _, hf, hr => by
   have : rem = [] := List.eq_nil_of_length_eq_zero (by omega)
   subst this
   simp only [Region.linearise.go]
   exact ⟨u, hr, Alike.refl u⟩
 | fuel + 1, t, listed, rem, s, e, u, hsz, hcl, hsort, hrem, hf, hr => by
   have hd' := hd
   simp only [drawOK, Bool.and_eq_true] at hd'
   obtain ⟨hback, hfree⟩ := hd'
   have hready : ∀ i, i ∈ Region.ready .any ops listed ↔ listed.getD i true = false ∧ ∃ o, ops[i]? = some o ∧ ∀ k, k ∈ waits o → listed.getD k false = true := fun i => by
    rw [mem_ready]
    refine and_congr Iff.rfl (exists_congr fun o => and_congr Iff.rfl ?_)
    constructor
    ·intro h k hk
     simp only [waits, List.mem_filterMap] at hk
     obtain ⟨e, he, hb⟩ := hk
     split at hb
     ·rename_i hb'
      simp only [Option.some.injEq] at hb
      subst hb
      exact h e (by simpa using he) hb'
     ·simp at hb
    ·intro h e he hb
     exact h e.on (by simp only [waits, List.mem_filterMap]; exact ⟨e, by simpa using he, by simp [hb]⟩)
   simp only [Region.linearise.go]
   change ∃ u', runOps C (pickL l (match (Region.ready .any ops listed)[t % (Region.ready .any ops listed).length]? with
    | some i => Region.linearise.go .any ops fuel (t / (Region.ready .any ops listed).length) (listed.setIfInBounds i true) [i]
    | none => [].reverse)) s = some (e, u') ∧ Alike u u'
   cases hi : (Region.ready .any ops listed)[t % (Region.ready .any ops listed).length]? with
   | none =>
     have hnil : Region.ready .any ops listed = [] := by
      cases hrr : Region.ready .any ops listed with
      | nil => rfl
      | cons x xs =>
        rw [hrr] at hi
        have hlt : t % (x :: xs).length < (x :: xs).length := Nat.mod_lt _ (by simp)
        simp at hi
        simp at hlt
        omega
     have : rem = [] := by
      cases rem with
      | nil => rfl
      | cons i0 r =>
        exfalso
        have h0 := (hrem i0).1 (by simp)
        have : i0 ∈ Region.ready .any ops listed := by
         rw [hready]
         refine ⟨h0.2, ops[i0]'h0.1, Array.getElem?_eq_getElem h0.1, fun k hk => ?_⟩
         have hlt := backs_get (i := i0) hback (by rw [Array.getElem?_toList]; exact Array.getElem?_eq_getElem h0.1) k hk
         have hk' : k < i0 := by omega
         cases hkk : listed.getD k false with
         | true => rfl
         | false =>
           exfalso
           have hkt : listed.getD k true = false := by
            have hks : k < listed.size := by omega
            simpa [Array.getD, hks] using hkk
           have := (hrem k).2 ⟨by omega, hkt⟩
           rcases List.mem_cons.1 this with e1 | e1
           ·omega
           ·have := (List.pairwise_cons.1 hsort).1 k e1
            omega
        rw [hnil] at this
        simp at this
     subst this
     exact ⟨u, hr, Alike.refl u⟩
   | some i =>
     simp only []
     have him := List.mem_of_getElem? hi
     obtain ⟨h1, o, ho, h2⟩ := (hready i).1 him
     have hlt : i < ops.size := (Array.getElem?_eq_some_iff.1 ho).1
     have hir : i ∈ rem := (hrem i).2 ⟨hlt, h1⟩
     obtain ⟨r1, r2, rfl⟩ := List.append_of_mem hir
     have hx : l[i]? = some (l[i]'(by omega)) := List.getElem?_eq_getElem _
     have hpick : ∀ r, pickL l (i :: r) = l[i]'(by omega) :: pickL l r := fun r => by simp only [pickL, List.filterMap_cons, hx]
     rw [pickL_append, hpick] at hr
     have hs2 := List.pairwise_append.1 hsort
     have hs3 := List.pairwise_cons.1 hs2.2.1
     obtain ⟨u1, hr1, a1⟩ := front (fun y hy => by
      simp only [pickL, List.mem_filterMap] at hy
      obtain ⟨j, hj, hyj⟩ := hy
      have hji : j < i := hs2.2.2 j hj i (by simp)
      have hjl := (hrem j).1 (by simp [hj])
      rcases frees_get hfree (i := i) (j := j) (by simp) hji (by rw [List.nil_append]; exact hx) (by rw [List.nil_append]; exact hyj) with hm | hm
      ·exfalso
       have hmust := masks_must (ops := ops) (r := ops.toList) (acc := []) (fun m => by simp) (fun i j h => by simp at h) i j hm
       have := listed_conv (must_listed hcl hmust fun o' ho' k hk => by
        rw [ho] at ho'
        cases ho'
        exact h2 k hk)
       rw [hjl.2] at this
       cases this
      ·exact hm) hr
     rw [linearise_go_acc, List.reverse_singleton, List.singleton_append, hpick]
     have hset : ∀ j d, (listed.setIfInBounds i true).getD j d = if i = j then true else listed.getD j d := fun j d => by
      by_cases hij : i = j
      ·subst hij
       have : i < listed.size := by omega
       simp [Array.getD, this]
      ·rw [if_neg hij]; exact getD_set_ne d hij
     have hc := cons_congr (l' := pickL l (Region.linearise.go .any ops fuel (t / (Region.ready .any ops listed).length) (listed.setIfInBounds i true) [])) hr1 fun s1 e1 t1 hr2 => by
      rw [← pickL_append] at hr2
      refine go_runs hl hd fuel _ (listed.setIfInBounds i true) (r1 ++ r2) s1 e1 t1 (by simpa using hsz) ?_ ?_ ?_ (by simp at hf ⊢; omega) hr2
      ·intro i' o' ho' hl' k hk
       rw [hset] at hl' ⊢
       split
       ·rfl
       ·split at hl'
        ·rename_i hii
         subst hii
         rw [ho] at ho'
         cases ho'
         exact h2 k hk
        ·exact hcl i' o' ho' hl' k hk
      ·exact List.pairwise_append.2 ⟨hs2.1, hs3.2, fun a ha b hb => hs2.2.2 a ha b (by simp [hb])⟩
      ·intro j
       rw [hset]
       have hj := hrem j
       simp only [List.mem_append, List.mem_cons] at hj ⊢
       by_cases hij : i = j
       ·subst hij
        simp only [if_true]
        constructor
        ·rintro (h | h)
         ·exact absurd (hs2.2.2 i h i (by simp)) (by omega)
         ·exact absurd (hs3.1 i h) (by omega)
        ·rintro ⟨_, h⟩; cases h
       ·rw [if_neg hij, ← hj]
        constructor
        ·rintro (h | h)
         ·exact .inl h
         ·exact .inr (.inr h)
        ·rintro (h | h | h)
         ·exact .inl h
         ·exact absurd h.symm hij
         ·exact .inr h
     obtain ⟨u2, hr3, a2⟩ := hc
     exact ⟨u2, hr3, a1.trans a2⟩
theorem schedule_runs {C : CallFn} (hl : l.length = ops.size) (hd : drawOK ops l = true) (t : Nat) {s : St} {e : Ex} {u : St} (hr : runOps C l s = some (e, u)) :
  ∃ u', runOps C (pickL l (Region.schedule true ops t)) s = some (e, u') ∧ Alike u u' := by
 have hs : Region.schedule true ops t = Region.linearise .any ops t := by simp [Region.schedule]
 rw [hs]
 have hgd : ∀ j d, (Array.replicate ops.size false).getD j d = if j < ops.size then false else d := fun j d => by
  by_cases h : j < ops.size
  ·simp [Array.getD, h]
  ·simp [Array.getD, h]
 refine go_runs hl hd ops.size t (Array.replicate ops.size false) (List.range ops.size) s e u (by simp) (fun i o ho h => ?_) List.pairwise_lt_range (fun j => ?_) (by simp) ?_
 ·rw [hgd] at h
  split at h <;> cases h
 ·rw [hgd, List.mem_range]
  constructor
  ·intro h; exact ⟨h, by simp [h]⟩
  ·intro h; exact h.1
 ·have := pickL_range l ops.size 0 (by omega)
  rw [List.drop_zero] at this
  rw [List.range_eq_range', this]
  exact hr
def nexts (ops : Array Oper) (listed : Array Bool) : List Nat := (List.range ops.size).filter fun i =>
 !listed.getD i true && ((ops[i]?).map (·.after.all fun e => !Region.binds .any e || listed.getD e.on false)).getD false
def schedGo (ops : Array Oper) : Nat → Array Bool → List Nat → List (List Nat)
 | 0, _, acc => [acc.reverse]
 | fuel + 1, listed, acc => match nexts ops listed with
   | [] => [acc.reverse]
   | i :: r => (i :: r).flatMap fun i => schedGo ops fuel (listed.setIfInBounds i true) (i :: acc)
def allSched (ops : Array Oper) : List (List Nat) := schedGo ops ops.size (Array.replicate ops.size false) []
theorem schedGo_mem (ops : Array Oper) : ∀ (fuel t : Nat) (listed : Array Bool) (acc : List Nat), Region.linearise.go .any ops fuel t listed acc ∈ schedGo ops fuel listed acc
 | 0, t, listed, acc => by simp [Region.linearise.go, schedGo]
 | fuel + 1, t, listed, acc => by
   have hn : ((List.range ops.size).filter fun i => !listed.getD i true && ((ops[i]?).map (·.after.all fun e => !Region.binds .any e || listed.getD e.on false)).getD false) = nexts ops listed := rfl
   simp only [Region.linearise.go]
   rw [hn]
   cases h : nexts ops listed with
   | nil => simp [schedGo, h]
   | cons i r =>
     simp only [schedGo, h]
     have hlt : t % (i :: r).length < (i :: r).length := Nat.mod_lt _ (by simp)
     rw [List.getElem?_eq_getElem hlt]
     simp only
     exact List.mem_flatMap.2 ⟨_, List.getElem_mem hlt, schedGo_mem ops fuel _ _ _⟩
theorem sched_mem (ops : Array Oper) (t : Nat) : Region.schedule true ops t ∈ allSched ops := by
 have hs : Region.schedule true ops t = Region.linearise .any ops t := by simp [Region.schedule]
 rw [hs]
 exact schedGo_mem ops _ _ _ _
end
end Go.Ab
namespace Go.Ab
variable [Glb]
def chkC (P : Program) (N : Nat) : AC → Code → Bool
 | .trim _ b, x => chkC P N b x
 | .skip, .skip => true
 | .ops l, .region _ ops draw => chkL P N ops l ops.toList && (!draw || (P.follows .mixedOrders && drawOK ops l))
 | .opsD l ords _ _ _, .region _ ops true => chkL P N ops l ops.toList && P.follows .mixedOrders && (allSched ops).all fun o => ords.any fun o' => o == o'
 | .seq a b, .seq x y => chkC P N a x && chkC P N b y
 | .cond c t e, .cond c' x y => chkO c c' && chkC P N t x && chkC P N e y
 | .block i b, .block j x => i == j && chkC P N b x
 | .loop _ b, .loop x => chkC P N b x
 | .exit i, .exit j => i == j
 | .ret, .ret => true
 | .hole, _ => true
 | .label, .label _ => true
 | .goto i, .goto j => i == j
 | .scope l b r, .scope c => chkC P N b c && (match findLabel c l with | some rest => chkC P N r rest | none => false)
 | _, _ => false
theorem Sim.cut {E : Env} {K : Ctx} {s : St} {tm : Array Value} {w : World} (h : Sim E K s tm w) (n : Nat) : Sim E K { s with rf := s.rf.take n } tm w := by
 have hget : ∀ r cs, (s.rf.take n)[r]? = some cs → s.rf[r]? = some cs := fun r cs hr => by
  rw [List.getElem?_take] at hr
  split at hr
  ·exact hr
  ·simp at hr
 have hlen : ∀ r, r < (s.rf.take n).length → r < s.rf.length := fun r hr => by
  simp only [List.length_take] at hr; omega
 have hh : ∀ ℓ av v, holds K { s with rf := s.rf.take n } tm w ℓ av v → holds K s tm w ℓ av v := fun ℓ av v h' => by
  cases ℓ with
  | sl t => exact h'
  | rf r i =>
    obtain ⟨cs, β, h1, h2⟩ := h'
    exact ⟨cs, β, hget r cs h1, h2⟩
 exact ⟨h.size, h.os, h.tape, h.output, h.keep, h.gle, h.rho, h.cells, fun r cs hr => h.refs r cs (hget r cs hr), fun r b hr => h.refG r b (hlen r hr), fun r r' b hr hr' => h.inj r r' b (hlen r hr) (hlen r' hr'), h.rows, h.slots,
  fun ℓ es v h1 => h.own ℓ es v (hh _ _ _ h1), fun ℓ ℓ' es es' v v' b h1 h2 => h.uniq ℓ ℓ' es es' v v' b (hh _ _ _ h1) (hh _ _ _ h2), fun ℓ es v b h1 => h.tO ℓ es v b (hh _ _ _ h1), fun r b hr => h.tR r b (hlen r hr)⟩
section
variable {P : Program} {E : Env} {K : Ctx} {s : St} {a : Act} {w : World} {Q : Exit → Act → World → Prop} {C : CallFn} {N : Nat}
theorem Inv.alike {s' : St} (h : Inv E K s a w N) (ha : Alike s s') : Inv E K s' a w N := by
 have hk : ∀ t av, s'.sl.get t = some av → s.sl.get t = some av := fun t av ht => by rw [ha.1 t]; exact ht
 rw [ha.eq]
 exact ⟨h.sim.forget hk, h.wf.withSl fun n v hv => h.wf.sb n v (hk n v hv), h.df, h.size⟩
theorem Inv.keep (h : Inv E K s a w N) (keep : List Nat) : Inv E K { s with sl := s.sl.keep keep } a w N :=
 ⟨h.sim.forget fun t av ht => keep_get ht, h.wf.withSl fun n v hv => h.wf.sb n v (keep_get hv), h.df, h.size⟩
theorem Inv.trimLoop (h0 : RB E.rf0.length E.rf0) (h : Inv E K s a w N) (keep : List Nat) {n : Nat} (hn : E.rf0.length ≤ n) (hn' : n ≤ s.rf.length) : Inv E K (s.trimLoop keep n) a w N := by
 have hw := trimLoop_wf h0 h.wf keep hn hn'
 have hk := h.keep keep
 unfold St.trimLoop at hw ⊢
 simp only at hw ⊢
 split
 ·rename_i hc
  rw [if_pos hc] at hw
  exact ⟨hk.sim.cut n, hw, h.df, h.size⟩
 ·exact hk
theorem strips_not_own : ∀ {l : List AV} {i : Nat} {es : List (List D)}, (AV.strips l)[i]? = some (.own es) → False
 | [], i, es, h => by simp [AV.strips] at h
 | x :: l, 0, es, h => by
   simp only [AV.strips, List.getElem?_cons_zero, Option.some.injEq] at h
   exact strip_not_own x es h
 | x :: l, i + 1, es, h => by
   simp only [AV.strips, List.getElem?_cons_succ] at h
   exact strips_not_own h
theorem isMp_strips' (cs : List AV) : isMp (AV.strips cs) = isMp cs := by
 cases cs with
 | nil => rfl
 | cons c r =>
   cases c <;> first | rfl | skip
   rename_i vs
   cases vs <;> rfl
theorem Sim.stripAt {tm : Array Value} (h : Sim E K s tm w) (t : Nat) : Sim E K (stripAt s t) tm w := by
 rcases stripAt_cases s t with he | ⟨r, off, cs, _, hcs, hm, he⟩
 ·rw [he]; exact h
 ·rw [he]
  obtain ⟨b, vs, el, h1, h2, h3⟩ := h.refs_cells hcs hm
  exact h.setObj (i0 := none) hcs h1 (.cells vs el (by rw [isMp_strips']; exact hm) (RepL.strips _ _ h3)) h2 (fun _ _ => rfl) rfl rfl rfl rfl (fun i es v h4 _ _ => (strips_not_own h4).elim) (fun i es v h4 => by cases h4)
theorem Inv.stripAt (h : Inv E K s a w N) (t : Nat) : Inv E K (stripAt s t) a w N :=
 ⟨h.sim.stripAt t, (stripAt_wf h.wf t).1, by
  rcases stripAt_cases s t with he | ⟨r, off, cs, _, hcs, hm, he⟩
  ·rw [he]; exact h.df
  ·rw [he]; exact h.df, h.size⟩
theorem Inv.normD {nk pk : List Nat} {t : Nat} {e e' : Ex} {s' : St} (hn : normD nk pk t (e, s) = (e', s')) (h : Inv E K s a w N) : Inv E K s' a w N ∧ e' = e := by
 unfold Ab.normD at hn
 split at hn
 ·rename_i v s0 heq
  simp only [Prod.mk.injEq] at heq
  obtain ⟨rfl, rfl⟩ := heq
  simp only [Prod.mk.injEq] at hn
  obtain ⟨rfl, rfl⟩ := hn
  exact ⟨(h.keep pk).stripAt t, rfl⟩
 ·rename_i e0 s0 hne heq
  simp only [Prod.mk.injEq] at heq
  obtain ⟨rfl, rfl⟩ := heq
  simp only [Prod.mk.injEq] at hn
  obtain ⟨rfl, rfl⟩ := hn
  exact ⟨h.keep nk, rfl⟩
theorem run_wp (hC : CallSound P C) (hCW : CallWF C) (h0 : RB E.rf0.length E.rf0) (kk : Nat) : ∀ (c : AC) (code : Code) (s : St) (a : Act) (w : World) (K : Ctx) (Q : Exit → Act → World → Prop) (e : Ex) (s' : St),
  chkC P N c code = true → c.cok = true → Inv E K s a w N → run C kk c s = some (e, s') → (∀ ex a' w' K', ExR K' e ex → Inv E K' s' a' w' N → Q ex a' w') → code.wp P Q a w
 | .skip, code, s, a, w, K, Q, e, s', hc, _, h, hr, hQ => by
   cases code <;> simp [chkC] at hc
   simp only [run, Option.some.injEq, Prod.mk.injEq] at hr
   obtain ⟨rfl, rfl⟩ := hr
   exact wp_skip (hQ .normal a w K trivial h)
 | .label, code, s, a, w, K, Q, e, s', hc, _, h, hr, hQ => by
   cases code <;> simp [chkC] at hc
   simp only [run, Option.some.injEq, Prod.mk.injEq] at hr
   obtain ⟨rfl, rfl⟩ := hr
   exact wp_label (hQ .normal a w K trivial h)
 | .ops l, code, s, a, w, K, Q, e, s', hc, hk, h, hr, hQ => by
   cases code <;> simp [chkC] at hc
   rename_i id ops draw
   simp only [run] at hr
   have hlen : l.length = ops.size := by
    have : ∀ {l : List AOp} {m : List Oper}, chkL P N ops l m = true → l.length = m.length := fun {l m} => by
     induction l generalizing m with
     | nil => intro h; cases m <;> simp [chkL] at h ⊢
     | cons x l ih =>
       intro h
       cases m with
       | nil => simp [chkL] at h
       | cons o m =>
         simp only [chkL, Bool.and_eq_true] at h
         simp [ih h.2]
    simpa using this hc.1
   cases draw with
   | false =>
     refine wp_region ?_
     have hp := pickL_range l ops.size 0 (by omega)
     rw [List.drop_zero, ← List.range_eq_range'] at hp
     exact ops_wp hC hCW hc.1 _ s a w K e s' h (by rw [hp]; exact hr) fun ex a' w' K' h1 h2 _ => hQ ex a' w' K' h1 h2
   | true =>
     refine wp_region_draw fun t => ?_
     have hd : P.follows .mixedOrders = true ∧ drawOK ops l = true := by
      rcases hc.2 with h | h
      ·cases h
      ·exact h
     rw [hd.1]
     obtain ⟨u', h1, h2⟩ := schedule_runs hlen hd.2 t hr
     have h' : Inv E K s a { w with drawn := w.drawn + 1 } N := ⟨h.sim.drew, h.wf, h.df, h.size⟩
     refine ops_wp hC hCW hc.1 _ s a _ K e u' h' h1 fun ex a' w' K' h3 h4 _ => hQ ex a' w' K' h3 (h4.alike ⟨fun t => (h2.1 t).symm, h2.2.symm⟩)
 | .opsD l ords nk pk tt, code, s, a, w, K, Q, e, s', hc, hk, h, hr, hQ => by
   cases code <;> try (simp only [chkC, Bool.false_eq_true] at hc; done)
   rename_i id ops draw
   cases draw <;> simp only [chkC, Bool.false_eq_true, Bool.and_eq_true, List.all_eq_true, List.any_eq_true, beq_iff_eq] at hc
   simp only [run] at hr
   refine wp_region_draw fun t => ?_
   rw [hc.1.2]
   obtain ⟨o, ho, he⟩ := hc.2 _ (sched_mem ops t)
   obtain ⟨⟨e1, s1⟩, h1, h2⟩ := runD_all hr o ho
   have h' : Inv E K s a { w with drawn := w.drawn + 1 } N := ⟨h.sim.drew, h.wf, h.df, h.size⟩
   rw [he]
   refine ops_wp hC hCW hc.1.1 _ s a _ K e1 s1 h' h1 fun ex a' w' K' h3 h4 _ => ?_
   obtain ⟨h5, h6⟩ := h4.normD h2
   exact hQ ex a' w' K' (by rw [h6]; exact h3) h5
 | .seq x y, code, s, a, w, K, Q, e, s', hc, hk, h, hr, hQ => by
   cases code <;> simp [chkC] at hc
   rename_i cx cy
   simp only [AC.cok, Bool.and_eq_true] at hk
   simp only [run] at hr
   refine wp_seq ?_
   split at hr
   ·rename_i s1 hr1
    refine run_wp hC hCW h0 kk x cx s a w K _ _ s1 hc.1 hk.1 h hr1 fun ex a' w' K' h1 h2 => ?_
    cases ex <;> simp only [ExR] at h1
    exact run_wp hC hCW h0 kk y cy s1 a' w' K' Q e s' hc.2 hk.2 h2 hr hQ
   ·rename_i hne
    refine run_wp hC hCW h0 kk x cx s a w K _ e s' hc.1 hk.1 h hr fun ex a' w' K' h1 h2 => ?_
    have hq := hQ ex a' w' K' h1 h2
    cases ex with
    | normal =>
      cases e <;> simp only [ExR] at h1
      exact absurd hr (hne s')
    | _ => exact hq
 | .cond c t f, code, s, a, w, K, Q, e, s', hc, hk, h, hr, hQ => by
   cases code <;> simp [chkC] at hc
   rename_i c' ct cf
   simp only [AC.cok, Bool.and_eq_true] at hk
   simp only [run] at hr
   split at hr
   ·rename_i hg
    have := getO_rep h.sim hc.1.1 hg
    simp only [Rep, RepD] at this
    exact wp_cond_true this (run_wp hC hCW h0 kk t ct s a w K Q e s' hc.1.2 hk.1.2 h hr hQ)
   ·rename_i hg
    have := getO_rep h.sim hc.1.1 hg
    simp only [Rep, RepD] at this
    exact wp_cond_false this (run_wp hC hCW h0 kk f cf s a w K Q e s' hc.2 hk.2 h hr hQ)
   ·simp at hr
 | .block i b, code, s, a, w, K, Q, e, s', hc, hk, h, hr, hQ => by
   cases code <;> simp [chkC] at hc
   rename_i j cb
   obtain ⟨rfl, hc⟩ := hc
   simp only [AC.cok] at hk
   simp only [run] at hr
   refine wp_block ?_
   split at hr
   ·rename_i j s1 hr1
    refine run_wp hC hCW h0 kk b cb s a w K _ _ s1 hc hk h hr1 fun ex a' w' K' h1 h2 => ?_
    cases ex <;> simp only [ExR] at h1
    subst h1
    simp only [Exit.inBlock]
    split at hr
    ·rename_i hij
     simp only [Option.some.injEq, Prod.mk.injEq] at hr
     obtain ⟨rfl, rfl⟩ := hr
     rw [if_pos hij]
     exact hQ .normal a' w' K' trivial h2
    ·rename_i hij
     simp only [Option.some.injEq, Prod.mk.injEq] at hr
     obtain ⟨rfl, rfl⟩ := hr
     rw [if_neg hij]
     exact hQ (.exit j) a' w' K' rfl h2
   ·rename_i hne
    refine run_wp hC hCW h0 kk b cb s a w K _ e s' hc hk h hr fun ex a' w' K' h1 h2 => ?_
    have hq := hQ ex a' w' K' h1 h2
    cases ex with
    | exit j =>
      cases e <;> simp only [ExR] at h1
      subst h1
      exact absurd hr (hne _ s')
    | _ => exact hq
 | .loop keep b, code, s, a, w, K, Q, e, s', hc, hk, h, hr, hQ => by
   cases code <;> simp [chkC] at hc
   rename_i cb
   simp only [AC.cok] at hk
   simp only [run] at hr
   have key : ∀ (m : Nat) (n : Nat) (s : St) (a : Act) (w : World) (K : Ctx), E.rf0.length ≤ n → n ≤ s.rf.length → Inv E K s a w N → runLoop (run C kk b) keep n m s = some (e, s') → Code.rounds P cb Q m a w := by
    intro m
    induction m with
    | zero => intro n s a w K _ _ _ hr; simp [runLoop] at hr
    | succ m ih =>
      intro n s a w K hn hn' h hr
      simp only [runLoop] at hr
      rw [rounds_succ]
      split at hr
      ·rename_i s1 hr1
       have hlen := (run_wf hCW kk h0 hr1 hk h.wf).2.2
       refine run_wp hC hCW h0 kk b cb s a w K _ _ s1 hc hk h hr1 fun ex a' w' K' h1 h2 => ?_
       cases ex <;> simp only [ExR] at h1
       exact ih n (s1.trimLoop keep n) a' w' K' hn (trimLoop_len keep (by omega)) (h2.trimLoop h0 keep hn (by omega)) hr
      ·rename_i hne
       refine run_wp hC hCW h0 kk b cb s a w K _ e s' hc hk h hr fun ex a' w' K' h1 h2 => ?_
       have hq := hQ ex a' w' K' h1 h2
       cases ex with
       | normal =>
         cases e <;> simp only [ExR] at h1
         exact absurd hr (hne s')
       | _ => exact hq
   refine wp_loop_rounds kk (key kk s.rf.length (s.trimLoop keep s.rf.length) a w K h.wf.le (trimLoop_len keep (Nat.le_refl _)) (h.trimLoop h0 keep h.wf.le (Nat.le_refl _)) hr)
 | .exit i, code, s, a, w, K, Q, e, s', hc, _, h, hr, hQ => by
   cases code <;> simp [chkC] at hc
   subst hc
   simp only [run, Option.some.injEq, Prod.mk.injEq] at hr
   obtain ⟨rfl, rfl⟩ := hr
   exact wp_exit (hQ (.exit i) a w K rfl h)
 | .ret, code, s, a, w, K, Q, e, s', hc, _, h, hr, hQ => by
   cases code <;> simp [chkC] at hc
   simp only [run, Option.some.injEq, Prod.mk.injEq] at hr
   obtain ⟨rfl, rfl⟩ := hr
   exact wp_ret (hQ .ret a w K trivial h)
 | .hole, code, s, a, w, K, Q, e, s', hc, _, h, hr, hQ => by simp [run] at hr
 | .goto i, code, s, a, w, K, Q, e, s', hc, _, h, hr, hQ => by
   cases code <;> simp [chkC] at hc
   subst hc
   simp only [run, Option.some.injEq, Prod.mk.injEq] at hr
   obtain ⟨rfl, rfl⟩ := hr
   exact wp_goto (hQ (.goto i) a w K rfl h)
 | .scope l b r, code, s, a, w, K, Q, e, s', hc, hk, h, hr, hQ => by
   cases code <;> simp [chkC] at hc
   rename_i c
   obtain ⟨hc1, hc2⟩ := hc
   split at hc2
   ·rename_i rest hf
    simp only [AC.cok, Bool.and_eq_true] at hk
    simp only [run] at hr
    refine wp_scope_jumps l (fun a1 w1 => e ≠ .goto l ∧ ∃ K1 s1, Inv E K1 s1 a1 w1 N ∧ (∀ j, e ≠ .goto j) ∧ run C kk r s1 = some (e, s')) (fun _ _ => 0) hf ?_ ?_
    ·split at hr
     ·rename_i i s1 hr1
      split at hr
      ·rename_i hi
       subst hi
       refine run_wp hC hCW h0 kk b c s a w K _ _ s1 hc1 hk.1 h hr1 fun ex a' w' K' h1 h2 => ?_
       cases ex <;> simp only [ExR] at h1
       subst h1
       split at hr
       ·cases hr
       ·rename_i hng
        have hne : ∀ j, e ≠ .goto j := fun j hj => hng j s' (by rw [hr, hj])
        exact ⟨rfl, hne _, K', s1, h2, hne, hr⟩
      ·cases hr
     ·rename_i hng
      refine run_wp hC hCW h0 kk b c s a w K _ e s' hc1 hk.1 h hr fun ex a' w' K' h1 h2 => ?_
      have hq := hQ ex a' w' K' h1 h2
      cases ex with
      | goto j =>
        cases e <;> simp only [ExR] at h1
        exact absurd hr (hng _ _)
      | _ => exact hq
    ·intro a1 w1 ⟨_, K1, s1, h3, hne, h4⟩
     refine run_wp hC hCW h0 kk r rest s1 a1 w1 K1 _ e s' hc2 hk.2 h3 h4 fun ex a' w' K' h1 h2 => ?_
     have hq := hQ ex a' w' K' h1 h2
     cases ex with
     | goto j =>
       cases e <;> simp only [ExR] at h1
       exact absurd rfl (hne _)
     | _ => exact hq
   ·cases hc2
 | .trim keep b, code, s, a, w, K, Q, e, s', hc, hk, h, hr, hQ => by
   simp only [chkC] at hc
   simp only [AC.cok] at hk
   simp only [run] at hr
   split at hr
   ·rename_i s1 hr1
    simp only [Option.some.injEq, Prod.mk.injEq] at hr
    obtain ⟨rfl, rfl⟩ := hr
    exact run_wp hC hCW h0 kk b code s a w K Q _ s1 hc hk h hr1 fun ex a' w' K' h1 h2 => hQ ex a' w' K' h1 (h2.keep keep)
   ·exact run_wp hC hCW h0 kk b code s a w K Q e s' hc hk h hr hQ
end
end Go.Ab
namespace Go.Ab
variable [Glb]
def chkRes (P : Program) : List ResV → List ResultVar → Bool
 | [], [] => true
 | .tmp t :: l, .tmp u :: m => t == u && chkRes P l m
 | .cell a agg :: l, .cell b ty :: m => a == b && chkAgg P agg ty && chkRes P l m
 | _, _ => false
def chkBody (P : Program) (af : AFn) (fn : Func) : Bool :=
 match fn.body with
 | some code => chkC P fn.ntmps af.body code
 | none => false
def resF (tmps : Array Value) : ResultVar → Sem Value
 | .tmp t => pure (tmps.getD t undef)
 | .cell b t => do loadVar t (← asAddr (tmps.getD b undef))
theorem results_eq (fn : Func) (tmps : Array Value) : results fn tmps = (do let vs ← fn.results.mapM (resF tmps); pure (if h : vs.size = 1 then vs[0] else .tuple vs)) := by
 unfold results
 congr 1
section
variable {P : Program} {E : Env} {K : Ctx} {s : St} {a : Act} {w : World} {N : Nat}
theorem run_res (h : Sim E K s a.tmps w) : ∀ {l : List ResV} {m : List ResultVar} {vs : List AV}, chkRes P l m = true → resAs s l = some vs →
  ∃ ws, (m.mapM (resF a.tmps)).run P w = .ok ws w ∧ RepL K vs ws
 | [], m, vs, hc, hv => by
   cases m with
   | cons x m => simp [chkRes] at hc
   | nil =>
     simp only [resAs, Option.some.injEq] at hv
     subst hv
     exact ⟨[], by simp, by simp [RepL]⟩
 | r :: l, m, vs, hc, hv => by
   simp only [resAs] at hv
   split at hv
   ·rename_i v vs' h1 h2
    simp only [Option.some.injEq] at hv
    subst hv
    cases m with
    | nil => cases r <;> simp [chkRes] at hc
    | cons x m =>
      cases r with
      | tmp t =>
        cases x <;> simp [chkRes] at hc
        obtain ⟨rfl, hc⟩ := hc
        obtain ⟨ws, hws, hr⟩ := run_res h hc h2
        refine ⟨a.tmps.getD t undef :: ws, ?_, ?_⟩
        ·simp only [List.mapM_cons, resF, Sem.run_bind, Sem.run_pure, Result.andThen_ok, hws]
        ·simp only [RepL]
         exact ⟨_, _, rfl, (h.slots t v h1).2, hr⟩
      | cell b agg =>
        cases x <;> simp [chkRes] at hc
        rename_i b' ty
        obtain ⟨⟨rfl, hagg⟩, hc⟩ := hc
        obtain ⟨ws, hws, hr⟩ := run_res h hc h2
        simp only [resA] at h1
        split at h1
        ·rename_i p hp
         obtain ⟨ad, u, e1, e2, e3⟩ := run_load_any (P := P) h hagg (h.slots b p hp).2 h1
         refine ⟨u :: ws, ?_, ?_⟩
         ·have he : asAddr (a.tmps.getD b undef) = pure ad := by rw [e1]; rfl
          simp only [List.mapM_cons, resF, Sem.run_bind, he, Sem.run_pure, Result.andThen_ok, e2, hws]
         ·simp only [RepL]
          exact ⟨_, _, rfl, e3, hr⟩
        ·simp at h1
   ·simp at hv
theorem run_results0 (h : Sim E K s a.tmps w) {fn : Func} {l : List ResV} {v : AV} (hc : chkRes P l fn.results.toList = true) (hv : resOf0 s l = some v) :
  ∃ pv, (results fn a.tmps).run P w = .ok pv w ∧ Rep K v pv ∧ ∀ es, v ≠ .own es := by
 unfold resOf0 at hv
 have mk : ∀ vs, resAs s l = some vs → ∃ ws : List Value, (results fn a.tmps).run P w = .ok (if h : ws.toArray.size = 1 then ws.toArray[0] else .tuple ws.toArray) w ∧ RepL K vs ws := fun vs hvs => by
  obtain ⟨ws, hws, hr⟩ := run_res h hc hvs
  refine ⟨ws, ?_, hr⟩
  rw [results_eq, Array.mapM_eq_mapM_toList]
  simp only [map_eq_pure_bind, Sem.run_bind, Sem.run_pure, hws, Result.andThen_ok]
 split at hv
 ·rename_i v' hvs
  obtain ⟨ws, h1, h2⟩ := mk _ hvs
  simp only [Option.some.injEq] at hv
  subst hv
  simp only [RepL] at h2
  obtain ⟨u, r, rfl, h3, rfl⟩ := h2
  refine ⟨u, by simpa using h1, Rep.bare _ _ h3, fun es e => ?_⟩
  cases v' <;> simp [AV.bare] at e
 ·rename_i vs hne hvs
  obtain ⟨ws, h1, h2⟩ := mk _ hvs
  simp only [Option.some.injEq] at hv
  subst hv
  have hlen := h2.length
  have hn1 : ws.length ≠ 1 := fun e => by
   have : vs.length = 1 := by omega
   match vs, this with
   | [x], _ => exact hne x rfl
  refine ⟨.tuple ws.toArray, ?_, ?_, fun es e => by cases e⟩
  ·rw [h1]
   have : ¬ ws.toArray.size = 1 := by simpa using hn1
   rw [dif_neg this]
  ·simp only [Rep]
   exact ⟨ws.toArray, rfl, RepL.bares _ _ h2⟩
 ·simp at hv
def KeptAt (s : St) (tm : Array Value) (v : AV) (pv : Value) : Prop := ∀ es, v = .own es → ∃ t, s.sl.get t = some v ∧ tm.getD t undef = pv
theorem run_results (h : Sim E K s a.tmps w) {fn : Func} {keep : Bool} {l : List ResV} {v : AV} (hc : chkRes P l fn.results.toList = true) (hv : resOf s keep l = some v) :
  ∃ pv, (results fn a.tmps).run P w = .ok pv w ∧ Rep K v pv ∧ KeptAt s a.tmps v pv := by
 unfold resOf at hv
 split at hv
 ·rename_i t
  have h0 : resOf0 s [.tmp t] = some v.bare := by simp [resOf0, resAs, resA, hv]
  obtain ⟨pv, h1, _, _⟩ := run_results0 h hc h0
  have hpv : pv = a.tmps.getD t undef := by
   cases hm : fn.results.toList with
   | nil => rw [hm] at hc; simp [chkRes] at hc
   | cons x m =>
     rw [hm] at hc
     cases x <;> simp [chkRes] at hc
     obtain ⟨rfl, hc⟩ := hc
     cases m with
     | cons y m => simp [chkRes] at hc
     | nil =>
       have hfr : fn.results = #[.tmp t] := by rw [← Array.toArray_toList (xs := fn.results), hm]
       rw [results_eq, hfr] at h1
       simp [resF] at h1
       rw [Array.getD_eq_getD_getElem?]; exact h1.symm
  subst hpv
  exact ⟨_, h1, (h.slots t v hv).2, fun es e => ⟨t, hv, rfl⟩⟩
 ·obtain ⟨pv, h1, h2, h3⟩ := run_results0 h hc hv
  exact ⟨pv, h1, h2, fun es e => absurd e (h3 es)⟩
def callEnv (K : Ctx) (s : St) (tm : Array Value) (w : World) (args : List AV) (vs : Array Value) : Env :=
 ⟨w, K, s.rf, fun b => (∃ r, r < s.rf.length ∧ K.ρ r = some b) ∨ (∃ r i es v, holds K s tm w (.rf r i) (.own es) v ∧ blk v = some b) ∨ (∃ (i : Nat) (es : List (List D)) (v : Value), args[i]? = some (AV.own es) ∧ vs[i]? = some v ∧ blk v = some b)⟩
theorem enterS_idx : ∀ {args : List AV} {i n : Nat} {v : AV}, (enterS args i).get n = some v → i ≤ n ∧ args[n - i]? = some v
 | [], i, n, v, h => by simp [enterS, Slots.get] at h
 | x :: r, i, n, v, h => by
   simp only [enterS, Slots.get] at h
   split at h
   ·rename_i hin
    subst hin
    simp only [Option.some.injEq] at h
    subst h
    simp
   ·obtain ⟨h1, h2⟩ := enterS_idx h
    refine ⟨by omega, ?_⟩
    rw [show n - i = (n - (i + 1)) + 1 by omega, List.getElem?_cons_succ]
    exact h2
theorem Sim.enter {tm : Array Value} (h : Sim E K s tm w) {args : List AV} {vs : Array Value} (hno : ArgsOK E K s tm w args vs) (hr : RepL K args vs.toList) (n : Nat) (df : List (AV × List AV)) (pn : Option (Option AV)) :
  Sim (callEnv K s tm w args vs) K { sl := enterS args 0, rf := s.rf, df := df, pn := pn, nb := s.rf.length } (vs ++ Array.replicate n undef) w := by
 have hval : ∀ t av, (enterS args 0).get t = some av → ∃ v, args[t]? = some av ∧ vs[t]? = some v ∧ (vs ++ Array.replicate n undef).getD t undef = v ∧ t < vs.size ∧ Rep K av v := fun t av ht => by
  obtain ⟨_, h2⟩ := enterS_idx ht
  rw [Nat.sub_zero] at h2
  obtain ⟨v, hv, hrv⟩ := hr.get h2
  rw [Array.getElem?_toList] at hv
  have hlt := (Array.getElem?_eq_some_iff.1 hv).1
  exact ⟨v, h2, hv, by rw [Array.getD_eq_getD_getElem?, Array.getElem?_append_left hlt, hv]; rfl, hlt, hrv⟩
 have hh : ∀ ℓ es v, holds K { sl := enterS args 0, rf := s.rf, df := df, pn := pn, nb := s.rf.length } (vs ++ Array.replicate n undef) w ℓ (.own es) v →
   (∃ r i, ℓ = .rf r i ∧ holds K s tm w ℓ (.own es) v) ∨ (∃ t, ℓ = .sl t ∧ args[t]? = some (.own es) ∧ vs[t]? = some v) := fun ℓ es v hh => by
  cases ℓ with
  | sl t =>
    obtain ⟨u, h1, h2, h3, _, _⟩ := hval t _ hh.1
    rw [hh.2] at h3
    subst h3
    exact .inr ⟨t, rfl, h1, h2⟩
  | rf r i => exact .inl ⟨r, i, rfl, hh⟩
 refine ⟨Nat.le_refl _, rfl, rfl, rfl, fun b _ _ => ⟨rfl, rfl, fun _ => rfl⟩, ⟨Le.refl _, h.gle.g⟩, fun r hr => rfl, h.cells, h.refs, h.refG, h.inj, h.rows, fun t av ht => ?_, fun ℓ es v h1 => ?_,
  fun ℓ ℓ' es es' v v' b h1 h2 b1 b2 => ?_, fun ℓ es v b h1 hb _ => ?_, fun r b hr hb _ => .inl ⟨r, hr, hb⟩⟩
 ·obtain ⟨v, h1, h2, h3, h4, h5⟩ := hval t av ht
  exact ⟨by simp; omega, by rw [h3]; exact h5⟩
 ·rcases hh _ _ _ h1 with ⟨r, i, rfl, h2⟩ | ⟨t, rfl, h2, h3⟩
  ·exact h.own _ es v h2
  ·exact (hno.fresh t es v h2 h3 es rfl).1
 ·rcases hh _ _ _ h1 with ⟨r, i, rfl, h3⟩ | ⟨t, rfl, h3, h4⟩ <;> rcases hh _ _ _ h2 with ⟨r', i', rfl, h5⟩ | ⟨t', rfl, h5, h6⟩
  ·exact h.uniq _ _ es es' v v' b h3 h5 b1 b2
  ·exact absurd b1 (((hno.fresh t' es' v' h5 h6 es' rfl).2 b b2).2 _ es v (fun _ e => by cases e) h3)
  ·exact absurd b2 (((hno.fresh t es v h3 h4 es rfl).2 b b1).2 _ es' v' (fun _ e => by cases e) h5)
  ·rw [hno.uniq t t' es es' v v' b h3 h5 h4 h6 b1 b2]
 ·rcases hh _ _ _ h1 with ⟨r, i, rfl, h3⟩ | ⟨t, rfl, h3, h4⟩
  ·exact .inr (.inl ⟨r, i, es, v, h3, hb⟩)
  ·exact .inr (.inr ⟨t, es, v, h3, h4, hb⟩)
theorem Sim.back {tm : Array Value} (h : Sim E K s tm w) (hw : WF E.rf0 s) {args : List AV} {vs : Array Value} (hno : ArgsOK E K s tm w args vs) {K' : Ctx} {s' : St} {tm' : Array Value} {w' : World} (hc : Sim (callEnv K s tm w args vs) K' s' tm' w') (hlen : s.rf.length ≤ s'.rf.length) :
  Sim E K' { s with rf := s'.rf } tm w' ∧ Up s.rf.length K K' ∧ ∀ t av, s'.sl.get t = some av → Fresh E K' { s with rf := s'.rf } tm w' none av (tm'.getD t undef) := by
 have hρ : ∀ r, r < s.rf.length → K'.ρ r = K.ρ r := fun r hr => hc.rho r hr
 have hρ' : ∀ r, r < s.rf.length → K.ρ r = K'.ρ r := fun r hr => (hρ r hr).symm
 have hsz : w.heap.size ≤ w'.heap.size := hc.size
 have old : ∀ t es v b, holds K s tm w (.sl t) (.own es) v → blk v = some b → b < w.heap.size ∧ ¬ (callEnv K s tm w args vs).T b := fun t es v b hh hb => by
  obtain ⟨h1, f, hf⟩ := blk_lt h hh hb
  refine ⟨h1, ?_⟩
  rintro (⟨r, hr, hrb⟩ | ⟨r, i, es', v', hh', hb'⟩ | ⟨i, es', v', ha, hv, hb'⟩)
  ·rw [(h.refG r b hr hrb).1] at hf
   cases hf
  ·exact absurd (h.uniq _ _ _ _ _ _ b hh hh' hb hb') (by simp)
  ·exact absurd hb (((hno.fresh i es' v' ha hv es' rfl).2 b hb').2 _ es v (fun _ e => by cases e) hh)
 have hTE : ∀ b, b < E.w0.heap.size → (callEnv K s tm w args vs).T b → E.T b := fun b hb hT => by
  rcases hT with ⟨r, hr, hrb⟩ | ⟨r, i, es, v, hh, hb'⟩ | ⟨i, es', v', ha, hv, hb'⟩
  ·exact h.tR r b hr hrb hb
  ·exact h.tO _ _ _ b hh hb' hb
  ·exact ((hno.fresh i es' v' ha hv es' rfl).2 b hb').1 hb
 have hsl : ∀ t es v, holds K' { s with rf := s'.rf } tm w' (.sl t) (.own es) v → holds K s tm w (.sl t) (.own es) v := fun t es v hh => hh
 refine ⟨⟨Nat.le_trans h.size hsz, hc.os.trans h.os, hc.tape.trans h.tape, hc.output.trans h.output, fun b hb hT => ?_, h.gle.trans hc.gle.le, fun r hr => ?_, hc.cells, hc.refs, hc.refG, hc.inj, hc.rows, fun t av ha => ?_, fun ℓ es v h1 => ?_, fun ℓ ℓ' es es' v v' b h1 h2 b1 b2 => ?_, fun ℓ es v b h1 hb hlt' => ?_, fun r b hr hb hlt' => ?_⟩, ⟨hc.gle.le, hρ'⟩, fun t av ht es e => ?_⟩
 ·have h1 := h.keep b hb hT
  have h2 := hc.keep b (Nat.lt_of_lt_of_le hb h.size) (fun hT' => hT (hTE b hb hT'))
  exact ⟨h2.1.trans h1.1, h2.2.1.trans h1.2.1, fun o => (h2.2.2 o).trans (h1.2.2 o)⟩
 ·rw [hρ r (Nat.lt_of_lt_of_le hr hw.le)]
  exact h.rho r hr
 ·exact ⟨(h.slots t av ha).1, Rep.mono hc.gle.le hρ' _ _ (hw.sb t av ha) (h.slots t av ha).2⟩
 ·cases ℓ with
  | sl t =>
    refine (h.own (.sl t) es v h1).kept hc.gle.le fun b hb => ?_
    have := old t es v b h1 hb
    have h2 := hc.keep b this.1 this.2
    exact ⟨h2.1, h2.2.1⟩
  | rf r i => exact hc.own (.rf r i) es v h1
 ·cases ℓ with
  | sl t =>
    cases ℓ' with
    | sl t' => exact h.uniq (.sl t) (.sl t') es es' v v' b h1 h2 b1 b2
    | rf r i =>
      have := old t es v b h1 b1
      exact absurd (hc.tO (.rf r i) es' v' b h2 b2 this.1) this.2
  | rf r i =>
    cases ℓ' with
    | sl t' =>
      have := old t' es' v' b h2 b2
      exact absurd (hc.tO (.rf r i) es v b h1 b1 this.1) this.2
    | rf r' i' => exact hc.uniq (.rf r i) (.rf r' i') es es' v v' b h1 h2 b1 b2
 ·cases ℓ with
  | sl t => exact h.tO (.sl t) es v b h1 hb hlt'
  | rf r i => exact hTE b hlt' (hc.tO (.rf r i) es v b h1 hb (Nat.lt_of_lt_of_le hlt' h.size))
 ·exact hTE b hlt' (hc.tR r b hr hb (Nat.lt_of_lt_of_le hlt' h.size))
 ·subst e
  have hh : holds K' s' tm' w' (.sl t) (.own es) (tm'.getD t undef) := ⟨ht, rfl⟩
  refine ⟨hc.own _ _ _ hh, fun b hb => ⟨fun hlt => hTE b hlt (hc.tO _ _ _ b hh hb (Nat.lt_of_lt_of_le hlt h.size)), fun ℓ es' v' _ h2 b2 => ?_⟩⟩
  cases ℓ with
  | sl t' =>
    have := old t' es' v' b h2 b2
    exact this.2 (hc.tO _ _ _ b hh hb this.1)
  | rf r i => exact absurd (hc.uniq (.sl t) (.rf r i) es es' _ v' b hh h2 hb b2) (by simp)
end
end Go.Ab
namespace Go.Ab
variable [Glb]
def chk1R (P : Program) (N : Nat) (ops : Array Oper) (ao : AOp) (o : Oper) : Bool :=
 chk1 P N ops ao o || (ao.op.isRec && chkOp P ao.op o && ao.dst == o.dst && (match ao.dst with | some d => decide (d < N) | none => true) && chkGuard ops ao.guard o.guard)
def chkLR (P : Program) (N : Nat) (ops : Array Oper) : List AOp → List Oper → Bool
 | [], [] => true
 | x :: l, o :: m => chk1R P N ops x o && chkLR P N ops l m
 | _, _ => false
def chkS (P : Program) (N : Nat) : AC → Code → Bool
 | .trim _ b, x => chkS P N b x
 | .seq a b, .seq x y => chkS P N a x && chkS P N b y
 | .cond c t e, .cond c' x y => chkO c c' && chkS P N t x && chkS P N e y
 | .ops l, .region _ ops false => chkLR P N ops l ops.toList
 | c, x => chkC P N c x
theorem chkLR_get {P : Program} {N : Nat} {ops : Array Oper} : ∀ {l : List AOp} {m : List Oper}, chkLR P N ops l m = true → ∀ i : Nat, (l[i]? = none ∧ m[i]? = none) ∨ ∃ x o, l[i]? = some x ∧ m[i]? = some o ∧ chk1R P N ops x o = true
 | [], [], _, i => .inl ⟨by simp, by simp⟩
 | [], _ :: _, h, i => by simp [chkLR] at h
 | _ :: _, [], h, i => by simp [chkLR] at h
 | x :: l, o :: m, h, i => by
   simp only [chkLR, Bool.and_eq_true] at h
   cases i with
   | zero => exact .inr ⟨x, o, by simp, by simp, h.1⟩
   | succ i => simpa using chkLR_get h.2 i
theorem chkLR_length {P : Program} {N : Nat} {ops : Array Oper} : ∀ {l : List AOp} {m : List Oper}, chkLR P N ops l m = true → l.length = m.length
 | [], [], _ => rfl
 | [], _ :: _, h => by simp [chkLR] at h
 | _ :: _, [], h => by simp [chkLR] at h
 | x :: l, o :: m, h => by
   simp only [chkLR, Bool.and_eq_true] at h
   simp [chkLR_length h.2]
theorem stepOp_pn {C : CallFn} {s : St} {o : AOpk} {d : Did} (h : stepOp C s o = some d) (ho : o.isRec = false) : d.st.pn = s.pn := by
 by_cases hp : o.plain = true
 ·exact (stepOp_same h hp).2
 ·cases o <;> simp [AOpk.plain, AOpk.isRec] at hp ho
  simp only [stepOp] at h
  split at h
  ·simp only [Option.some.injEq] at h; subst h; rfl
  ·simp at h
theorem putO_pn (s : St) (d : Option Nat) (v : AV) : (putO s d v).pn = s.pn := by cases d <;> rfl
theorem runOps_pn {P : Program} {N : Nat} {ops : Array Oper} {C : CallFn} : ∀ {l : List AOp} {m : List Oper} {s : St} {e : Ex} {s' : St}, chkL P N ops l m = true → runOps C l s = some (e, s') → s'.pn = s.pn
 | [], m, s, e, s', _, h => by
   simp only [runOps, Option.some.injEq, Prod.mk.injEq] at h
   rw [h.2]
 | o :: l, m, s, e, s', hc, h => by
   cases m with
   | nil => simp [chkL] at hc
   | cons x m =>
     simp only [chkL, Bool.and_eq_true] at hc
     have hn : o.op.isRec = false := by
      have := hc.1
      simp only [chk1, Bool.and_eq_true, Bool.not_eq_true'] at this
      exact this.1.1.1.2
     simp only [runOps] at h
     split at h
     ·simp at h
     ·rw [runOps_pn hc.2 h, putO_pn]
     ·split at h
      ·rename_i v s1 hs
       rw [runOps_pn hc.2 h, putO_pn]
       exact stepOp_pn hs hn
      ·rename_i s1 hs
       rw [runOps_pn hc.2 h]
       exact stepOp_pn hs hn
      ·rename_i v s1 hs
       split at h
       ·simp only [Option.some.injEq, Prod.mk.injEq] at h
        rw [← h.2]
        exact stepOp_pn hs hn
       ·simp at h
      ·simp at h
theorem runOps_pn' {C : CallFn} : ∀ {l : List AOp} {s : St} {e : Ex} {s' : St}, (∀ o, o ∈ l → o.op.isRec = false) → runOps C l s = some (e, s') → s'.pn = s.pn
 | [], s, e, s', _, h => by
   simp only [runOps, Option.some.injEq, Prod.mk.injEq] at h
   rw [h.2]
 | o :: l, s, e, s', hc, h => by
   have hn := hc o (by simp)
   have hl : ∀ o, o ∈ l → o.op.isRec = false := fun o ho => hc o (by simp [ho])
   simp only [runOps] at h
   split at h
   ·simp at h
   ·rw [runOps_pn' hl h, putO_pn]
   ·split at h
    ·rename_i v s1 hs
     rw [runOps_pn' hl h, putO_pn]
     exact stepOp_pn hs hn
    ·rename_i s1 hs
     rw [runOps_pn' hl h]
     exact stepOp_pn hs hn
    ·rename_i v s1 hs
     split at h
     ·simp only [Option.some.injEq, Prod.mk.injEq] at h
      rw [← h.2]
      exact stepOp_pn hs hn
     ·simp at h
    ·simp at h
theorem chkL_rec {P : Program} {N : Nat} {ops : Array Oper} : ∀ {l : List AOp} {m : List Oper}, chkL P N ops l m = true → ∀ o, o ∈ l → o.op.isRec = false
 | [], m, h, o, ho => by cases ho
 | x :: l, [], h, o, ho => by simp [chkL] at h
 | x :: l, y :: m, h, o, ho => by
   simp only [chkL, Bool.and_eq_true] at h
   rcases List.mem_cons.1 ho with rfl | ho
   ·have := h.1
    simp only [chk1, Bool.and_eq_true, Bool.not_eq_true'] at this
    exact this.1.1.1.2
   ·exact chkL_rec h.2 o ho
theorem stripAt_pn (s : St) (t : Nat) : (stripAt s t).pn = s.pn := by
 rcases stripAt_cases s t with he | ⟨r, off, cs, _, hcs, hm, he⟩ <;> rw [he]
theorem normD_pn {nk pk : List Nat} {t : Nat} {x y : Ex × St} (h : normD nk pk t x = y) : y.2.pn = x.2.pn := by
 subst h
 unfold normD
 split
 ·simp only [stripAt_pn]
 ·rfl
theorem trimLoop_pn (s : St) (keep : List Nat) (n : Nat) : (s.trimLoop keep n).pn = s.pn := by
 unfold St.trimLoop
 simp only
 split <;> rfl
theorem run_pn {P : Program} {N : Nat} {C : CallFn} (kk : Nat) : ∀ (c : AC) (code : Code) (s : St) (e : Ex) (s' : St), chkC P N c code = true → run C kk c s = some (e, s') → s'.pn = s.pn
 | .skip, code, s, e, s', hc, h => by simp only [run, Option.some.injEq, Prod.mk.injEq] at h; rw [h.2]
 | .ops l, code, s, e, s', hc, h => by
   cases code <;> simp [chkC] at hc
   exact runOps_pn hc.1 h
 | .opsD l ords nk pk tt, code, s, e, s', hc, h => by
   cases code <;> try (simp only [chkC, Bool.false_eq_true] at hc; done)
   rename_i id ops draw
   cases draw <;> simp only [chkC, Bool.false_eq_true, Bool.and_eq_true] at hc
   simp only [run] at h
   obtain ⟨o, ⟨e1, s1⟩, h1, h2⟩ := runD_one h
   have h3 := normD_pn h2
   simp only at h3
   rw [h3]
   refine runOps_pn' (fun x hx => ?_) h1
   simp only [pickL, List.mem_filterMap] at hx
   obtain ⟨i, _, hi⟩ := hx
   exact chkL_rec hc.1.1 x (List.mem_of_getElem? hi)
 | .seq x y, code, s, e, s', hc, h => by
   cases code <;> simp [chkC] at hc
   simp only [run] at h
   split at h
   ·rename_i s1 h1
    rw [run_pn kk y _ _ _ _ hc.2 h, run_pn kk x _ _ _ _ hc.1 h1]
   ·exact run_pn kk x _ _ _ _ hc.1 h
 | .cond c t f, code, s, e, s', hc, h => by
   cases code <;> simp [chkC] at hc
   simp only [run] at h
   split at h
   ·exact run_pn kk t _ _ _ _ hc.1.2 h
   ·exact run_pn kk f _ _ _ _ hc.2 h
   ·simp at h
 | .block i b, code, s, e, s', hc, h => by
   cases code <;> simp [chkC] at hc
   simp only [run] at h
   split at h
   ·rename_i j s1 h1
    have := run_pn kk b _ _ _ _ hc.2 h1
    split at h <;> (simp only [Option.some.injEq, Prod.mk.injEq] at h; rw [← h.2]; exact this)
   ·exact run_pn kk b _ _ _ _ hc.2 h
 | .loop keep b, code, s, e, s', hc, h => by
   cases code <;> simp [chkC] at hc
   simp only [run] at h
   have key : ∀ (m n : Nat) (s : St), runLoop (run C kk b) keep n m s = some (e, s') → s'.pn = s.pn := by
    intro m
    induction m with
    | zero => intro n s hr; simp [runLoop] at hr
    | succ m ih =>
      intro n s hr
      simp only [runLoop] at hr
      split at hr
      ·rename_i s1 h1
       rw [ih _ _ hr, trimLoop_pn, run_pn kk b _ _ _ _ hc h1]
      ·exact run_pn kk b _ _ _ _ hc hr
   rw [key _ _ _ h, trimLoop_pn]
 | .exit i, code, s, e, s', hc, h => by simp only [run, Option.some.injEq, Prod.mk.injEq] at h; rw [h.2]
 | .hole, code, s, e, s', hc, h => by simp [run] at h
 | .label, code, s, e, s', hc, h => by simp only [run, Option.some.injEq, Prod.mk.injEq] at h; rw [h.2]
 | .goto i, code, s, e, s', hc, h => by simp only [run, Option.some.injEq, Prod.mk.injEq] at h; rw [h.2]
 | .scope l b r, code, s, e, s', hc, h => by
   cases code <;> simp [chkC] at hc
   obtain ⟨hc1, hc2⟩ := hc
   split at hc2
   ·simp only [run] at h
    split at h
    ·rename_i i s1 h1
     split at h
     ·split at h
      ·cases h
      ·rw [run_pn kk r _ _ _ _ hc2 h, run_pn kk b _ _ _ _ hc1 h1]
     ·cases h
    ·exact run_pn kk b _ _ _ _ hc1 h
   ·cases hc2
 | .ret, code, s, e, s', hc, h => by simp only [run, Option.some.injEq, Prod.mk.injEq] at h; rw [h.2]
 | .trim keep b, code, s, e, s', hc, h => by
   simp only [chkC] at hc
   simp only [run] at h
   split at h
   ·rename_i s1 h1
    simp only [Option.some.injEq, Prod.mk.injEq] at h
    rw [← h.2]
    show s1.pn = s.pn
    exact run_pn kk b _ _ _ _ hc h1
   ·exact run_pn kk b _ _ _ _ hc h
def PnR (E : Env) : Option (Option AV) → FrameMode → Prop
 | some (some v), u => ∃ ch pv, u = .panicking ch ∧ Rep E.K0 v pv ∧ v.refB ≤ E.rf0.length ∧ Chain pv ch
 | some none, u => u = .returning ∨ ∃ pv older, u = .panicking ({ v := pv, recovered := true } :: older) ∧ ∀ e ∈ older, e.goexit = false
 | none, _ => False
section
variable {P : Program} {E : Env} {K : Ctx} {s : St} {a : Act} {w : World} {C : CallFn} {N : Nat} {ops : Array Oper} {c₀ : Frame} {cs : List Frame}
theorem Sim.ofK0 {tm : Array Value} (h : Sim E K s tm w) {v : AV} {pv : Value} (hb : v.refB ≤ E.rf0.length) (hr : Rep E.K0 v pv) : Rep K v pv :=
 Rep.mono h.gle.le (fun r hr => (h.rho r hr).symm) _ _ hb hr
theorem opsS_wp {Q : Exit → Act → List Frame → World → Prop} (hC : CallSound P C) (hCW : CallWF C) {l : List AOp} (hc : chkLR P N ops l ops.toList = true) : ∀ (ord : List Nat) (s : St) (a : Act) (u : FrameMode) (w : World) (K : Ctx) (e : Ex) (s' : St),
  Inv E K s a w N → PnR E s.pn u → runOps C (pickL l ord) s = some (e, s') → (∀ ex a' u' w' K', ExR K' e ex → Inv E K' s' a' w' N → PnR E s'.pn u' → Q ex a' ({ c₀ with mode := u' } :: cs) w') →
  wpOpsS P ops Q ord a ({ c₀ with mode := u } :: cs) w
 | [], s, a, u, w, K, e, s', h, hu, hr, hQ => by
   simp only [pickL, List.filterMap_nil, runOps, Option.some.injEq, Prod.mk.injEq] at hr
   obtain ⟨rfl, rfl⟩ := hr
   exact hQ .normal a u w K trivial h hu
 | i :: ord, s, a, u, w, K, e, s', h, hu, hr, hQ => by
   rcases chkLR_get hc i with ⟨h1, h2⟩ | ⟨ao, o, h1, h2, h3⟩
   ·rw [Array.getElem?_toList] at h2
    simp only [pickL, List.filterMap_cons, h1] at hr
    simp only [wpOpsS, h2]
    exact opsS_wp hC hCW hc ord s a u w K e s' h hu hr hQ
   ·rw [Array.getElem?_toList] at h2
    simp only [pickL, List.filterMap_cons, h1, runOps] at hr
    simp only [wpOpsS, h2]
    have hall : ao.dst = o.dst ∧ (∀ d, ao.dst = some d → d < N) ∧ chkGuard ops ao.guard o.guard = true ∧ (ao.op.isRec = false → chk1 P N ops ao o = true) ∧ (ao.op.isRec = true → chkOp P ao.op o = true) := by
     simp only [chk1R, Bool.or_eq_true] at h3
     rcases h3 with h3 | h3
     ·have h3' := h3
      simp only [chk1, Bool.and_eq_true, beq_iff_eq, Bool.not_eq_true'] at h3'
      obtain ⟨⟨⟨⟨⟨c1, c2⟩, c0⟩, c3⟩, c4⟩, c5⟩ := h3'
      refine ⟨c3, fun d hd => ?_, c5, fun _ => h3, fun hr => (by rw [c0] at hr; cases hr)⟩
      rw [hd] at c4
      simp at c4
      exact c4.1
     ·simp only [Bool.and_eq_true, beq_iff_eq] at h3
      obtain ⟨⟨⟨⟨c0, c1⟩, c3⟩, c4⟩, c5⟩ := h3
      refine ⟨c3, fun d hd => ?_, c5, fun hr => (by rw [c0] at hr; cases hr), fun _ => c1⟩
      rw [hd] at c4
      simpa using c4
    obtain ⟨c3, c4, c5, cN, cR⟩ := hall
    split at hr
    ·simp at hr
    ·rename_i hwant
     rw [guard_ok h.sim c5 hwant rfl]
     simp only [Bool.false_eq_true, if_false]
     have hI : Inv E K (putO s ao.dst (.tup [])) (a.put ao.dst undef) w N :=
      h.put h.sim h.wf (Up.refl _ _) rfl (by simp only [Rep, RepL]; exact ⟨#[], rfl, rfl⟩) (by simp [AV.refB, AV.refBs]) (fresh_of_not_own (by intro es e; cases e)) c4
     rw [← c3]
     exact opsS_wp hC hCW hc ord _ _ u w K e s' hI (by rw [putO_pn]; exact hu) hr hQ
    ·rename_i hwant
     rw [guard_ok h.sim c5 hwant rfl]
     simp only [if_true]
     cases hrec : ao.op.isRec with
     | true =>
       have c1 := cR hrec
       obtain ⟨dst, op, gd, may⟩ := ao
       simp only at *
       cases op <;> simp only [AOpk.isRec, Bool.false_eq_true] at hrec
       have hrun : (execOp a.eval o).run P w = .ok .recover w := by
        simp only [chkOp] at c1
        split at c1
        ·rename_i c ho
         cases hcl : c.callee with
         | builtin b =>
           rw [hcl] at c1
           cases b <;> simp at c1
           simp [execOp, ho, resolve, hcl, invoke, builtin]
         | value g => rw [hcl] at c1; simp at c1
         | invoke r m => rw [hcl] at c1; simp at c1
        ·simp at c1
       rw [hrun]
       simp only [stepOp] at hr
       cases hpn : s.pn with
       | none => rw [hpn] at hu; exact hu.elim
       | some pn =>
         rw [hpn] at hr hu
         cases pn with
         | some v =>
           obtain ⟨ch, pv, rfl, h5, h6, older, rfl, h7⟩ := hu
           simp only [recoverD]
           have hI : Inv E K (putO { s with pn := some none } dst v.strip) (a.put dst pv) w N := by
            have hsim : Sim E K { s with pn := some none } a.tmps w := by
             have := h.sim
             exact ⟨this.size, this.os, this.tape, this.output, this.keep, this.gle, this.rho, this.cells, this.refs, this.refG, this.inj, this.rows, this.slots, this.own, this.uniq, this.tO, this.tR⟩
            have hwf : WF E.rf0 { s with pn := some none } := ⟨h.wf.nb, h.wf.le, h.wf.sb, h.wf.rb, h.wf.bd, h.wf.db, fun v e => by simp at e⟩
            exact h.put hsim hwf (Up.refl _ _) rfl (Rep.strip _ _ (h.sim.ofK0 h6 h5)) (by rw [refB_strip]; exact Nat.le_trans h6 h.wf.le) (fresh_of_not_own (strip_not_own v)) c4
           rw [← c3]
           exact opsS_wp hC hCW hc ord _ _ _ w K e s' hI (by rw [putO_pn]; exact .inr ⟨pv, older, rfl, h7⟩) hr hQ
         | none =>
           have hrc : recoverD ({ c₀ with mode := u } :: cs) = none := by
            rcases hu with rfl | ⟨pv, older, rfl, _⟩ <;> simp [recoverD]
           simp only [hrc]
           have hI : Inv E K (putO s dst (.d .nilI)) (a.put dst .nilIface) w N :=
            h.put h.sim h.wf (Up.refl _ _) rfl (by simp [Rep, RepD]) (by simp [AV.refB]) (fresh_of_not_own (by intro es e; cases e)) c4
           rw [← c3]
           exact opsS_wp hC hCW hc ord _ _ u w K e s' hI (by rw [putO_pn, hpn]; exact hu) hr hQ
     | false =>
       have hchk := cN hrec
       have c2 : ao.op.cok = true := by
        have := hchk
        simp only [chk1, Bool.and_eq_true] at this
        exact this.1.1.1.1.2
       have hdone : o.wp P a w (fun a' w' => wpOpsS P ops Q ord a' ({ c₀ with mode := u } :: cs) w') (fun e a' w' => Q e a' ({ c₀ with mode := u } :: cs) w') := by
        split at hr
        ·rename_i v s1 hs
         refine step_wp hC hCW h hchk hs ?_
         intro a' w' K' h5 h6
         have hp := stepOp_pn hs hrec
         simp only [Did.st] at hp
         exact opsS_wp hC hCW hc ord _ _ u w' K' e s' h5 (by rw [putO_pn, hp]; exact hu) hr hQ
        ·rename_i s1 hs
         refine step_wp hC hCW h hchk hs ?_
         intro a' w' K' h5 h6
         have hp := stepOp_pn hs hrec
         simp only [Did.st] at hp
         exact opsS_wp hC hCW hc ord _ _ u w' K' e s' h5 (by rw [hp]; exact hu) hr hQ
        ·rename_i v s1 hs
         refine step_wp hC hCW h hchk hs ?_
         intro a' pv ch w' K' h5 h6 h7 h8
         have hp := stepOp_pn hs hrec
         simp only [Did.st] at hp
         split at hr
         ·simp only [Option.some.injEq, Prod.mk.injEq] at hr
          obtain ⟨rfl, rfl⟩ := hr
          exact hQ (.panic ch) a' u w' K' ⟨pv, h6, h7⟩ h5 (by rw [hp]; exact hu)
         ·simp at hr
        ·simp at hr
       unfold Oper.wp at hdone
       generalize (execOp a.eval o).run P w = r at hdone
       split
       ·rename_i w'
        exact hdone.elim
       ·exact hdone
end
end Go.Ab
namespace Go.Ab
variable [Glb]
theorem chkLR_of {P : Program} {N : Nat} {ops : Array Oper} : ∀ {l : List AOp} {m : List Oper}, chkL P N ops l m = true → chkLR P N ops l m = true
 | [], [], _ => rfl
 | [], _ :: _, h => by simp [chkL] at h
 | _ :: _, [], h => by simp [chkL] at h
 | x :: l, o :: m, h => by
   simp only [chkL, Bool.and_eq_true] at h
   simp only [chkLR, chk1R, Bool.and_eq_true, Bool.or_eq_true]
   exact ⟨.inl h.1, chkLR_of h.2⟩
section
variable {P : Program} {E : Env} {C : CallFn} {N : Nat} {c₀ : Frame} {cs : List Frame}
theorem runS_wp (hC : CallSound P C) (hCW : CallWF C) (h0 : RB E.rf0.length E.rf0) (kk : Nat) : ∀ (c : AC) (code : Code) (s : St) (a : Act) (u : FrameMode) (w : World) (K : Ctx) (Q : Exit → Act → List Frame → World → Prop) (e : Ex) (s' : St),
  chkS P N c code = true → c.cok = true → Inv E K s a w N → PnR E s.pn u → run C kk c s = some (e, s') →
  (∀ ex a' u' w' K', ExR K' e ex → Inv E K' s' a' w' N → PnR E s'.pn u' → Q ex a' ({ c₀ with mode := u' } :: cs) w') → code.wpS P Q a ({ c₀ with mode := u } :: cs) w := by
 have plain : ∀ (c : AC) (code : Code) (s : St) (a : Act) (u : FrameMode) (w : World) (K : Ctx) (Q : Exit → Act → List Frame → World → Prop) (e : Ex) (s' : St),
  chkC P N c code = true → c.cok = true → Inv E K s a w N → PnR E s.pn u → run C kk c s = some (e, s') →
  (∀ ex a' u' w' K', ExR K' e ex → Inv E K' s' a' w' N → PnR E s'.pn u' → Q ex a' ({ c₀ with mode := u' } :: cs) w') → code.wpS P Q a ({ c₀ with mode := u } :: cs) w :=
  fun c code s a u w K Q e s' hc hk h hu hr hQ =>
   wpS_of_wp (run_wp hC hCW h0 kk c code s a w K _ e s' hc hk h hr fun ex a' w' K' h1 h2 => hQ ex a' u w' K' h1 h2 (by rw [run_pn kk c code s e s' hc hr]; exact hu))
 intro c
 induction c with
 | trim keep b ih =>
   intro code s a u w K Q e s' hc hk h hu hr hQ
   simp only [chkS] at hc
   simp only [AC.cok] at hk
   simp only [run] at hr
   split at hr
   ·rename_i s1 hr1
    simp only [Option.some.injEq, Prod.mk.injEq] at hr
    obtain ⟨rfl, rfl⟩ := hr
    exact ih code s a u w K Q _ s1 hc hk h hu hr1 fun ex a' u' w' K' h1 h2 h3 => hQ ex a' u' w' K' h1 (h2.keep keep) h3
   ·exact ih code s a u w K Q e s' hc hk h hu hr hQ
 | seq x y ihx ihy =>
   intro code s a u w K Q e s' hc hk h hu hr hQ
   cases code <;> simp only [chkS, chkC, Bool.false_eq_true, Bool.and_eq_true] at hc
   rename_i cx cy
   simp only [AC.cok, Bool.and_eq_true] at hk
   simp only [run] at hr
   refine wpS_seq ?_
   split at hr
   ·rename_i s1 hr1
    refine ihx cx s a u w K _ _ s1 hc.1 hk.1 h hu hr1 fun ex a' u' w' K' h1 h2 h3 => ?_
    cases ex <;> simp only [ExR] at h1
    exact ihy cy s1 a' u' w' K' Q e s' hc.2 hk.2 h2 h3 hr hQ
   ·rename_i hne
    refine ihx cx s a u w K _ e s' hc.1 hk.1 h hu hr fun ex a' u' w' K' h1 h2 h3 => ?_
    have hq := hQ ex a' u' w' K' h1 h2 h3
    cases ex with
    | normal =>
      cases e <;> simp only [ExR] at h1
      exact absurd hr (hne s')
    | _ => exact hq
 | cond c t f iht ihf =>
   intro code s a u w K Q e s' hc hk h hu hr hQ
   cases code <;> simp only [chkS, chkC, Bool.false_eq_true, Bool.and_eq_true] at hc
   rename_i c' ct cf
   simp only [AC.cok, Bool.and_eq_true] at hk
   simp only [run] at hr
   split at hr
   ·rename_i hg
    have := getO_rep h.sim hc.1.1 hg
    simp only [Rep, RepD] at this
    refine wpS_cond (t := true) this ?_
    exact iht ct s a u w K Q e s' hc.1.2 hk.1.2 h hu hr hQ
   ·rename_i hg
    have := getO_rep h.sim hc.1.1 hg
    simp only [Rep, RepD] at this
    refine wpS_cond (t := false) this ?_
    exact ihf cf s a u w K Q e s' hc.2 hk.2 h hu hr hQ
   ·simp at hr
 | hole =>
   intro code s a u w K Q e s' hc hk h hu hr hQ
   simp [run] at hr
 | label =>
   intro code s a u w K Q e s' hc hk h hu hr hQ
   exact plain _ _ s a u w K Q e s' (by simpa only [chkS] using hc) hk h hu hr hQ
 | goto l =>
   intro code s a u w K Q e s' hc hk h hu hr hQ
   exact plain _ _ s a u w K Q e s' (by simpa only [chkS] using hc) hk h hu hr hQ
 | scope l b r =>
   intro code s a u w K Q e s' hc hk h hu hr hQ
   exact plain _ _ s a u w K Q e s' (by simpa only [chkS] using hc) hk h hu hr hQ
 | ops l =>
   intro code s a u w K Q e s' hc hk h hu hr hQ
   cases code
   case region id ops draw =>
    cases draw with
    | false =>
      simp only [chkS] at hc
      simp only [run] at hr
      refine wpS_region ?_
      have hlen : l.length = ops.size := by simpa using chkLR_length hc
      have hp := pickL_range l ops.size 0 (by omega)
      rw [List.drop_zero, ← List.range_eq_range'] at hp
      exact opsS_wp hC hCW hc _ s a u w K e s' h hu (by rw [hp]; exact hr) hQ
    | true =>
      simp only [chkS] at hc
      exact plain _ _ s a u w K Q e s' hc hk h hu hr hQ
   all_goals simp [chkS, chkC] at hc
 | opsD l ords nk pk tt =>
   intro code s a u w K Q e s' hc hk h hu hr hQ
   exact plain _ _ s a u w K Q e s' (by simpa only [chkS] using hc) hk h hu hr hQ
 | skip =>
   intro code s a u w K Q e s' hc hk h hu hr hQ
   exact plain _ _ s a u w K Q e s' (by simpa only [chkS] using hc) hk h hu hr hQ
 | block i b _ =>
   intro code s a u w K Q e s' hc hk h hu hr hQ
   exact plain _ _ s a u w K Q e s' (by simpa only [chkS] using hc) hk h hu hr hQ
 | loop keep b _ =>
   intro code s a u w K Q e s' hc hk h hu hr hQ
   exact plain _ _ s a u w K Q e s' (by simpa only [chkS] using hc) hk h hu hr hQ
 | exit i =>
   intro code s a u w K Q e s' hc hk h hu hr hQ
   exact plain _ _ s a u w K Q e s' (by simpa only [chkS] using hc) hk h hu hr hQ
 | ret =>
   intro code s a u w K Q e s' hc hk h hu hr hQ
   exact plain _ _ s a u w K Q e s' (by simpa only [chkS] using hc) hk h hu hr hQ
end
structure Fits (P : Program) (f : FuncId) (af : AFn) (fn : Func) (code : Code) : Prop where
 get : P.funcs[f]? = some fn
 body : fn.body = some code
 cok : af.body.cok = true
 name : fn.name ≠ "runtime.NumGoroutine"
def FitN (P : Program) (tab : FuncId → Option AFn) : Prop := ∀ f af, tab f = some af → ∃ fn code, Fits P f af fn code ∧ chkC P fn.ntmps af.body code = true ∧ chkRes P af.res fn.results.toList = true
def FitD (P : Program) (tab : FuncId → Option AFn) : Prop := ∀ f af, tab f = some af → ∃ fn code, Fits P f af fn code ∧ chkS P fn.ntmps af.body code = true ∧ fn.results = #[]
theorem Fits.call {P : Program} {f : FuncId} {af : AFn} {fn : Func} {code : Code} (h : Fits P f af fn code) (args : Array Value) (w : World) : (callFunc f args).run P w = .ok (.enter f args) w := by
 simp [callFunc, h.get, h.body, h.name]
def ModeR (K : Ctx) (n : Nat) : Option AV → FrameMode → Prop
 | none, u => u = .returning
 | some v, u => ∃ ch pv, u = .panicking ch ∧ Rep K v pv ∧ v.refB ≤ n ∧ Chain pv ch
def DRes (K : Ctx) (n : Nat) (out : Out) (m' : Option AV) (u' : FrameMode) : Ending → Prop
 | .returned _ => (∃ v, out = .ret v) ∧ ModeR K n m' (settle u')
 | .panicked ch => ∃ av, out = .pan av ∧ ModeR K n (some av) (raised u' ch)
 | .outgrown => False
def CallDSound (P : Program) (CD : FuncId → List AV → Option AV → Refs → Option (Out × Option AV × Refs)) : Prop := ∀ f args m rf out m' rf', CD f args m rf = some (out, m', rf') →
 ∀ (E : Env) (K : Ctx) (s : St) (tm : Array Value) (w : World) (vs : Array Value) (u : FrameMode), s.rf = rf → Sim E K s tm w → WF E.rf0 s → AV.refBs args ≤ rf.length → (∀ x ∈ args, ∀ es, x ≠ .own es) → RepL K args vs.toList →
 ModeR K rf.length m u → (callFunc f vs).run P w = .ok (.enter f vs) w ∧ CallsD P f vs u w fun e u' w' => ∃ K', Sim E K' { s with rf := rf' } tm w' ∧ Up rf.length K K' ∧ DRes K' rf.length out m' u' e
theorem settle_chain {pv : Value} {ch : List PanicEntry} (h : Chain pv ch) : settle (.panicking ch) = .panicking ch := by
 obtain ⟨older, rfl, _⟩ := h
 rfl
theorem dropWhile_all {l : List PanicEntry} (h : ∀ e ∈ l, e.goexit = false) : l.dropWhile (!·.goexit) = [] := by
 induction l with
 | nil => rfl
 | cons x l ih =>
   rw [List.dropWhile_cons]
   simp only [h x (by simp), Bool.not_false, if_true]
   exact ih fun e he => h e (by simp [he])
theorem enter_inv {E : Env} {K : Ctx} {s : St} {tm : Array Value} {w : World} (h : Sim E K s tm w) (hw : WF E.rf0 s) {args : List AV} {vs : Array Value} (ha : AV.refBs args ≤ s.rf.length) (hno : ArgsOK E K s tm w args vs) (hr : RepL K args vs.toList)
  (pn : Option (Option AV)) (hpn : ∀ v, pn = some (some v) → v.refB ≤ s.rf.length) (N : Nat) :
  Inv (callEnv K s tm w args vs) K { sl := enterS args 0, rf := s.rf, pn := pn, nb := s.rf.length } { tmps := vs ++ Array.replicate (N - vs.size) undef, defers := [] } w N :=
 ⟨h.enter hno hr _ [] pn, enter_wf hw.rb ha pn hpn, rfl, by simp; omega⟩
theorem callD_sound {P : Program} {tab : FuncId → Option AFn} (hf : FitD P tab) {C : CallFn} (hC : CallSound P C) (hCW : CallWF C) (k : Nat) : CallDSound P (callD tab C k) := by
 intro f args m rf out m' rf' hcall E K s tm w vs u hrf hsim hwf ha hno hr hm
 subst hrf
 unfold callD at hcall
 split at hcall
 ·simp at hcall
 ·rename_i af haf
  obtain ⟨fn, code, hfit, hchk, hres⟩ := hf f af haf
  refine ⟨hfit.call vs w, ?_⟩
  refine callsD_of_wpS hfit.get hfit.body fun c₀ cs hu => ?_
  have hc0 : ({ c₀ with mode := u } : Frame) = c₀ := by subst hu; rfl
  have hI := enter_inv hsim hwf ha (argsOK_of hno) hr (some m) (fun v e => by
   simp only [Option.some.injEq] at e
   subst e
   obtain ⟨ch, pv, _, _, h3, _⟩ := hm
   exact h3) fn.ntmps
  have hP : PnR (callEnv K s tm w args vs) (some m) u := by
   cases m with
   | none => exact .inl hm
   | some v => exact hm
  have hback : ∀ {K' : Ctx} {s' : St} {a' : Act} {w' : World}, Inv (callEnv K s tm w args vs) K' s' a' w' fn.ntmps → Sim E K' { s with rf := s'.rf.take s.rf.length } tm w' ∧ Up s.rf.length K K' := fun {K' s' a' w'} hI' => by
   have h1 : s.rf.length ≤ s'.rf.length := hI'.wf.le
   have := hsim.back hwf (argsOK_of hno) (hI'.sim.cut s.rf.length) (by simp only [List.length_take]; omega)
   exact ⟨this.1, this.2.1⟩
  have hmode : ∀ {K' : Ctx} {s' : St} {a' : Act} {w' : World} {u' : FrameMode}, Inv (callEnv K s tm w args vs) K' s' a' w' fn.ntmps → PnR (callEnv K s tm w args vs) s'.pn u' → ModeR K' s.rf.length (s'.pn.getD none) (settle u') := fun {K' s' a' w' u'} hI' hu' => by
   cases hpn : s'.pn with
   | none => rw [hpn] at hu'; exact hu'.elim
   | some p =>
     rw [hpn] at hu'
     cases p with
     | none =>
       rcases hu' with rfl | ⟨pv, older, rfl, ho⟩
       ·rfl
       ·show settle _ = .returning
        simp only [settle, dropWhile_all ho]
     | some v =>
       obtain ⟨ch, pv, rfl, h1, h2, h3⟩ := hu'
       exact ⟨ch, pv, settle_chain h3, hI'.sim.ofK0 h2 h1, h2, h3⟩
  have hresult : ∀ (tmps : Array Value) (w' : World), ∃ v, (results fn tmps).run P w' = .ok v w' := fun tmps w' => ⟨.tuple #[], by simp [results, hres]⟩
  rw [← hc0]
  split at hcall
  ·rename_i s' hrun
   split at hcall
   ·rename_i hdf
    simp only [Option.some.injEq, Prod.mk.injEq] at hcall
    obtain ⟨rfl, rfl, rfl⟩ := hcall
    refine runS_wp hC hCW hwf.rb k af.body code _ _ u w K _ _ s' hchk hfit.cok hI hP hrun fun ex a' u' w' K' h1 h2 h3 => ?_
    cases ex <;> simp only [ExR] at h1
    have hd : a'.defers = [] := by
     have := h2.df
     rw [List.isEmpty_iff.1 hdf] at this
     exact this
    obtain ⟨v, hv⟩ := hresult a'.tmps w'
    exact ⟨hd, u', rfl, v, hv, K', (hback h2).1, (hback h2).2, ⟨_, rfl⟩, hmode h2 h3⟩
   ·simp at hcall
  ·rename_i s' hrun
   split at hcall
   ·rename_i hdf
    simp only [Option.some.injEq, Prod.mk.injEq] at hcall
    obtain ⟨rfl, rfl, rfl⟩ := hcall
    refine runS_wp hC hCW hwf.rb k af.body code _ _ u w K _ _ s' hchk hfit.cok hI hP hrun fun ex a' u' w' K' h1 h2 h3 => ?_
    cases ex <;> simp only [ExR] at h1
    have hd : a'.defers = [] := by
     have := h2.df
     rw [List.isEmpty_iff.1 hdf] at this
     exact this
    obtain ⟨v, hv⟩ := hresult a'.tmps w'
    exact ⟨hd, u', rfl, v, hv, K', (hback h2).1, (hback h2).2, ⟨_, rfl⟩, hmode h2 h3⟩
   ·simp at hcall
  ·rename_i v s' hrun
   split at hcall
   ·rename_i hdf
    simp only [Option.some.injEq, Prod.mk.injEq] at hcall
    obtain ⟨rfl, rfl, rfl⟩ := hcall
    refine runS_wp hC hCW hwf.rb k af.body code _ _ u w K _ _ s' hchk hfit.cok hI hP hrun fun ex a' u' w' K' h1 h2 h3 => ?_
    cases ex <;> simp only [ExR] at h1
    obtain ⟨pv, h4, h5⟩ := h1
    have hd : a'.defers = [] := by
     have := h2.df
     rw [List.isEmpty_iff.1 hdf.1] at this
     exact this
    refine ⟨hd, u', rfl, K', (hback h2).1, (hback h2).2, _, rfl, ?_⟩
    rename_i ch
    obtain ⟨older, rfl, ho⟩ := h5
    have hold : ∃ more, raised u' ({ v := pv, recovered := false, goexit := false } :: older) = .panicking ({ v := pv, recovered := false, goexit := false } :: (older ++ more)) ∧ ∀ e ∈ more, e.goexit = false := by
     cases hpn : s'.pn with
     | none => rw [hpn] at h3; exact h3.elim
     | some p =>
       rw [hpn] at h3
       cases p with
       | none =>
         rcases h3 with rfl | ⟨pv', older', rfl, ho'⟩
         ·exact ⟨[], by simp [raised], by simp⟩
         ·exact ⟨_, rfl, by
           intro e he
           rcases List.mem_cons.1 he with rfl | he
           ·rfl
           ·exact ho' e he⟩
       | some v' =>
         obtain ⟨ch', pv', rfl, _, _, older', rfl, ho'⟩ := h3
         exact ⟨_, rfl, by
          intro e he
          rcases List.mem_cons.1 he with rfl | he
          ·rfl
          ·exact ho' e he⟩
    obtain ⟨more, h6, h7⟩ := hold
    refine ⟨_, pv, h6, Rep.bare _ _ h4, by rw [refB_bare]; exact hdf.2, older ++ more, rfl, fun e he => ?_⟩
    rcases List.mem_append.1 he with he | he
    ·exact ho e he
    ·exact h7 e he
   ·simp at hcall
  ·simp at hcall
def CRes (K : Ctx) (s : St) (tm : Array Value) (out : Out) : Ending → Prop
 | .returned v => ∃ av, out = .ret av ∧ Rep K av v ∧ KeptAt s tm av v
 | .panicked ch => ∃ av pv, out = .pan av ∧ Rep K av pv ∧ Chain pv ch
 | .outgrown => False
theorem leave_sound {P : Program} {CD : FuncId → List AV → Option AV → Refs → Option (Out × Option AV × Refs)} (hCD : CallDSound P CD) (hCDW : CallDWF CD) {E : Env} {af : AFn} {fn : Func} (hres : chkRes P af.res fn.results.toList = true) {a : Act}
  {out : Out} {rf' : Refs} {R : Ending → World → Prop} :
  ∀ (df : List (AV × List AV)) (ds : List Deferred) (m : Option AV) (u : FrameMode) (s : St) (w : World) (K : Ctx), leave CD af E.rf0.length df m s = some (out, rf') → Sim E K s a.tmps w → WF E.rf0 s →
   PutR K df ds → (∀ p, p ∈ df → p.1.refB ≤ s.rf.length ∧ AV.refBs p.2 ≤ s.rf.length) → ModeR K s.rf.length m u →
   (∀ e w' K' s'', Sim E K' s'' a.tmps w' → E.rf0.length ≤ s''.rf.length → rf' = s''.rf → CRes K' s'' a.tmps out e → R e w') → Leaves P fn a.tmps R ds u w
 | [], ds, none, u, s, w, K, h, hs, hw, hd, _, hm, hR => by
   cases hd
   cases hm
   simp only [leave] at h
   split at h
   ·rename_i v hv
    obtain ⟨pv, h1, h2, h3⟩ := run_results (P := P) hs hres hv
    split at h
    ·simp only [Option.some.injEq, Prod.mk.injEq] at h
     obtain ⟨rfl, rfl⟩ := h
     exact ⟨pv, h1, hR (.returned pv) w K { s with rf := s.rf.take E.rf0.length } (hs.cut _) (by have := hw.le; simp only [List.length_take]; omega) rfl ⟨v, rfl, h2, h3⟩⟩
    ·simp only [Option.some.injEq, Prod.mk.injEq] at h
     obtain ⟨rfl, rfl⟩ := h
     exact ⟨pv, h1, hR (.returned pv) w K s hs hw.le rfl ⟨v, rfl, h2, h3⟩⟩
   ·simp at h
 | [], ds, some v, u, s, w, K, h, hs, hw, hd, _, hm, hR => by
   cases hd
   obtain ⟨ch, pv, rfl, h1, h2, h3⟩ := hm
   simp only [leave] at h
   split at h
   ·simp only [Option.some.injEq, Prod.mk.injEq] at h
    obtain ⟨rfl, rfl⟩ := h
    exact hR (.panicked ch) w K { s with rf := s.rf.take E.rf0.length } (hs.cut _) (by have := hw.le; simp only [List.length_take]; omega) rfl ⟨_, pv, rfl, Rep.bare _ _ h1, h3⟩
   ·simp at h
 | (f, vs) :: r, ds, m, u, s, w, K, h, hs, hw, hd, hb, hm, hR => by
   obtain ⟨d, rest, rfl, ⟨id, first, cap, vs', cv, av, e1, rfl, h1, h2⟩, hrest⟩ := hd
   simp only [Prod.mk.injEq] at e1
   obtain ⟨rfl, rfl⟩ := e1
   have hf := hb _ (List.mem_cons_self)
   simp only [AV.refB] at hf
   have hargs : AV.refBs (AV.bargs (first ++ vs ++ cap)) ≤ s.rf.length := by
    rw [refBs_bargs]; exact refBs_append_le (refBs_append_le (by omega) hf.2) (by omega)
   have hrun : u ≠ .run := by
    cases m with
    | none => cases hm; simp
    | some v => obtain ⟨ch, pv, rfl, _⟩ := hm; simp
   have hrep : RepL K (AV.bargs (first ++ vs ++ cap)) (av ++ cv).toList := by
    apply RepL.bargs
    rw [Array.toList_append]
    exact RepL.append h2 h1
   simp only [leave] at h
   have key : ∀ (o : Out) (m' : Option AV) (rf1 : Refs) (m2 : Option AV), CD id (AV.bargs (first ++ vs ++ cap)) m s.rf = some (o, m', rf1) → leave CD af E.rf0.length r m2 { s with rf := rf1 } = some (out, rf') →
     (match o with | .ret _ => m2 = m' | .pan v => m2 = some v) → Leaves P fn a.tmps R ({ target := .fn (.func id) cv, args := av } :: rest) u w := by
    intro o m' rf1 m2 hcall hl hm2
    obtain ⟨a1, b1, c1, d1, e1⟩ := hCDW _ _ _ _ _ _ _ hcall hw.rb hargs (fun v e => by
     subst e
     obtain ⟨_, _, _, _, h3, _⟩ := hm
     exact h3)
    obtain ⟨hi, hcd⟩ := hCD _ _ _ _ _ _ _ hcall E K s a.tmps w (av ++ cv) u rfl hs hw hargs (bargs_not_own _) hrep hm
    refine leaves_cons hrun (by simpa [invoke] using hi) (CallsD.mono hcd fun e u' w' hR' => ?_)
    obtain ⟨K', h5, h6, h7⟩ := hR'
    have hw1 := hw.withRf a1 b1 e1
    have hrest' : PutR K' r rest := hrest.mono h6 fun p hp => hb p (List.mem_cons_of_mem _ hp)
    have hb' : ∀ p, p ∈ r → p.1.refB ≤ ({ s with rf := rf1 } : St).rf.length ∧ AV.refBs p.2 ≤ ({ s with rf := rf1 } : St).rf.length := fun p hp => by simp only [a1]; exact hb p (List.mem_cons_of_mem _ hp)
    cases e with
    | returned v =>
      obtain ⟨⟨v', rfl⟩, h8⟩ := h7
      simp only at hm2
      subst hm2
      exact leave_sound hCD hCDW hres r rest _ _ _ w' K' hl h5 hw1 hrest' hb' (by simpa only [a1] using h8) hR
    | panicked ch =>
      obtain ⟨av', rfl, h8⟩ := h7
      simp only at hm2
      subst hm2
      exact leave_sound hCD hCDW hres r rest _ _ _ w' K' hl h5 hw1 hrest' hb' (by simpa only [a1] using h8) hR
    | outgrown => exact h7.elim
   split at h
   ·rename_i v m' rf1 hcall
    exact key _ _ _ _ hcall h rfl
   ·rename_i v m' rf1 hcall
    exact key _ _ _ _ hcall h rfl
   ·simp at h
def OrcOK (P : Program) (orc : FuncId → List AV → Option AV) : Prop := ∀ f args v, orc f args = some v → v.refB = 0 ∧ (∀ es, v ≠ .own es) ∧
 ∀ (E : Env) (K : Ctx) (s : St) (tm : Array Value) (w : World) (vs : Array Value), Sim E K s tm w → WF E.rf0 s → RepL K args vs.toList →
  Does P f vs w fun e w' => ∃ K' pv, Sim E K' s tm w' ∧ Up s.rf.length K K' ∧ e = .returned pv ∧ Rep K' v pv
theorem Does.mono {P : Program} {f : FuncId} {args : Array Value} {w : World} {R R' : Ending → World → Prop} (h : Does P f args w R) (hr : ∀ e w', R e w' → R' e w') : Does P f args w R' := by
 unfold Does at h ⊢
 split at h
 ·exact Calls.mono h hr
 ·exact hr _ _ h
 ·exact Rows.mono h fun v w' => hr _ _
 ·exact h.elim
theorem call_sound {P : Program} {tab tabD : FuncId → Option AFn} {orc : FuncId → List AV → Option AV} (hN : FitN P tab) (hD : FitD P tabD) (hO : OrcOK P orc) : ∀ k, CallSound P (call tab tabD orc k)
 | 0 => fun f args rf out rf' h => by simp [call] at h
 | k + 1 => fun f args rf out rf' hcall E K s tm w vs hrf hsim hwf ha hno hr => by
   have hC := call_sound hN hD hO k
   have hTN : TabOK tab := fun f af h => let ⟨_, _, hf, _⟩ := hN f af h; hf.cok
   have hTD : TabOK tabD := fun f af h => let ⟨_, _, hf, _⟩ := hD f af h; hf.cok
   have hCW : CallWF (call tab tabD orc k) := call_wf hTN hTD (fun f args v h => (hO f args v h).1) k
   subst hrf
   simp only [call] at hcall
   split at hcall
   ·rename_i v hv
    simp only [Option.some.injEq, Prod.mk.injEq] at hcall
    obtain ⟨rfl, rfl⟩ := hcall
    obtain ⟨_, h2, h3⟩ := hO _ _ _ hv
    refine (h3 E K s tm w vs hsim hwf hr).mono fun e w' hR => ?_
    obtain ⟨K', pv, h4, h5, rfl, h6⟩ := hR
    exact ⟨K', h4, h5, v, rfl, h6, fresh_of_not_own h2⟩
   ·split at hcall
    ·simp at hcall
    ·rename_i af haf
     obtain ⟨fn, code, hfit, hchk, hres⟩ := hN f af haf
     unfold Does
     rw [hfit.call vs w]
     simp only
     have hI := enter_inv hsim hwf ha hno hr none (fun v e => by simp at e) fn.ntmps
     have hl : ∀ {m : Option AV} {s1 : St} {K1 : Ctx} {a1 : Act} {w1 : World} {u : FrameMode}, leave (callD tabD (call tab tabD orc k) k) af s.rf.length s1.df m s1 = some (out, rf') → Inv (callEnv K s tm w args vs) K1 s1 a1 w1 fn.ntmps → ModeR K1 s1.rf.length m u →
       Leaves P fn a1.tmps (fun e w' => ∃ K', Sim E K' { s with rf := rf' } tm w' ∧ Up s.rf.length K K' ∧ CallRes E K' { s with rf := rf' } tm w' out e) a1.defers u w1 := fun {m s1 K1 a1 w1 u} hl hI1 hm =>
      leave_sound (callD_sound hD hC hCW k) (callD_wf hTD hCW k) hres s1.df a1.defers m u s1 w1 K1 hl hI1.sim hI1.wf hI1.df hI1.wf.db hm fun e w' K' s'' h1 h2 h3 h4 => by
       subst h3
       have := hsim.back hwf hno h1 h2
       refine ⟨K', this.1, this.2.1, ?_⟩
       cases e with
       | returned v =>
         obtain ⟨av, rfl, h5, h6⟩ := h4
         refine ⟨av, rfl, h5, fun es e => ?_⟩
         obtain ⟨t, h7, h8⟩ := h6 es e
         have h9 := this.2.2 t av h7 es e
         rw [h8] at h9
         exact h9
       | panicked ch => exact h4
       | outgrown => exact h4
     refine calls_of_wp_defers hfit.get hfit.body ?_
     split at hcall
     ·rename_i s1 hrun
      refine run_wp hC hCW hwf.rb k af.body code _ _ w K _ _ s1 hchk hfit.cok hI hrun fun ex a' w' K' h1 h2 => ?_
      cases ex <;> simp only [ExR] at h1
      exact hl hcall h2 rfl
     ·rename_i s1 hrun
      refine run_wp hC hCW hwf.rb k af.body code _ _ w K _ _ s1 hchk hfit.cok hI hrun fun ex a' w' K' h1 h2 => ?_
      cases ex <;> simp only [ExR] at h1
      exact hl hcall h2 rfl
     ·rename_i v s1 hrun
      have hvb := (run_wf hCW k hwf.rb hrun hfit.cok hI.wf).2.1
      refine run_wp hC hCW hwf.rb k af.body code _ _ w K _ _ s1 hchk hfit.cok hI hrun fun ex a' w' K' h1 h2 => ?_
      cases ex <;> simp only [ExR] at h1
      obtain ⟨pv, h4, h5⟩ := h1
      exact hl hcall h2 ⟨_, pv, rfl, h4, hvb, h5⟩
     ·simp at hcall
end Go.Ab
namespace Go.Ab
def lookupF : List (Nat × AFn) → Nat → Option AFn
 | [], _ => none
 | (k, v) :: r, n => if k = n then some v else lookupF r n
def chkFn (P : Program) (dfr : Bool) (f : Nat) (af : AFn) : Bool :=
 match P.funcs[f]? with
 | none => false
 | some fn => match fn.body with
   | none => false
   | some code => af.body.cok && (fn.name != "runtime.NumGoroutine") &&
     (if dfr then chkS P fn.ntmps af.body code && fn.results.size == 0 else chkC P fn.ntmps af.body code && chkRes P af.res fn.results.toList)
def chkTab (P : Program) (dfr : Bool) : List (Nat × AFn) → Bool
 | [] => true
 | (f, af) :: r => chkFn P dfr f af && chkTab P dfr r
theorem chkTab_get {P : Program} {dfr : Bool} : ∀ {l : List (Nat × AFn)} {f : Nat} {af : AFn}, chkTab P dfr l = true → lookupF l f = some af → chkFn P dfr f af = true
 | [], f, af, _, h => by simp [lookupF] at h
 | (k, v) :: r, f, af, hc, h => by
   simp only [chkTab, Bool.and_eq_true] at hc
   simp only [lookupF] at h
   split at h
   ·rename_i hk
    subst hk
    simp only [Option.some.injEq] at h
    subst h
    exact hc.1
   ·exact chkTab_get hc.2 h
theorem fitN_of {P : Program} {l : List (Nat × AFn)} (h : chkTab P false l = true) : FitN P (lookupF l) := fun f af haf => by
 have := chkTab_get h haf
 unfold chkFn at this
 split at this
 ·cases this
 ·rename_i fn hfn
  split at this
  ·cases this
  ·rename_i code hcode
   simp only [Bool.and_eq_true, bne_iff_ne, ne_eq, Bool.not_eq_true', Bool.false_eq_true, if_false] at this
   exact ⟨fn, code, ⟨hfn, hcode, this.1.1, this.1.2⟩, this.2.1, this.2.2⟩
theorem fitD_of {P : Program} {l : List (Nat × AFn)} (h : chkTab P true l = true) : FitD P (lookupF l) := fun f af haf => by
 have := chkTab_get h haf
 unfold chkFn at this
 split at this
 ·cases this
 ·rename_i fn hfn
  split at this
  ·cases this
  ·rename_i code hcode
   simp only [Bool.and_eq_true, bne_iff_ne, ne_eq, if_true, beq_iff_eq] at this
   exact ⟨fn, code, ⟨hfn, hcode, this.1.1, this.1.2⟩, this.2.1, Array.eq_empty_of_size_eq_zero this.2.2⟩
end Go.Ab
namespace Go.Ab
variable [Glb]
def OrcAt (P : Program) (f : FuncId) (o : List AV → Option AV) : Prop := ∀ args v, o args = some v → v.refB = 0 ∧ (∀ es, v ≠ .own es) ∧
 ∀ (E : Env) (K : Ctx) (s : St) (tm : Array Value) (w : World) (vs : Array Value), Sim E K s tm w → WF E.rf0 s → RepL K args vs.toList →
  Does P f vs w fun e w' => ∃ K' pv, Sim E K' s tm w' ∧ Up s.rf.length K K' ∧ e = .returned pv ∧ Rep K' v pv
def orcOf : List (Nat × (List AV → Option AV)) → FuncId → List AV → Option AV
 | [], _, _ => none
 | (k, o) :: r, f, args => if k = f then o args else orcOf r f args
theorem orcOf_none {f : FuncId} {args : List AV} : ∀ {l : List (Nat × (List AV → Option AV))}, (∀ p, p ∈ l → p.1 ≠ f) → orcOf l f args = none
 | [], _ => rfl
 | (k, o) :: r, h => by
   simp only [orcOf]
   rw [if_neg (h (k, o) (by simp))]
   exact orcOf_none (fun p hp => h p (by simp [hp]))
theorem orcOK_of {P : Program} : ∀ {l : List (Nat × (List AV → Option AV))}, (∀ p, p ∈ l → OrcAt P p.1 p.2) → OrcOK P (orcOf l)
 | [], _ => fun f args v h => by simp [orcOf] at h
 | (k, o) :: r, hl => fun f args v h => by
   simp only [orcOf] at h
   split at h
   ·rename_i hk
    subst hk
    exact hl (k, o) (by simp) args v h
   ·exact orcOK_of (fun p hp => hl p (by simp [hp])) f args v h
theorem callFunc_extern {P : Program} {f : FuncId} {fn : Func} {e : Array Value → Sem Value} (hf : P.funcs[f]? = some fn) (hname : (fn.name == "runtime.NumGoroutine") = false) (hb : fn.body.isNone = true)
  (hn : Extern.findNext fn = none) (he : Extern.find fn = some e) {args : Array Value} {v : Value} {w : World} (hr : (e args).run P w = .ok v w) : (callFunc f args).run P w = .ok (.value v) w := by
 have hname' : fn.name ≠ "runtime.NumGoroutine" := by simpa using hname
 have hb' : fn.body = none := by simpa using hb
 simp [callFunc, hf, hname', hb', hn, he, hr]
def idxByte : List AV → Option AV
 | [.d (.str s), .d (.int .u8 c)] => some (.d (.int .i64 (Lib.indexByte s c.toNat.toUInt8)))
 | _ => none
theorem idxByte_ok {P : Program} {f : FuncId} {fn : Func} (hf : P.funcs[f]? = some fn) (hname : (fn.name == "runtime.NumGoroutine") = false) (hb : fn.body.isNone = true)
  (hn : Extern.findNext fn = none) (he : Extern.find fn = some Extern.BytealgIndexByte.indexByte) : OrcAt P f idxByte := by
 intro args v h
 unfold idxByte at h
 split at h
 ·rename_i s c
  simp only [Option.some.injEq] at h
  subst h
  refine ⟨rfl, fun es e => (by cases e), fun E K st tm w vs hs _ hr => ?_⟩
  simp only [RepL, Rep, RepD] at hr
  obtain ⟨v1, r1, e1, rfl, v2, r2, rfl, rfl, rfl⟩ := hr
  have hvs : vs = #[.string ⟨s.toArray⟩, .int .u8 c] := by
   apply Array.toList_inj.1
   rw [e1]
  subst hvs
  unfold Does
  rw [callFunc_extern hf hname hb hn he (Lib.run_indexByteString _ _ w)]
  simp only
  exact ⟨K, _, hs, Up.refl _ _, rfl, by simp [Rep, RepD]⟩
 ·cases h
end Go.Ab
namespace Go.Ab
variable [Glb]
open Go.RowKit
def K0 : Ctx := ⟨Glb.G0, fun _ => none, fun _ => none⟩
def GlbIn (w : World) : Prop := ∀ b o v, Glb.G0 b o = some v → w.cell? ⟨b, o, none⟩ = some v
theorem sim_start {w : World} (hg : GlbIn w) : Sim ⟨w, K0, [], fun _ => False⟩ K0 St.blank #[] w := by
 have hno : ∀ ℓ es v, ¬ holds K0 St.blank #[] w ℓ (.own es) v := fun ℓ es v hh => by
  cases ℓ with
  | sl t => simp [holds, St.blank, Slots.get] at hh
  | rf r i => simp [holds, St.blank] at hh
 exact ⟨Nat.le_refl _, rfl, rfl, rfl, fun b _ _ => ⟨rfl, rfl, fun _ => rfl⟩, ⟨Le.refl _, Le.refl _⟩, fun r hr => by simp at hr, hg, fun r cs hr => by simp [St.blank] at hr, fun r b hr => by simp [St.blank] at hr,
  fun r r' b hr => by simp [St.blank] at hr, fun b f h => by simp [K0] at h, fun t av ht => by simp [St.blank, Slots.get] at ht, fun ℓ es v hh => absurd hh (hno _ _ _), fun ℓ _ es _ v _ b hh => absurd hh (hno _ _ _),
  fun ℓ es v b hh => absurd hh (hno _ _ _), fun r b hr => by simp [St.blank] at hr⟩
theorem true_of_run {P : Program} {tab tabD : FuncId → Option AFn} {orc : FuncId → List AV → Option AV} (hN : FitN P tab) (hD : FitD P tabD) (hO : OrcOK P orc) {k : Nat} {f : FuncId} {args : List AV} {rf : Refs}
  (hrun : call tab tabD orc k f args [] = some (.ret (.d (.bool true)), rf)) (hf : ∃ af, tab f = some af) (ha : AV.refBs args = 0) (hno : ∀ x ∈ args, ∀ es, x ≠ .own es) {vs : Array Value} (hr : RepL K0 args vs.toList) (W : World) (hg : GlbIn W) :
  Calls P f vs W fun e W' => e = .returned (.bool true) ∧ Below W.heap.size W W' := by
 have hTN : TabOK tab := fun f af h => let ⟨_, _, hf, _⟩ := hN f af h; hf.cok
 have hTD : TabOK tabD := fun f af h => let ⟨_, _, hf, _⟩ := hD f af h; hf.cok
 have hCW : CallWF (call tab tabD orc k) := call_wf hTN hTD (fun f args v h => (hO f args v h).1) k
 have hd := call_sound hN hD hO k f args [] _ rf hrun ⟨W, K0, [], fun _ => False⟩ K0 St.blank #[] W vs rfl (sim_start hg) blank_wf (by rw [ha]; exact Nat.le_refl _) (argsOK_of hno) hr
 obtain ⟨af, haf⟩ := hf
 obtain ⟨fn, code, hfit, _⟩ := hN f af haf
 unfold Does at hd
 rw [hfit.call vs W] at hd
 refine hd.mono fun e W' ⟨K', h1, _, h3⟩ => ?_
 cases e with
 | returned v =>
   obtain ⟨av, e1, h4, _⟩ := h3
   cases e1
   simp only [Rep, RepD] at h4
   exact ⟨by rw [h4], ⟨h1.os, h1.tape, h1.output, h1.size, fun b hb => (h1.keep b hb (fun hf => hf)).1⟩⟩
 | panicked ch => obtain ⟨av, pv, e1, _⟩ := h3; cases e1
 | outgrown => exact h3.elim
end Go.Ab
namespace Go.Ab
def CLe (C C' : CallFn) : Prop := ∀ f a rf r, C f a rf = some r → C' f a rf = some r
theorem stepOp_mono {C C' : CallFn} (h : CLe C C') {s : St} {o : AOpk} {d : Did} (hs : stepOp C s o = some d) : stepOp C' s o = some d := by
 cases o with
 | call f args =>
   simp only [stepOp] at hs ⊢
   split at hs
   ·rename_i id first cap vs h1 h2
    split at hs <;> rename_i hc
    ·rw [h _ _ _ _ hc]; exact hs
    ·rw [h _ _ _ _ hc]; exact hs
    ·cases hs
   ·cases hs
 | callO f pre x post =>
   simp only [stepOp] at hs ⊢
   split at hs
   ·rename_i id first cap vs xv ws h1 h2 h3 h4
    split at hs <;> rename_i hc
    ·rw [h _ _ _ _ hc]; exact hs
    ·rw [h _ _ _ _ hc]; exact hs
    ·cases hs
   ·cases hs
 | callZ f args =>
   simp only [stepOp] at hs ⊢
   split at hs
   ·rename_i id first cap vs h1 h2
    split at hs
    ·rename_i hz
     split at hs <;> rename_i hc
     ·rw [if_pos hz, h _ _ _ _ hc]; exact hs
     ·cases hs
    ·cases hs
   ·cases hs
 | callQ f args =>
   simp only [stepOp] at hs ⊢
   split at hs
   ·rename_i id first cap vs h1 h2
    split at hs <;> rename_i hc
    ·rw [h _ _ _ _ hc]; exact hs
    ·cases hs
   ·cases hs
 | _ => exact hs
theorem runOps_mono {C C' : CallFn} (h : CLe C C') : ∀ {l : List AOp} {s : St} {r : Ex × St}, runOps C l s = some r → runOps C' l s = some r
 | [], s, r, hr => hr
 | o :: l, s, r, hr => by
   simp only [runOps] at hr ⊢
   split at hr
   ·cases hr
   ·rename_i hw; exact runOps_mono h hr
   ·rename_i hw
    split at hr <;> rename_i hs
    ·rw [stepOp_mono h hs]; exact runOps_mono h hr
    ·rw [stepOp_mono h hs]; exact runOps_mono h hr
    ·rw [stepOp_mono h hs]; exact hr
    ·cases hr
theorem runLoop_mono {b b' : St → Option (Ex × St)} {keep : List Nat} {n : Nat} (hb : ∀ s r, b s = some r → b' s = some r) : ∀ {k k' : Nat} {s : St} {r : Ex × St}, k ≤ k' → runLoop b keep n k s = some r → runLoop b' keep n k' s = some r
 | 0, _, _, _, _, h => by simp [runLoop] at h
 | k + 1, 0, _, _, hk, _ => by omega
 | k + 1, k' + 1, s, r, hk, h => by
   simp only [runLoop] at h ⊢
   split at h
   ·rename_i s1 h1
    rw [hb _ _ h1]
    exact runLoop_mono hb (by omega) h
   ·rename_i hn
    rw [hb _ _ h]
    split
    ·rename_i s1 e
     cases e
     exact absurd h (hn s1)
    ·rfl
theorem runD_mono {C C' : CallFn} (h : CLe C C') {l : List AOp} {nk pk : List Nat} {t : Nat} {s : St} : ∀ {ords : List (List Nat)} {y : Ex × St}, runD C l nk pk t s ords = some y → runD C' l nk pk t s ords = some y
 | [], y, hr => by simp [runD] at hr
 | [o], y, hr => by
   simp only [runD, Option.map_eq_some_iff] at hr ⊢
   obtain ⟨x, h1, h2⟩ := hr
   exact ⟨x, runOps_mono h h1, h2⟩
 | o :: o' :: r, y, hr => by
   simp only [runD] at hr ⊢
   split at hr
   ·rename_i x z hx hz
    rw [runOps_mono h hx, runD_mono h hz]
    exact hr
   ·cases hr
theorem run_mono {C C' : CallFn} (h : CLe C C') {k k' : Nat} (hk : k ≤ k') : ∀ {c : AC} {s : St} {r : Ex × St}, run C k c s = some r → run C' k' c s = some r
 | .skip, s, r, hr => hr
 | .ops l, s, r, hr => runOps_mono h hr
 | .opsD l ords nk pk t, s, r, hr => runD_mono h hr
 | .seq a b, s, r, hr => by
   simp only [run] at hr ⊢
   split at hr
   ·rename_i s1 h1
    rw [run_mono h hk h1]; exact run_mono h hk hr
   ·rename_i hn
    rw [run_mono h hk hr]
    split
    ·rename_i s1 e
     cases e
     exact absurd hr (hn s1)
    ·rfl
 | .cond c t e, s, r, hr => by
   simp only [run] at hr ⊢
   split at hr <;> rename_i hg
   ·exact run_mono h hk hr
   ·exact run_mono h hk hr
   ·cases hr
 | .block i b, s, r, hr => by
   simp only [run] at hr ⊢
   split at hr
   ·rename_i j s1 h1
    rw [run_mono h hk h1]; exact hr
   ·rename_i hn
    rw [run_mono h hk hr]
    split
    ·rename_i j s1 e
     cases e
     exact absurd hr (hn j s1)
    ·rfl
 | .loop keep b, s, r, hr => by
   simp only [run] at hr ⊢
   exact runLoop_mono (fun s r => run_mono h hk) hk hr
 | .exit i, s, r, hr => hr
 | .ret, s, r, hr => hr
 | .hole, s, r, hr => by simp [run] at hr
 | .goto l, s, r, hr => hr
 | .label, s, r, hr => hr
 | .scope l b c, s, r, hr => by
   simp only [run] at hr ⊢
   split at hr
   ·rename_i i s1 h1
    rw [run_mono h hk h1]
    simp only
    split at hr
    ·rename_i hi
     rw [if_pos hi]
     split at hr
     ·cases hr
     ·rename_i hn
      rw [run_mono h hk hr]
      split
      ·rename_i j s2 e
       cases e
       exact absurd hr (hn _ _)
      ·rfl
    ·cases hr
   ·rename_i hn
    rw [run_mono h hk hr]
    split
    ·rename_i j s1 e
     cases e
     exact absurd hr (hn j s1)
    ·rfl
 | .trim keep b, s, r, hr => by
   simp only [run] at hr ⊢
   split at hr
   ·rename_i s1 h1
    rw [run_mono h hk h1]; exact hr
   ·rename_i hn
    rw [run_mono h hk hr]
    split
    ·rename_i s1 e
     cases e
     exact absurd hr (hn s1)
    ·rfl
theorem callD_mono {tab : FuncId → Option AFn} {C C' : CallFn} (h : CLe C C') {k k' : Nat} (hk : k ≤ k') {f : FuncId} {a : List AV} {m : Option AV} {rf : Refs} {r} (hr : callD tab C k f a m rf = some r) : callD tab C' k' f a m rf = some r := by
 unfold callD at hr ⊢
 split at hr
 ·cases hr
 ·split at hr <;> rename_i h1
  ·rw [run_mono h hk h1]; exact hr
  ·rw [run_mono h hk h1]; exact hr
  ·rw [run_mono h hk h1]; exact hr
  ·cases hr
theorem leave_mono {CD CD'} (h : ∀ f a m rf r, CD f a m rf = some r → CD' f a m rf = some r) {af : AFn} {n : Nat} : ∀ {l : List (AV × List AV)} {m : Option AV} {s : St} {r}, leave CD af n l m s = some r → leave CD' af n l m s = some r
 | [], some v, s, r, hr => by simpa only [leave] using hr
 | [], none, s, r, hr => by simpa only [leave] using hr
 | (f, vs) :: l, m, s, r, hr => by
   cases f with
   | fn f first cap =>
     cases f with
     | func id =>
       simp only [leave] at hr ⊢
       split at hr <;> rename_i h1
       ·rw [h _ _ _ _ _ h1]; exact leave_mono h hr
       ·rw [h _ _ _ _ _ h1]; exact leave_mono h hr
       ·cases hr
     | _ => simp [leave] at hr
   | _ => simp [leave] at hr
theorem call_mono {tab tabD : FuncId → Option AFn} {orc : FuncId → List AV → Option AV} : ∀ (k : Nat), CLe (call tab tabD orc k) (call tab tabD orc (k + 1))
 | 0 => fun f a rf r hr => by simp [call] at hr
 | k + 1 => fun f a rf r hr => by
   have ih := call_mono (tab := tab) (tabD := tabD) (orc := orc) k
   rw [call] at hr ⊢
   split at hr
   ·exact hr
   ·rename_i hv
    split at hr
    ·cases hr
    ·rename_i af haf
     have hD : ∀ f a m rf r, callD tabD (call tab tabD orc k) k f a m rf = some r → callD tabD (call tab tabD orc (k + 1)) (k + 1) f a m rf = some r := fun f a m rf r h => callD_mono ih (Nat.le_succ k) h
     split at hr <;> rename_i h1
     ·rw [run_mono ih (Nat.le_succ k) h1]; exact leave_mono hD hr
     ·rw [run_mono ih (Nat.le_succ k) h1]; exact leave_mono hD hr
     ·rw [run_mono ih (Nat.le_succ k) h1]; exact leave_mono hD hr
     ·cases hr
theorem call_le {tab tabD : FuncId → Option AFn} {orc : FuncId → List AV → Option AV} {k k' : Nat} (hk : k ≤ k') : CLe (call tab tabD orc k) (call tab tabD orc k') := by
 induction hk with
 | refl => exact fun f a rf r h => h
 | step _ ih => exact fun f a rf r h => call_mono _ f a rf r (ih f a rf r h)
end Go.Ab
namespace Go.Ab
structure Mv where
 n : Nat
 N : Nat
 g : Nat → Nat
 mono : ∀ i j, i < j → j < n → g i < g j
 lt : ∀ i, i < n → g i < N
def Mv.to (m : Mv) (i : Nat) : Nat := if i < m.n then m.g i else m.N + (i - m.n)
theorem Mv.to_lt (m : Mv) {i j : Nat} (h : i < j) : m.to i < m.to j := by
 unfold Mv.to
 by_cases hj : j < m.n
 ·rw [if_pos (by omega), if_pos hj]; exact m.mono i j h hj
 ·rw [if_neg hj]
  by_cases hi : i < m.n
  ·rw [if_pos hi]; have := m.lt i hi; omega
  ·rw [if_neg hi]; omega
theorem Mv.to_lt_iff (m : Mv) {i j : Nat} : m.to i < m.to j ↔ i < j := by
 rcases Nat.lt_trichotomy i j with h | h | h
 ·exact ⟨fun _ => h, fun _ => m.to_lt h⟩
 ·subst h; simp
 ·have := m.to_lt h; omega
theorem Mv.to_inj (m : Mv) {i j : Nat} : m.to i = m.to j ↔ i = j := by
 rcases Nat.lt_trichotomy i j with h | h | h
 ·have := m.to_lt h; omega
 ·subst h; simp
 ·have := m.to_lt h; omega
theorem Mv.to_ge (m : Mv) {i : Nat} (h : m.n ≤ i) : m.to i = m.N + (i - m.n) := by
 unfold Mv.to; rw [if_neg (by omega)]
mutual
def AV.mv (m : Mv) : AV → AV
 | .ptr r off => .ptr (m.to r) off
 | .sref r off n => .sref (m.to r) off n
 | .mp r => .mp (m.to r)
 | .fn f a b => .fn f (AV.mvs m a) (AV.mvs m b)
 | .ifc t v => .ifc t (v.mv m)
 | .agg cs => .agg (AV.mvs m cs)
 | .tup vs => .tup (AV.mvs m vs)
 | .d x => .d x
 | .nil => .nil
 | .own es => .own es
 | .ept cs off => .ept cs off
def AV.mvs (m : Mv) : List AV → List AV
 | [] => []
 | v :: r => v.mv m :: AV.mvs m r
end
section
variable (m : Mv)
theorem mvs_map : ∀ l : List AV, AV.mvs m l = l.map (AV.mv m)
 | [] => rfl
 | v :: r => by simp [AV.mvs, mvs_map r]
theorem mvs_length (l : List AV) : (AV.mvs m l).length = l.length := by simp [mvs_map]
theorem mvs_append (a b : List AV) : AV.mvs m (a ++ b) = AV.mvs m a ++ AV.mvs m b := by simp [mvs_map]
theorem mvs_get (l : List AV) (i : Nat) : (AV.mvs m l)[i]? = (l[i]?).map (AV.mv m) := by simp [mvs_map]
theorem mvs_take (l : List AV) (i : Nat) : AV.mvs m (l.take i) = (AV.mvs m l).take i := by simp [mvs_map]
theorem mvs_drop (l : List AV) (i : Nat) : AV.mvs m (l.drop i) = (AV.mvs m l).drop i := by simp [mvs_map]
theorem mvs_set (l : List AV) (i : Nat) (v : AV) : AV.mvs m (l.set i v) = (AV.mvs m l).set i (v.mv m) := by simp [mvs_map, List.map_set]
mutual
theorem mv_strip : ∀ v : AV, (v.mv m).strip = v.strip.mv m
 | .mp r => rfl
 | .d x => rfl
 | .nil => rfl
 | .own es => rfl
 | .ptr r off => rfl
 | .ept cs off => rfl
 | .sref r off n => rfl
 | .fn f a b => rfl
 | .ifc t v => by simp only [AV.mv, AV.strip, mv_strip v]
 | .agg cs => by simp only [AV.mv, AV.strip, mvs_strips cs]
 | .tup vs => by simp only [AV.mv, AV.strip, mvs_strips vs]
theorem mvs_strips : ∀ l : List AV, AV.strips (AV.mvs m l) = AV.mvs m (AV.strips l)
 | [] => rfl
 | v :: r => by simp only [AV.mvs, AV.strips, mv_strip v, mvs_strips r]
end
mutual
theorem mv_bare : ∀ v : AV, (v.mv m).bare = v.bare.mv m
 | .mp r => rfl
 | .d x => rfl
 | .nil => rfl
 | .own es => rfl
 | .ptr r off => rfl
 | .ept cs off => rfl
 | .sref r off n => rfl
 | .fn f a b => rfl
 | .ifc t v => by simp only [AV.mv, AV.bare, mv_bare v]
 | .agg cs => by simp only [AV.mv, AV.bare, mvs_bares cs]
 | .tup vs => rfl
theorem mvs_bares : ∀ l : List AV, AV.bares (AV.mvs m l) = AV.mvs m (AV.bares l)
 | [] => rfl
 | v :: r => by simp only [AV.mvs, AV.bares, mv_bare v, mvs_bares r]
end
theorem mv_barg (v : AV) : (v.mv m).barg = v.barg.mv m := by
 cases v <;> first | rfl | exact mv_bare m _
theorem mvs_bargs : ∀ l : List AV, AV.bargs (AV.mvs m l) = AV.mvs m (AV.bargs l)
 | [] => rfl
 | v :: r => by simp only [AV.mvs, AV.bargs, mv_barg m v, mvs_bargs r]
theorem mv_toD (v : AV) : (v.mv m).toD = v.toD := by cases v <;> rfl
theorem mvs_toDs : ∀ l : List AV, toDs (AV.mvs m l) = toDs l
 | [] => rfl
 | v :: r => by simp only [AV.mvs, toDs, mv_toD, mvs_toDs r]
theorem mv_cells (v : AV) : (v.mv m).cells = AV.mvs m v.cells := by cases v <;> rfl
theorem mv_cellsO (v : AV) : (v.mv m).cellsO = AV.mvs m v.cellsO := by
 cases v <;> simp [AV.mv, AV.cellsO, AV.mvs, mvs_strips]
theorem mvs_isMp (l : List AV) : isMp (AV.mvs m l) = isMp l := by
 cases l with
 | nil => rfl
 | cons v r =>
   cases v <;> first | rfl | skip
   rename_i vs
   cases vs <;> rfl
theorem mv_solid (v : AV) : (v.mv m).solid = v.solid := by cases v <;> rfl
theorem mv_one (v : AV) : (v.mv m).one = v.one := by cases v <;> rfl
theorem mvs_allOne (l : List AV) : (AV.mvs m l).all AV.one = l.all AV.one := by
 induction l with
 | nil => rfl
 | cons v r ih => simp [AV.mvs, mv_one, ih]
theorem mv_list (v : AV) : (v.mv m).list? = v.list? := by cases v <;> rfl
theorem mv_elems (v : AV) : (v.mv m).elems? = v.elems? := by
 cases v with
 | d x => rfl
 | _ => rfl
def Mv.b (k : Nat) : Nat := match k with | 0 => 0 | k + 1 => m.to k + 1
theorem Mv.b_le {a b : Nat} : m.b a ≤ m.b b ↔ a ≤ b := by
 cases a with
 | zero => simp [Mv.b]
 | succ a =>
   cases b with
   | zero => simp [Mv.b]
   | succ b =>
     simp only [Mv.b, Nat.add_le_add_iff_right]
     have := m.to_lt_iff (i := b) (j := a)
     omega
theorem Mv.b_max (a b : Nat) : m.b (max a b) = max (m.b a) (m.b b) := by
 have h1 := m.b_le (a := a) (b := b)
 have h2 := m.b_le (a := b) (b := a)
 rcases Nat.le_total a b with h | h
 ·rw [Nat.max_eq_right h, Nat.max_eq_right (h1.2 h)]
 ·rw [Nat.max_eq_left h, Nat.max_eq_left (h2.2 h)]
theorem Mv.b_to {a r : Nat} : m.b a ≤ m.to r ↔ a ≤ r := by
 cases a with
 | zero => simp [Mv.b]
 | succ a =>
   simp only [Mv.b]
   have := m.to_lt_iff (i := a) (j := r)
   omega
theorem Mv.b_to1 {a r : Nat} : m.b a ≤ m.to r + 1 ↔ a ≤ r + 1 := m.b_le (a := a) (b := r + 1)
mutual
theorem mv_refB : ∀ v : AV, (v.mv m).refB = m.b v.refB
 | .mp r => rfl
 | .d x => rfl
 | .nil => rfl
 | .own es => rfl
 | .ptr r off => rfl
 | .ept cs off => rfl
 | .sref r off n => rfl
 | .fn f a b => by simp only [AV.mv, AV.refB, mvs_refBs a, mvs_refBs b, m.b_max]
 | .ifc t v => by simp only [AV.mv, AV.refB, mv_refB v]
 | .agg cs => by simp only [AV.mv, AV.refB, mvs_refBs cs]
 | .tup vs => by simp only [AV.mv, AV.refB, mvs_refBs vs]
theorem mvs_refBs : ∀ l : List AV, AV.refBs (AV.mvs m l) = m.b (AV.refBs l)
 | [] => rfl
 | v :: r => by simp only [AV.mvs, AV.refBs, mv_refB v, mvs_refBs r, m.b_max]
end
mutual
theorem mv_clean : ∀ {v : AV}, v.refB = 0 → v.mv m = v
 | .d x, _ => rfl
 | .nil, _ => rfl
 | .own es, _ => rfl
 | .ptr r off, h => by simp [AV.refB] at h
 | .ept cs off, _ => rfl
 | .sref r off n, h => by simp [AV.refB] at h
 | .mp r, h => by simp [AV.refB] at h
 | .fn f a b, h => by
   simp only [AV.refB] at h
   simp only [AV.mv]
   rw [mvs_clean (by omega), mvs_clean (by omega)]
 | .ifc t v, h => by simp only [AV.refB] at h; simp only [AV.mv]; rw [mv_clean h]
 | .agg cs, h => by simp only [AV.refB] at h; simp only [AV.mv]; rw [mvs_clean h]
 | .tup vs, h => by simp only [AV.refB] at h; simp only [AV.mv]; rw [mvs_clean h]
theorem mvs_clean : ∀ {l : List AV}, AV.refBs l = 0 → AV.mvs m l = l
 | [], _ => rfl
 | v :: r, h => by
   simp only [AV.refBs] at h
   simp only [AV.mvs]
   rw [mv_clean (by omega), mvs_clean (by omega)]
end
mutual
theorem D.same_refl : ∀ a : D, D.same a a = true
 | .int k n => by simp [D.same]
 | .bool a => by simp [D.same]
 | .str a => by simp [D.same]
 | .lst a => by simp [D.same, sameR_refl a]
 | .nilp => rfl
 | .nilI => rfl
 | .nilF => rfl
 | .nilM => rfl
theorem sameR_refl : ∀ a : List (List D), sameR a a = true
 | [] => rfl
 | a :: r => by simp [sameR, sameD_refl a, sameR_refl r]
theorem sameD_refl : ∀ a : List D, sameD a a = true
 | [] => rfl
 | a :: r => by simp [sameD, D.same_refl a, sameD_refl r]
end
mutual
theorem AV.same_refl : ∀ a : AV, AV.same a a = true
 | .d a => by simp [AV.same, D.same_refl]
 | .nil => rfl
 | .own a => by simp [AV.same, sameR_refl]
 | .ptr a b => by simp [AV.same]
 | .ept a b => by simp [AV.same, sameD_refl]
 | .sref a b c => by simp [AV.same]
 | .mp a => by simp [AV.same]
 | .fn a b c => by simp [AV.same, fnSame, sameV_refl b, sameV_refl c]
 | .ifc a b => by simp [AV.same, AV.same_refl b]
 | .agg a => by simp [AV.same, sameV_refl a]
 | .tup a => by simp [AV.same, sameV_refl a]
theorem sameV_refl : ∀ a : List AV, sameV a a = true
 | [] => rfl
 | a :: r => by simp [sameV, AV.same_refl a, sameV_refl r]
end
theorem sameRf_refl : ∀ a : Refs, sameRf a a = true
 | [] => rfl
 | a :: r => by simp [sameRf, sameV_refl a, sameRf_refl r]
def Slots.mv : Slots → Slots
 | [] => []
 | (k, v) :: r => (k, v.mv m) :: Slots.mv r
theorem mv_get : ∀ (s : Slots) (n : Nat), (s.mv m).get n = (s.get n).map (AV.mv m)
 | [], n => rfl
 | (k, v) :: r, n => by
   simp only [Slots.mv, Slots.get]
   split
   ·rfl
   ·exact mv_get r n
theorem mv_put (s : Slots) (n : Nat) (v : AV) : (s.put n v).mv m = (s.mv m).put n (v.mv m) := rfl
theorem mv_keep (s : Slots) : ∀ l : List Nat, (s.keep l).mv m = (s.mv m).keep l
 | [] => rfl
 | k :: ks => by
   simp only [Slots.keep, mv_get]
   cases s.get k with
   | none => simpa using mv_keep s ks
   | some v => simp [Slots.mv, mv_keep s ks]
theorem mv_vals : ∀ s : Slots, (s.mv m).map (·.2) = AV.mvs m (s.map (·.2))
 | [] => rfl
 | (k, v) :: r => by simp [Slots.mv, AV.mvs, mv_vals r]
structure Rl (B rf RF : Refs) : Prop where
 le : m.n ≤ rf.length
 len : RF.length = m.N + (rf.length - m.n)
 here : ∀ i, i < rf.length → RF[m.to i]? = (rf[i]?).map (AV.mvs m)
 there : ∀ j, j < m.N → (∀ i, i < m.n → m.g i ≠ j) → RF[j]? = B[j]?
variable {m} {B rf RF : Refs}
theorem Rl.to_len (h : Rl m B rf RF) : m.to rf.length = RF.length := by rw [m.to_ge h.le, h.len]
theorem Rl.get (h : Rl m B rf RF) {i : Nat} {cs : List AV} (hi : rf[i]? = some cs) : RF[m.to i]? = some (AV.mvs m cs) := by
 rw [h.here i (List.getElem?_eq_some_iff.1 hi).1, hi]; rfl
theorem Rl.lt_len (h : Rl m B rf RF) {i : Nat} (hi : i < rf.length) : m.to i < RF.length := by rw [← h.to_len]; exact m.to_lt hi
theorem Rl.push (h : Rl m B rf RF) (cs : List AV) : Rl m B (rf ++ [cs]) (RF ++ [AV.mvs m cs]) := by
 have hl := h.len; have hle := h.le; have ht := h.to_len
 refine ⟨by simp; omega, by simp; omega, fun i hi => ?_, fun j hj hn => ?_⟩
 ·simp only [List.length_append, List.length_cons, List.length_nil] at hi
  by_cases hi' : i < rf.length
  ·rw [List.getElem?_append_left (h.lt_len hi'), List.getElem?_append_left hi']; exact h.here i hi'
  ·have : i = rf.length := by omega
   subst this
   rw [ht]; simp
 ·rw [List.getElem?_append_left (by omega)]; exact h.there j hj hn
theorem Rl.set (h : Rl m B rf RF) {r : Nat} (hr : r < rf.length) (cs : List AV) : Rl m B (rf.set r cs) (RF.set (m.to r) (AV.mvs m cs)) := by
 refine ⟨by simpa using h.le, by simpa using h.len, fun i hi => ?_, fun j hj hn => ?_⟩
 ·simp only [List.length_set] at hi
  by_cases hir : r = i
  ·subst hir
   rw [List.getElem?_set_self (h.lt_len hi), List.getElem?_set_self hi]; rfl
  ·rw [List.getElem?_set_ne (fun e => hir (m.to_inj.1 e)), List.getElem?_set_ne hir]; exact h.here i hi
 ·rw [List.getElem?_set_ne]
  ·exact h.there j hj hn
  ·intro e
   by_cases hr' : r < m.n
   ·exact hn r hr' (by simpa [Mv.to, hr'] using e)
   ·rw [m.to_ge (by omega)] at e; omega
theorem Rl.take (h : Rl m B rf RF) {k : Nat} (hk : m.n ≤ k) : Rl m B (rf.take k) (RF.take (m.to k)) := by
 have hl := h.len
 have hle := h.le
 have ht := m.to_ge hk
 refine ⟨by rw [List.length_take]; omega, by rw [List.length_take, List.length_take]; omega, fun i hi => ?_, fun j hj hn => ?_⟩
 ·rw [List.length_take] at hi
  rw [List.getElem?_take_of_lt (m.to_lt (by omega)), List.getElem?_take_of_lt (by omega)]
  exact h.here i (by omega)
 ·rw [List.getElem?_take_of_lt (by omega)]; exact h.there j hj hn
theorem Rl.drop_take (h : Rl m B rf RF) {a k : Nat} (ha : m.n ≤ a) (hnk : m.n ≤ k) : (RF.take (m.to k)).drop (m.to a) = ((rf.take k).drop a).map (AV.mvs m) := by
 apply List.ext_getElem?
 intro i
 have hl := h.len
 have hle := h.le
 rw [List.getElem?_map, List.getElem?_drop, List.getElem?_drop, m.to_ge ha, m.to_ge hnk]
 by_cases hi : a + i < k
 ·rw [List.getElem?_take_of_lt (by omega), List.getElem?_take_of_lt (by omega)]
  by_cases hi' : a + i < rf.length
  ·rw [← h.here (a + i) (by omega), m.to_ge (by omega), show m.N + (a + i - m.n) = m.N + (a - m.n) + i by omega]
  ·rw [List.getElem?_eq_none (by omega), List.getElem?_eq_none (by omega)]; rfl
 ·rw [List.getElem?_take_eq_none (by omega), List.getElem?_take_eq_none (by omega)]; rfl
theorem Rl.uniq (h : Rl m B rf RF) {RF' : Refs} (h' : Rl m B rf RF') : RF' = RF := by
 apply List.ext_getElem?
 intro j
 by_cases hj : j < m.N
 ·by_cases he : ∃ i, i < m.n ∧ m.g i = j
  ·obtain ⟨i, hi, rfl⟩ := he
   have h1 := h.here i (by have := h.le; omega)
   have h2 := h'.here i (by have := h.le; omega)
   simp only [Mv.to, hi, if_true] at h1 h2
   rw [h1, h2]
  ·have hn : ∀ i, i < m.n → m.g i ≠ j := fun i hi e => he ⟨i, hi, e⟩
   rw [h.there j hj hn, h'.there j hj hn]
 ·by_cases hj' : j < RF.length
  ·have hl := h.len
   have h1 := h.here (m.n + (j - m.N)) (by omega)
   have h2 := h'.here (m.n + (j - m.N)) (by omega)
   rw [m.to_ge (by omega), show m.N + (m.n + (j - m.N) - m.n) = j by omega] at h1 h2
   rw [h1, h2]
  ·have l1 := h.len
   have l2 := h'.len
   rw [List.getElem?_eq_none (by omega), List.getElem?_eq_none (by omega)]
theorem Rl.cellsAt (h : Rl m B rf RF) {r off n : Nat} {cs : List AV} (hc : rf.cellsAt r off n = some cs) : RF.cellsAt (m.to r) off n = some (AV.mvs m cs) := by
 unfold Refs.cellsAt at hc ⊢
 split at hc
 ·rename_i ds hd
  rw [h.get hd]
  split at hc
  ·rename_i hle
   simp only [Option.some.injEq] at hc
   subst hc
   simp only [mvs_length, mvs_isMp]
   rw [if_pos hle]
   simp only [mvs_take, mvs_drop]
  ·cases hc
 ·cases hc
theorem Rl.loadAt (h : Rl m B rf RF) {agg : Option Nat} {p v : AV} (hc : loadAt rf agg p = some v) : loadAt RF agg (p.mv m) = some (v.mv m) := by
 cases p with
 | ptr r off =>
   cases agg with
   | some n =>
     simp only [Ab.loadAt, AV.mv, Option.map_eq_some_iff] at hc ⊢
     obtain ⟨cs, h1, rfl⟩ := hc
     exact ⟨_, h.cellsAt h1, rfl⟩
   | none =>
     simp only [Ab.loadAt, AV.mv] at hc ⊢
     split at hc
     ·rename_i cs hcs
      rw [h.get hcs]
      simp only [mvs_isMp]
      split at hc
      ·rename_i hmp
       rw [if_pos hmp]
       simp only [mvs_get, hc, Option.map_some]
      ·cases hc
     ·cases hc
 | ept cs off =>
   cases agg with
   | some n =>
     simp only [Ab.loadAt, AV.mv] at hc ⊢
     split at hc
     ·rename_i hle
      simp only [Option.some.injEq] at hc
      subst hc
      simp only [hle, if_true, AV.mv, mvs_map, List.map_map, Option.some.injEq, AV.agg.injEq]
      apply List.map_congr_left
      intro x _; rfl
     ·cases hc
   | none =>
     simp only [Ab.loadAt, AV.mv, Option.map_eq_some_iff] at hc ⊢
     obtain ⟨x, h1, rfl⟩ := hc
     exact ⟨x, h1, rfl⟩
 | _ => simp [Ab.loadAt] at hc
theorem mvs_setRange : ∀ (l cs : List AV) (off : Nat), AV.mvs m (setRange cs off l) = setRange (AV.mvs m cs) off (AV.mvs m l)
 | [], cs, off => rfl
 | v :: r, cs, off => by simp only [setRange, AV.mvs, mvs_setRange r, mvs_set]
theorem Rl.storeAt (h : Rl m B rf RF) {nb sz : Nat} {a v : AV} {rf' : Refs} (hs : storeAt rf nb sz a v = some rf') : ∃ RF', Rl m B rf' RF' ∧ storeAt RF (m.to nb) sz (a.mv m) (v.mv m) = some RF' := by
 cases a with
 | ptr r off =>
   simp only [Ab.storeAt, AV.mv] at hs ⊢
   split at hs
   ·cases hs
   ·rename_i hc
    split at hs
    ·rename_i cs hcs
     split at hs
     ·rename_i hle
      simp only [Option.some.injEq] at hs
      subst hs
      rw [mv_cellsO, mvs_length, mvs_allOne, if_neg hc, h.get hcs]
      refine ⟨_, h.set (List.getElem?_eq_some_iff.1 hcs).1 _, ?_⟩
      simp only [mvs_length, mvs_refBs, m.b_to1, mvs_setRange, mvs_isMp]
      rw [if_pos ⟨hle.1, hle.2.1, hle.2.2.imp id fun q => Nat.not_lt.1 fun q' => absurd (m.to_lt_iff.1 q') (by omega)⟩]
     ·cases hs
    ·cases hs
 | _ => simp [Ab.storeAt] at hs
end
end Go.Ab
namespace Go.Ab
def mvDf (m : Mv) (l : List (AV × List AV)) : List (AV × List AV) := l.map fun p => (p.1.mv m, AV.mvs m p.2)
def St.mv (m : Mv) (s : St) (RF : Refs) : St := ⟨s.sl.mv m, RF, mvDf m s.df, s.pn.map (Option.map (AV.mv m)), m.to s.nb⟩
def Did.mv (m : Mv) (RF : Refs) : Did → Did
 | .val v s => .val (v.mv m) (s.mv m RF)
 | .none_ s => .none_ (s.mv m RF)
 | .pan v s => .pan (v.mv m) (s.mv m RF)
def Out.mv (m : Mv) : Out → Out
 | .ret v => .ret (v.mv m)
 | .pan v => .pan (v.mv m)
def CallMv (m : Mv) (B : Refs) (C : CallFn) : Prop := ∀ f a rf RF o rf', Rl m B rf RF → C f a rf = some (o, rf') → ∃ RF', Rl m B rf' RF' ∧ C f (AV.mvs m a) RF = some (o.mv m, RF')
def CallB (_ : CallFn) : Prop := True
section
variable {m : Mv} {B : Refs} {C : CallFn} {s : St} {RF : Refs} {d : Did}
theorem rawO_mv {x : Opd} (hx : x.cok = true) {sl : Slots} : rawO (sl.mv m) x = (rawO sl x).map (AV.mv m) := by
 cases x with
 | t n => exact mv_get m sl n
 | c v => simp only [Opd.cok, beq_iff_eq] at hx; simp [rawO, mv_clean m hx]
 | f id => rfl
theorem getO_mv {x : Opd} (hx : x.cok = true) {sl : Slots} : getO (sl.mv m) x = (getO sl x).map (AV.mv m) := by
 simp only [getO, rawO_mv hx]
 cases rawO sl x with
 | none => rfl
 | some v => simp [mv_strip]
theorem getOs_mv {sl : Slots} : ∀ {l : List Opd}, l.all Opd.cok = true → getOs (sl.mv m) l = (getOs sl l).map (AV.mvs m)
 | [], _ => rfl
 | x :: r, h => by
   simp only [List.all_cons, Bool.and_eq_true] at h
   simp only [getOs, getO_mv h.1, getOs_mv h.2]
   cases getO sl x <;> cases getOs sl r <;> rfl
theorem unOwn_mv (x : Opd) : (unOwn s x).mv m RF = unOwn (s.mv m RF) x := by
 cases x with
 | t n =>
   simp only [unOwn]
   have := mv_get m s.sl n
   simp only [St.mv] at this ⊢
   rw [this]
   cases h : s.sl.get n with
   | none => rfl
   | some v => cases v <;> rfl
 | _ => rfl
theorem unOwn_rf' (x : Opd) : (unOwn s x).rf = s.rf := by
 cases x with
 | t n =>
   simp only [unOwn]
   cases s.sl.get n with
   | none => rfl
   | some v => cases v <;> rfl
 | _ => rfl
theorem fillA_mv {sl : Slots} : ∀ {parts : List (Nat × Nat × Opd)} {cs r : List AV}, partsCok parts = true → fillA sl cs parts = some r → fillA (sl.mv m) (AV.mvs m cs) parts = some (AV.mvs m r)
 | [], cs, r, _, h => by simp only [fillA, Option.some.injEq] at h; subst h; rfl
 | (off, size, x) :: ps, cs, r, hc, h => by
   simp only [partsCok, Bool.and_eq_true] at hc
   simp only [fillA, getO_mv hc.1] at h ⊢
   cases hx : getO sl x with
   | none => rw [hx] at h; cases h
   | some v =>
     rw [hx] at h
     simp only [Option.map_some, mv_cells, mvs_length, mv_solid] at h ⊢
     split at h
     ·rename_i hq
      rw [if_pos hq, ← mvs_setRange]
      exact fillA_mv hc.2 h
     ·cases h
theorem partA_mv {agg : Option Nat} {cs : List AV} {off : Nat} : partA agg (AV.mvs m cs) off = (partA agg cs off).map (AV.mv m) := by
 cases agg with
 | none => simp only [partA, mvs_get]
 | some n =>
   simp only [partA, mvs_length]
   split
   ·simp only [Option.map_some, AV.mv, mvs_take, mvs_drop]
   ·rfl
theorem asIdx_mv {sl : Slots} {x : Option Opd} (hx : optCok x = true) {k : Nat} : asIdx (sl.mv m) x k = asIdx sl x k := by
 cases x with
 | none => rfl
 | some x =>
   simp only [asIdx, getO_mv (show x.cok = true from hx)]
   cases getO sl x with
   | none => rfl
   | some v =>
     cases v with
     | d y => rfl
     | _ => rfl
theorem intBin_d {op : BinOp} {k : IntKind} {x y : Int} {v : AV} (h : intBin op k x y = some v) : v.mv m = v := by
 cases op <;> simp only [intBin] at h <;> first
  | (split at h <;> first | (cases h; done) | (cases h; rfl))
  | (cases h; rfl)
  | (cases h; done)
theorem strBin_d {op : BinOp} {x y : List UInt8} {v : AV} (h : strBin op x y = some v) : v.mv m = v := by
 cases op <;> simp only [strBin] at h <;> first
  | (split at h <;> first | (cases h; done) | (cases h; rfl))
  | (cases h; rfl)
  | (cases h; done)
theorem binA_mv {op : BinOp} {x y v : AV} (h : binA op x y = some v) : binA op (x.mv m) (y.mv m) = some (v.mv m) := by
 cases x with
 | d a =>
   cases y with
   | d b =>
     simp only [AV.mv]
     rw [h]
     congr 1
     symm
     cases a <;> cases b <;> simp only [binA] at h <;> first
      | (cases h; done)
      | exact strBin_d h
      | (split at h <;> first
        | (split at h <;> first | (cases h; done) | (cases h; rfl) | exact intBin_d h)
        | exact intBin_d h)
   | _ => simp [binA] at h
 | _ => cases y <;> simp [binA] at h
theorem unA_mv {op : UnOp} {x v : AV} (h : unA op x = some v) : unA op (x.mv m) = some (v.mv m) := by
 cases x with
 | d a =>
   simp only [AV.mv]
   rw [h]
   congr 1
   symm
   cases op <;> cases a <;> simp only [unA] at h <;> first | (cases h; done) | (cases h; rfl)
 | _ => cases op <;> simp [unA] at h
theorem eqCells_mv : ∀ (ks : List PK) (a b : List AV) {t : Bool}, eqCells ks a b = some t → eqCells ks (AV.mvs m a) (AV.mvs m b) = some t
 | [], a, b, t, h => by cases a <;> cases b <;> simp [eqCells] at h; subst h; rfl
 | k :: ks, a, b, t, h => by
   cases a with
   | nil => simp [eqCells] at h
   | cons x a =>
     cases b with
     | nil => cases x <;> simp [eqCells] at h
     | cons y b =>
       cases x <;> cases y <;> simp only [eqCells] at h <;> try (cases h; done)
       rename_i x y
       simp only [AV.mvs, AV.mv, eqCells]
       split at h
       ·rename_i hq
        rw [if_pos hq]
        simp only [Option.map_eq_some_iff] at h ⊢
        obtain ⟨u, h1, h2⟩ := h
        exact ⟨u, eqCells_mv ks a b h1, h2⟩
       ·cases h
theorem eqNilA_mv {k : Nat} {x : AV} : eqNilA k (x.mv m) = eqNilA k x := by
 cases x with
 | d a => rfl
 | _ => rcases k with _ | _ | _ | _ | k <;> rfl
theorem appendA_mv {sz : Nat} {x y v : AV} (h : appendA sz x y = some v) : appendA sz (x.mv m) (y.mv m) = some (v.mv m) := by
 simp only [appendA] at h ⊢
 rw [mv_elems]
 split at h
 ·cases h
 ·cases x with
  | nil =>
    simp only [AV.mv] at h ⊢
    rw [h]
    congr 1
    split at h
    ·split at h <;> (cases h; rfl)
    ·cases h
  | own es =>
    simp only [AV.mv] at h ⊢
    rw [h]
    congr 1
    split at h
    ·cases h; rfl
    ·cases h
  | _ => simp at h
theorem apartB_mv {sl : Slots} {r : Nat} : ∀ {l : List Opd}, l.all Opd.cok = true → apartB (sl.mv m) (m.to r) l = apartB sl r l
 | [], _ => rfl
 | x :: l, h => by
   simp only [List.all_cons, Bool.and_eq_true] at h
   simp only [apartB, getO_mv h.1, apartB_mv h.2]
   congr 1
   cases getO sl x with
   | none => rfl
   | some v =>
     cases v with
     | ptr q off =>
       show (m.to q != m.to r) = (q != r)
       rw [Bool.eq_iff_iff]
       simp [m.to_inj]
     | _ => rfl
theorem vl_mv {v v' : Option AV} (hR : Rl m B s.rf RF) (h : vl s v = some d) (hv : ∀ w, v = some w → v' = some (w.mv m)) : ∃ RF', Rl m B d.st.rf RF' ∧ vl (s.mv m RF) v' = some (d.mv m RF') := by
 simp only [vl, Option.map_eq_some_iff] at h
 obtain ⟨w, rfl, rfl⟩ := h
 exact ⟨RF, hR, by simp only [vl, hv w rfl, Option.map_some]; rfl⟩
theorem bares_mv {a b c : List AV} : AV.bares (AV.mvs m a ++ AV.mvs m b ++ AV.mvs m c) = AV.mvs m (AV.bares (a ++ b ++ c)) := by
 rw [← mvs_append, ← mvs_append, mvs_bares]
theorem bargs_mv {a b c : List AV} : AV.bargs (AV.mvs m a ++ AV.mvs m b ++ AV.mvs m c) = AV.mvs m (AV.bargs (a ++ b ++ c)) := by
 rw [← mvs_append, ← mvs_append, mvs_bargs]
theorem mv_flat (l : List D) : AV.mvs m (l.map .d) = l.map .d := by
 rw [mvs_map, List.map_map]; rfl
end
end Go.Ab
namespace Go.Ab
section
variable {m : Mv} {B : Refs} {C : CallFn} {s : St} {RF : Refs} {d : Did}
theorem getOm {x : Opd} (hx : x.cok = true) {v : AV} (h : getO s.sl x = some v) : getO (s.mv m RF).sl x = some (v.mv m) := by
 show getO (s.sl.mv m) x = _
 rw [getO_mv hx, h]; rfl
theorem rawOm {x : Opd} (hx : x.cok = true) {v : AV} (h : rawO s.sl x = some v) : rawO (s.mv m RF).sl x = some (v.mv m) := by
 show rawO (s.sl.mv m) x = _
 rw [rawO_mv hx, h]; rfl
theorem getOsm {l : List Opd} (hx : l.all Opd.cok = true) {v : List AV} (h : getOs s.sl l = some v) : getOs (s.mv m RF).sl l = some (AV.mvs m v) := by
 show getOs (s.sl.mv m) l = _
 rw [getOs_mv hx, h]; rfl
theorem asIdxm {x : Option Opd} (hx : optCok x = true) {k : Nat} : asIdx (s.mv m RF).sl x k = asIdx s.sl x k := asIdx_mv hx
theorem findK_mv {pk : PK} {x : D} : ∀ (l : List AV) (i : Nat), findK pk x (AV.mvs m l) i = (findK pk x l i).map (Option.map fun p => (p.1, p.2.mv m))
 | [], i => rfl
 | [y], i => by cases y <;> rfl
 | y :: v :: r, i => by
   cases y <;> try rfl
   simp only [AV.mvs, AV.mv, findK]
   split
   ·split
    ·rfl
    ·exact findK_mv r (i + 1)
   ·rfl
theorem refOk_mv {u : AV} {r nb : Nat} (h : u.refB ≤ r + 1 ∨ nb ≤ r) : (u.mv m).refB ≤ m.to r + 1 ∨ m.to nb ≤ m.to r := by
 rw [mv_refB, m.b_to1]
 exact h.imp id fun q => Nat.not_lt.1 fun q' => absurd (m.to_lt_iff.1 q') (by omega)
set_option maxHeartbeats 4000000 in
theorem stepOp_mv (hC : CallMv m B C) (hB : CallB C) {o : AOpk} (ho : o.cok = true) (hR : Rl m B s.rf RF) (h : stepOp C s o = some d) :
  ∃ RF', Rl m B d.st.rf RF' ∧ stepOp C (s.mv m RF) o = some (d.mv m RF') := by
 cases o <;> simp only [AOpk.cok, Bool.and_eq_true, beq_iff_eq] at ho <;> simp only [stepOp] at h ⊢
 case mov x => exact vl_mv hR h fun w hw => getOm ho hw
 case take t =>
  split at h
  ·rename_i v hv
   cases h
   refine ⟨RF, by simpa only [Did.st, unOwn_rf'] using hR, ?_⟩
   have : (s.mv m RF).sl.get t = some (v.mv m) := by show (s.sl.mv m).get t = _; rw [mv_get, hv]; rfl
   simp only [this, Did.mv, unOwn_mv]
  ·cases h
 case asg x =>
  split at h
  ·rename_i v hv
   cases h
   refine ⟨RF, by simpa only [Did.st, unOwn_rf'] using hR, ?_⟩
   simp only [rawOm ho hv, Did.mv, unOwn_mv]
  ·cases h
 case pick c a b =>
  split at h
  ·rename_i t ht
   rw [getOm ho.1.1 ht]
   simp only [AV.mv]
   refine vl_mv hR h fun w hw => ?_
   cases t with
   | true => exact getOm ho.1.2 hw
   | false => exact getOm ho.2 hw
  ·cases h
 case alloc cells =>
  cases h
  refine ⟨RF ++ [AV.mvs m cells], hR.push cells, ?_⟩
  simp only [Did.mv, AV.mv, hR.to_len, mvs_clean m ho, St.mv]
 case box x =>
  split at h
  ·rename_i v hv
   rw [getOm ho hv]
   simp only [mv_solid, mv_cells, mvs_isMp]
   split at h
   ·rename_i hsd
    cases h
    refine ⟨RF ++ [AV.mvs m v.cells], hR.push _, ?_⟩
    rw [if_pos hsd]
    simp only [Did.mv, AV.mv, hR.to_len, St.mv]
   ·cases h
  ·cases h
 case build zero parts =>
  refine vl_mv hR h fun w hw => ?_
  simp only [Option.map_eq_some_iff] at hw ⊢
  obtain ⟨cs, h1, rfl⟩ := hw
  have := fillA_mv (m := m) ho.2 h1
  rw [mvs_clean m ho.1] at this
  exact ⟨_, this, rfl⟩
 case mkls sz zero parts =>
  split at h
  ·rename_i cs h1
   have := fillA_mv (m := m) ho.2 h1
   rw [mvs_clean m ho.1] at this
   split at h
   ·rename_i ds h2
    split at h
    ·rename_i hq
     have e : fillA (s.mv m RF).sl zero parts = some (AV.mvs m cs) := this
     simp only [e, mvs_toDs, h2]
     rw [if_pos hq]
     exact vl_mv hR h fun w hw => by cases hw; rfl
    ·cases h
   ·cases h
  ·cases h
 case load agg a =>
  split at h
  ·rename_i p hp
   rw [getOm ho hp]
   refine vl_mv hR h fun w hw => ?_
   simp only [Option.map_eq_some_iff] at hw ⊢
   obtain ⟨v, h1, rfl⟩ := hw
   exact ⟨_, hR.loadAt h1, mv_strip m v⟩
  ·cases h
 case loadB agg a base =>
  split at h
  ·rename_i r off q x h1 h2
   rw [getOm ho.1 h1, getOm ho.2 h2]
   simp only [AV.mv]
   split at h
   ·rename_i hq
    subst hq
    rw [if_pos rfl]
    refine vl_mv hR h fun w hw => ?_
    simp only [Option.map_eq_some_iff] at hw ⊢
    obtain ⟨v, h1, rfl⟩ := hw
    exact ⟨_, hR.loadAt h1, mv_strip m v⟩
   ·cases h
  ·cases h
 case takeload a =>
  split at h
  ·rename_i r off h1
   rw [getOm ho h1]
   simp only [AV.mv]
   split at h
   ·rename_i v hv
    have e := hR.loadAt hv
    simp only [AV.mv] at e
    split at h
    ·rename_i cs hcs
     cases h
     have e2 : (s.mv m RF).rf = RF := rfl
     simp only [e2, e, hR.get hcs]
     refine ⟨_, hR.set (List.getElem?_eq_some_iff.1 hcs).1 _, ?_⟩
     simp only [Did.mv, St.mv, mvs_set, mv_strip]
    ·cases h
   ·cases h
  ·cases h
 case recheck => cases h
 case store sz a v =>
  split at h
  ·rename_i p x h1 h2
   rw [getOm ho.1 h1, rawOm ho.2 h2]
   split at h
   ·rename_i rf hrf
    cases h
    obtain ⟨RF', hR', e⟩ := hR.storeAt hrf
    have e2 : Ab.storeAt (s.mv m RF).rf (s.mv m RF).nb sz (p.mv m) (x.mv m) = some RF' := e
    simp only [e2]
    refine ⟨RF', by simpa only [Did.st, unOwn_rf'] using hR', ?_⟩
    simp only [Did.mv, unOwn_mv]; rfl
   ·cases h
  ·cases h
 case storeW sz a v ws =>
  split at h
  ·rename_i r off x h1 h2
   rw [getOm ho.1.1 h1, rawOm ho.1.2 h2]
   simp only [AV.mv]
   split at h
   ·rename_i hap
    have e0 : apartB (s.mv m RF).sl (m.to r) ws = true := by
     show apartB (s.sl.mv m) (m.to r) ws = true
     rw [apartB_mv ho.2]; exact hap
    rw [if_pos e0]
    split at h
    ·rename_i rf hrf
     cases h
     obtain ⟨RF', hR', e⟩ := hR.storeAt hrf
     have e2 : Ab.storeAt (s.mv m RF).rf (s.mv m RF).nb sz (.ptr (m.to r) off) (x.mv m) = some RF' := e
     simp only [e2]
     refine ⟨RF', by simpa only [Did.st, unOwn_rf'] using hR', ?_⟩
     simp only [Did.mv, unOwn_mv]; rfl
    ·cases h
   ·cases h
  ·cases h
 case nilchk x =>
  split at h
  ·rename_i r off h1
   rw [getOm ho h1]
   exact vl_mv hR h fun w hw => by cases hw; rfl
  ·rename_i cs off h1
   rw [getOm ho h1]
   exact vl_mv hR h fun w hw => by cases hw; rfl
  ·rename_i f a b h1
   rw [getOm ho h1]
   simp only [AV.mv]
   split at h
   ·exact vl_mv hR h fun w hw => by cases hw; rfl
   ·cases h
  ·cases h
 case bin op x y =>
  split at h
  ·rename_i a b h1 h2
   rw [getOm ho.1 h1, getOm ho.2 h2]
   exact vl_mv hR h fun w hw => binA_mv hw
  ·cases h
 case beq ne x y =>
  split at h
  ·rename_i a b h1 h2
   rw [getOm ho.1 h1, getOm ho.2 h2]
   exact vl_mv hR h fun w hw => by cases hw; rfl
  ·cases h
 case eqc ne ks x y =>
  split at h
  ·rename_i a b h1 h2
   rw [getOm ho.1 h1, getOm ho.2 h2]
   refine vl_mv hR h fun w hw => ?_
   simp only [Option.map_eq_some_iff] at hw ⊢
   obtain ⟨t, h3, rfl⟩ := hw
   exact ⟨t, eqCells_mv _ _ _ h3, rfl⟩
  ·cases h
 case eqnil nk ne x =>
  split at h
  ·rename_i a h1
   rw [getOm ho h1]
   refine vl_mv hR h fun w hw => ?_
   simp only [eqNilA_mv, hw]
   simp only [Option.map_eq_some_iff] at hw
   obtain ⟨t, h3, rfl⟩ := hw
   rfl
  ·cases h
 case un op x =>
  split at h
  ·rename_i a h1
   rw [getOm ho h1]
   exact vl_mv hR h fun w hw => unA_mv hw
  ·cases h
 case toInt k x =>
  split at h
  ·rename_i q n h1
   rw [getOm ho h1]
   exact vl_mv hR h fun w hw => by cases hw; rfl
  ·cases h
 case ident x =>
  split at h
  ·rename_i l h1
   rw [getOm ho h1]
   exact vl_mv hR h fun w hw => by cases hw; rfl
  ·cases h
 case same x =>
  split at h
  ·rename_i e es h1
   cases h
   rw [rawOm ho h1]
   refine ⟨RF, by simpa only [Did.st, unOwn_rf'] using hR, ?_⟩
   simp only [Did.mv, unOwn_mv, AV.mv]
  ·cases h
 case strBytes x =>
  split at h
  ·rename_i h1
   rw [getOm ho h1]
   exact vl_mv hR h fun w hw => by cases hw; rfl
  ·rename_i c l h1
   rw [getOm ho h1]
   exact vl_mv hR h fun w hw => by cases hw; rfl
  ·cases h
 case bytesStr x =>
  split at h
  ·rename_i v h1
   rw [getOm ho h1]
   simp only [mv_list]
   split at h
   ·refine vl_mv hR h fun w hw => ?_
    simp only [Option.map_eq_some_iff] at hw ⊢
    obtain ⟨l, h3, rfl⟩ := hw
    exact ⟨l, h3, rfl⟩
   ·cases h
  ·cases h
 case mkifc t x =>
  split at h
  ·rename_i v h1
   rw [getOm ho h1]
   exact vl_mv hR h fun w hw => by cases hw; rfl
  ·cases h
 case mkfn f first cap =>
  split at h
  ·rename_i a b h1 h2
   rw [getOsm ho.1 h1, getOsm ho.2 h2]
   exact vl_mv hR h fun w hw => by cases hw; rfl
  ·cases h
 case sliceS x lo hi =>
  split at h
  ·rename_i l h1
   rw [getOm ho.1.1 h1]
   simp only [AV.mv, asIdxm ho.1.2, asIdxm ho.2]
   split at h
   ·split at h
    ·rename_i hq
     rw [if_pos hq]
     exact vl_mv hR h fun w hw => by cases hw; rfl
    ·cases h
   ·cases h
  ·cases h
 case slice sz x lo hi =>
  split at h
  ·rename_i v h1
   rw [getOm ho.1.1 h1]
   simp only [mv_list, asIdxm ho.1.2, asIdxm ho.2]
   split at h
   ·split at h
    ·split at h
     ·rename_i hq
      rw [if_pos hq]
      exact vl_mv hR h fun w hw => by cases hw; rfl
     ·cases h
    ·cases h
   ·cases h
  ·cases h
 case slArr n x lo hi =>
  split at h
  ·rename_i r off h1
   rw [getOm ho.1.1 h1]
   simp only [AV.mv, asIdxm ho.1.2, asIdxm ho.2]
   split at h
   ·split at h
    ·rename_i hq
     rw [if_pos hq]
     exact vl_mv hR h fun w hw => by cases hw; rfl
    ·cases h
   ·cases h
  ·cases h
 case fldA off x =>
  split at h
  ·rename_i r o h1
   rw [getOm ho h1]
   exact vl_mv hR h fun w hw => by cases hw; rfl
  ·rename_i cs o h1
   rw [getOm ho h1]
   exact vl_mv hR h fun w hw => by cases hw; rfl
  ·cases h
 case fld off agg x =>
  split at h
  ·rename_i cs h1
   rw [getOm ho h1]
   refine vl_mv hR h fun w hw => ?_
   rw [partA_mv, hw]; rfl
  ·cases h
 case idxA arr sz x i =>
  split at h
  ·rename_i k n h1
   rw [getOm ho.2 h1]
   simp only [AV.mv]
   split at h
   ·cases h
   ·rename_i hn
    rw [if_neg hn]
    cases arr with
    | some mm =>
      cases hx : getO s.sl x with
      | none => rw [hx] at h; cases h
      | some v =>
        rw [hx] at h
        rw [getOm ho.1 hx]
        cases v <;> simp only [AV.mv] at h ⊢ <;> first
         | (cases h; done)
         | (split at h
            ·rename_i hq
             rw [if_pos hq]
             exact vl_mv hR h fun w hw => by cases hw; rfl
            ·cases h)
    | none =>
      cases hx : getO s.sl x with
      | none => rw [hx] at h; cases h
      | some v =>
        rw [hx] at h
        rw [getOm ho.1 hx]
        cases v <;> simp only [AV.mv] at h ⊢ <;> first
         | (cases h; done)
         | (split at h
            ·rename_i hq
             rw [if_pos hq]
             exact vl_mv hR h fun w hw => by cases hw; rfl
            ·cases h)
         | (split at h
            ·split at h
             ·split at h
              ·rename_i es h3 _ cs h4 hq
               simp only [h3, h4, hq, if_true]
               exact vl_mv hR h fun w hw => by cases hw; rfl
              ·cases h
             ·cases h
            ·cases h)
  ·cases h
 case idxS x i =>
  split at h
  ·rename_i l k n h1 h2
   rw [getOm ho.1 h1, getOm ho.2 h2]
   simp only [AV.mv]
   split at h
   ·cases h
   ·rename_i hn
    rw [if_neg hn]
    refine vl_mv hR h fun w hw => ?_
    simp only [Option.map_eq_some_iff] at hw ⊢
    obtain ⟨t, h3, rfl⟩ := hw
    exact ⟨t, h3, rfl⟩
  ·cases h
 case idxV n sz agg x i =>
  split at h
  ·rename_i cs k mm h1 h2
   rw [getOm ho.1 h1, getOm ho.2 h2]
   simp only [AV.mv]
   split at h
   ·cases h
   ·rename_i hn
    rw [if_neg hn]
    refine vl_mv hR h fun w hw => ?_
    rw [partA_mv, hw]; rfl
  ·cases h
 case assertT t zero x =>
  have hz : zero.mv m = zero := mv_clean m ho.2
  split at h
  ·rename_i t' v h1
   rw [getOm ho.1 h1]
   simp only [AV.mv]
   refine vl_mv hR h fun w hw => ?_
   cases hw
   split <;> simp [AV.mv, AV.mvs, hz]
  ·rename_i h1
   rw [getOm ho.1 h1]
   refine vl_mv hR h fun w hw => ?_
   cases hw
   simp [AV.mv, AV.mvs, hz]
  ·cases h
 case extr x i =>
  split at h
  ·rename_i vs h1
   rw [getOm ho h1]
   refine vl_mv hR h fun w hw => ?_
   rw [mvs_get, hw]; rfl
  ·cases h
 case call f args =>
  split at h
  ·rename_i id first cap vs h1 h2
   rw [getOm ho.1 h1, getOsm ho.2 h2]
   simp only [AV.mv, bargs_mv]
   split at h <;> rename_i hc
   ·obtain ⟨RF', hR', e⟩ := hC _ _ _ _ _ _ hR hc
    cases h
    have e2 : C id (AV.mvs m (AV.bargs (first ++ vs ++ cap))) (s.mv m RF).rf = _ := e
    rw [e2]
    exact ⟨RF', hR', rfl⟩
   ·obtain ⟨RF', hR', e⟩ := hC _ _ _ _ _ _ hR hc
    cases h
    have e2 : C id (AV.mvs m (AV.bargs (first ++ vs ++ cap))) (s.mv m RF).rf = _ := e
    rw [e2]
    exact ⟨RF', hR', rfl⟩
   ·cases h
  ·cases h
 case callZ f args =>
  split at h
  ·rename_i id first cap vs h1 h2
   rw [getOm ho.1 h1, getOsm ho.2 h2]
   simp only [AV.mv, bargs_mv]
   split at h
   ·rename_i hz
    rw [mvs_clean m hz, if_pos hz]
    split at h
    ·rename_i v rf hc
     split at h
     ·rename_i hvz
      cases h
      refine ⟨RF, hR, ?_⟩
      try rw [hc]
      simp only [Did.mv, mv_clean m hvz, if_pos hvz]
     ·cases h
    ·cases h
   ·cases h
  ·cases h
 case callQ f args =>
  split at h
  ·rename_i id first cap vs h1 h2
   rw [getOm ho.1 h1, getOsm ho.2 h2]
   simp only [AV.mv, bargs_mv]
   split at h
   ·rename_i v rf hc
    obtain ⟨RF', hR', e⟩ := hC _ _ _ _ _ _ hR hc
    split at h
    ·rename_i hq
     cases h
     have hrf := sameRf_eq _ _ hq
     subst hrf
     have e2 : C id (AV.mvs m (AV.bargs (first ++ vs ++ cap))) (s.mv m RF).rf = _ := e
     rw [e2]
     have e3 : RF' = RF := hR.uniq hR'
     subst e3
     have e4 : sameRf RF' (s.mv m RF').rf = true := sameRf_refl RF'
     simp only [Out.mv]
     rw [if_pos e4]
     exact ⟨RF', hR, rfl⟩
    ·cases h
   ·cases h
  ·cases h
 case lenS x =>
  split at h
  ·rename_i l h1
   rw [getOm ho h1]
   exact vl_mv hR h fun w hw => by cases hw; rfl
  ·cases h
 case len x =>
  split at h
  ·rename_i r o n h1
   rw [getOm ho h1]
   exact vl_mv hR h fun w hw => by cases hw; rfl
  ·rename_i v hne h1
   rw [getOm ho h1]
   cases v with
   | sref r o n => exact absurd rfl (hne r o n)
   | d x =>
     refine vl_mv hR h fun w hw => ?_
     simp only [AV.mv]
     rw [hw]
     simp only [Option.map_eq_some_iff] at hw
     obtain ⟨l, _, rfl⟩ := hw
     rfl
   | nil => exact vl_mv hR h fun w hw => by cases hw; rfl
   | own es => exact vl_mv hR h fun w hw => by cases hw; rfl
   | _ => simp [vl, AV.list?] at h
  ·cases h
 case lenArr n => exact vl_mv hR h fun w hw => by cases hw; rfl
 case append sz x y =>
  split at h
  ·rename_i a b h1 h2
   rw [rawOm ho.1 h1, getOm ho.2 h2]
   split at h
   ·rename_i r hr
    cases h
    simp only [appendA_mv hr]
    refine ⟨RF, by simpa only [Did.st, unOwn_rf'] using hR, ?_⟩
    simp only [Did.mv, unOwn_mv]
   ·cases h
  ·cases h
 case copy x y =>
  split at h
  ·rename_i r off n v h1 h2
   rw [getOm ho.1 h1, getOm ho.2 h2]
   simp only [AV.mv, mv_list]
   split at h
   ·rename_i es cs h3 h4
    have e2 : (s.mv m RF).rf = RF := rfl
    simp only [h3, e2, hR.get h4]
    split at h
    ·rename_i hq
     cases h
     simp only [mvs_length, mvs_isMp]
     rw [if_pos hq]
     refine ⟨_, hR.set (List.getElem?_eq_some_iff.1 h4).1 _, ?_⟩
     have e3 : ∀ l : List (List D), AV.mvs m (l.map fun e => AV.d (e.headD .nilp)) = l.map fun e => AV.d (e.headD .nilp) := fun l => by
      rw [mvs_map, List.map_map]; rfl
     simp only [Did.mv, St.mv, mvs_setRange, e3, AV.mv]
    ·cases h
   ·cases h
  ·cases h
 case min x y =>
  split at h
  ·rename_i k a k' b h1 h2
   rw [getOm ho.1 h1, getOm ho.2 h2]
   simp only [AV.mv]
   split at h
   ·rename_i hq
    rw [if_pos hq]
    exact vl_mv hR h fun w hw => by cases hw; rfl
   ·cases h
  ·cases h
 case max x y =>
  split at h
  ·rename_i k a k' b h1 h2
   rw [getOm ho.1 h1, getOm ho.2 h2]
   simp only [AV.mv]
   split at h
   ·rename_i hq
    rw [if_pos hq]
    exact vl_mv hR h fun w hw => by cases hw; rfl
   ·cases h
  ·cases h
 case recover =>
  split at h
  ·rename_i v hv
   cases h
   have : (s.mv m RF).pn = some (some (v.mv m)) := by simp only [St.mv, hv]; rfl
   rw [this]
   exact ⟨RF, hR, by simp only [Did.mv, mv_strip]; rfl⟩
  ·rename_i hv
   cases h
   have : (s.mv m RF).pn = some none := by simp only [St.mv, hv]; rfl
   rw [this]
   exact ⟨RF, hR, rfl⟩
  ·cases h
 case defer f args =>
  split at h
  ·rename_i id first cap vs h1 h2
   rw [getOm ho.1 h1, getOsm ho.2 h2]
   cases h
   refine ⟨RF, hR, ?_⟩
   simp only [AV.mv, Did.mv, St.mv, mvDf, List.map_cons, mvs_bares]
  ·cases h
 case panic x =>
  split at h
  ·rename_i t v h1
   rw [getOm ho h1]
   cases h
   exact ⟨RF, hR, rfl⟩
  ·cases h
 case stuck => cases h
 case makeMap =>
  cases h
  have hp := hR.push [.tup []]
  simp only [AV.mvs, AV.mv] at hp
  refine ⟨RF ++ [[AV.tup []]], hp, ?_⟩
  simp only [Did.mv, AV.mv, hR.to_len, St.mv]
 case lookup pk ok zero mm k =>
  have hz : zero.mv m = zero := mv_clean m ho.2
  split at h
  ·rename_i r x h1 h2
   rw [getOm ho.1.1 h1, getOm ho.1.2 h2]
   simp only [AV.mv]
   split at h
   ·rename_i hk
    rw [if_pos hk]
    split at h
    ·rename_i kvs hr
     have e2 : (s.mv m RF).rf = RF := rfl
     have e3 := hR.get hr
     simp only [AV.mvs, AV.mv] at e3
     simp only [e2, e3, findK_mv]
     split at h
     ·rename_i i v hf
      simp only [hf, Option.map_some]
      refine vl_mv hR h fun w hw => ?_
      cases hw
      cases ok <;> simp [AV.mv, AV.mvs, mv_strip]
     ·rename_i hf
      simp only [hf, Option.map_some, Option.map_none]
      refine vl_mv hR h fun w hw => ?_
      cases hw
      have hz2 : zero.strip.mv m = zero.strip := by rw [← mv_strip, hz]
      cases ok <;> simp [AV.mv, AV.mvs, hz2]
     ·cases h
    ·cases h
   ·cases h
  ·cases h
 case mapSet pk mm k v =>
  split at h
  ·rename_i r x u h1 h2 h3
   rw [getOm ho.1.1 h1, getOm ho.1.2 h2, getOm ho.2 h3]
   simp only [AV.mv]
   split at h
   ·rename_i hk
    rw [if_pos ⟨hk.1, refOk_mv hk.2⟩]
    split at h
    ·rename_i kvs hr
     have e2 : (s.mv m RF).rf = RF := rfl
     have e3 := hR.get hr
     simp only [AV.mvs, AV.mv] at e3
     simp only [e2, e3, findK_mv]
     split at h
     ·rename_i i v hf
      simp only [hf, Option.map_some]
      cases h
      refine ⟨_, hR.set (List.getElem?_eq_some_iff.1 hr).1 _, ?_⟩
      simp only [Did.mv, St.mv, AV.mvs, AV.mv, mvs_set]
     ·rename_i hf
      simp only [hf, Option.map_some, Option.map_none]
      cases h
      refine ⟨_, hR.set (List.getElem?_eq_some_iff.1 hr).1 _, ?_⟩
      simp only [Did.mv, St.mv, AV.mvs, AV.mv, mvs_append]
     ·cases h
    ·cases h
   ·cases h
  ·cases h
 case mapEntry pk zero mm k =>
  have hz : zero.mv m = zero := mv_clean m ho.2
  have hz2 : zero.strip.mv m = zero.strip := by rw [← mv_strip, hz]
  split at h
  ·rename_i r x h1 h2
   rw [getOm ho.1.1 h1, getOm ho.1.2 h2]
   simp only [AV.mv]
   split at h
   ·rename_i hk
    rw [if_pos hk]
    split at h
    ·rename_i kvs hr
     have e2 : (s.mv m RF).rf = RF := rfl
     have e3 := hR.get hr
     simp only [AV.mvs, AV.mv] at e3
     simp only [e2, e3, findK_mv]
     split at h
     ·rename_i i v hf
      simp only [hf, Option.map_some]
      cases h
      refine ⟨RF, hR, ?_⟩
      simp only [Did.mv, AV.mv, AV.mvs, mv_strip]
     ·rename_i hf
      simp only [hf, Option.map_some, Option.map_none]
      cases h
      refine ⟨_, hR.set (List.getElem?_eq_some_iff.1 hr).1 _, ?_⟩
      simp only [Did.mv, St.mv, AV.mvs, AV.mv, mvs_append, hz2, mvs_length]
     ·cases h
    ·cases h
   ·cases h
  ·cases h
 case entrySet mm st v =>
  split at h
  ·rename_i r kk n u h1 h2 h3
   rw [getOm ho.1.1 h1, getOm ho.1.2 h2, getOm ho.2 h3]
   simp only [AV.mv]
   split at h
   ·rename_i hk
    rw [if_pos ⟨hk.1, refOk_mv hk.2⟩]
    split at h
    ·rename_i kvs hr
     have e2 : (s.mv m RF).rf = RF := rfl
     have e3 := hR.get hr
     simp only [AV.mvs, AV.mv] at e3
     simp only [e2, e3, mvs_length]
     split at h
     ·rename_i hlt
      rw [if_pos hlt]
      cases h
      refine ⟨_, hR.set (List.getElem?_eq_some_iff.1 hr).1 _, ?_⟩
      simp only [Did.mv, St.mv, AV.mvs, AV.mv, mvs_set]
     ·cases h
    ·cases h
   ·cases h
  ·cases h
 case mkS cell n =>
  split at h
  ·rename_i k mm h1
   rw [getOm ho.1 h1]
   simp only [AV.mv]
   split at h
   ·rename_i hk
    rw [if_pos hk]
    cases h
    have e3 : AV.mvs m (List.replicate mm.toNat cell) = List.replicate mm.toNat cell := mvs_clean m (refBs_rep ho.2 _)
    have := hR.push (List.replicate mm.toNat cell)
    rw [e3] at this
    refine ⟨_, this, ?_⟩
    simp only [Did.mv, AV.mv, hR.to_len, St.mv]
   ·cases h
  ·cases h
 case callO f pre x post =>
  split at h
  ·rename_i id first cap vs xv ws h1 h2 h3 h4
   rw [getOm ho.1.1.1 h1, getOsm ho.1.1.2 h2, rawOm ho.1.2 h3, getOsm ho.2 h4]
   have hargs : AV.bargs (AV.mvs m first ++ AV.mvs m vs) ++ xv.mv m :: AV.bargs (AV.mvs m ws ++ AV.mvs m cap) = AV.mvs m (AV.bargs (first ++ vs) ++ xv :: AV.bargs (ws ++ cap)) := by
    rw [mvs_append]
    simp only [AV.mvs, ← mvs_append, mvs_bargs]
   simp only [AV.mv, hargs]
   split at h <;> rename_i hc
   ·obtain ⟨RF', hR', e1⟩ := hC _ _ _ _ _ _ hR hc
    cases h
    have e2 : C id (AV.mvs m (AV.bargs (first ++ vs) ++ xv :: AV.bargs (ws ++ cap))) (s.mv m RF).rf = _ := e1
    rw [e2]
    refine ⟨RF', by simpa only [Did.st, unOwn_rf'] using hR', ?_⟩
    simp only [Out.mv, Did.mv, unOwn_mv]; rfl
   ·obtain ⟨RF', hR', e1⟩ := hC _ _ _ _ _ _ hR hc
    cases h
    have e2 : C id (AV.mvs m (AV.bargs (first ++ vs) ++ xv :: AV.bargs (ws ++ cap))) (s.mv m RF).rf = _ := e1
    rw [e2]
    refine ⟨RF', by simpa only [Did.st, unOwn_rf'] using hR', ?_⟩
    simp only [Out.mv, Did.mv, unOwn_mv]; rfl
   ·cases h
  ·cases h
end
end Go.Ab
namespace Go.Ab
def Ex.mv (m : Mv) : Ex → Ex
 | .pan v => .pan (v.mv m)
 | .nrm => .nrm
 | .exit i => .exit i
 | .goto i => .goto i
 | .ret => .ret
section
variable {m : Mv} {B : Refs} {C : CallFn}
theorem vl_nb {s : St} {v : Option AV} {d : Did} (h : vl s v = some d) : d.st.nb = s.nb := by
 simp only [vl, Option.map_eq_some_iff] at h
 obtain ⟨w, _, rfl⟩ := h
 rfl
theorem unOwn_nb {s : St} (x : Opd) : (unOwn s x).nb = s.nb := by
 cases x with
 | t n =>
   simp only [unOwn]
   cases s.sl.get n with
   | none => rfl
   | some v => cases v <;> rfl
 | _ => rfl
theorem stepOp_nb {s : St} {o : AOpk} {d : Did} (h : stepOp C s o = some d) : d.st.nb = s.nb := by
 cases o <;> simp only [stepOp] at h
 all_goals first
  | exact vl_nb h
  | (repeat' first
    | exact vl_nb h
    | (cases h; done)
    | (simp only [Option.some.injEq] at h; subst h; simp only [Did.st, unOwn_nb]; done)
    | split at h)
theorem wantedA_mv {s : St} {RF : Refs} (g : Option (Nat × Bool)) : wantedA (s.mv m RF) g = wantedA s g := by
 rcases g with _ | ⟨t, b⟩
 ·rfl
 ·have := mv_get m s.sl t
  simp only [wantedA, St.mv, this]
  cases s.sl.get t with
  | none => rfl
  | some v =>
    cases v with
    | d x => cases x <;> rfl
    | tup vs => cases vs <;> rfl
    | _ => rfl
theorem putO_mv {s : St} {RF : Refs} (d : Option Nat) (v : AV) : putO (s.mv m RF) d (v.mv m) = (putO s d v).mv m RF := by
 cases d <;> rfl
theorem putO_rf2 (s : St) (dst : Option Nat) (v : AV) : (putO s dst v).rf = s.rf := by cases dst <;> rfl
theorem putO_nb (s : St) (dst : Option Nat) (v : AV) : (putO s dst v).nb = s.nb := by cases dst <;> rfl
theorem runOps_mv (hC : CallMv m B C) (hB : CallB C) : ∀ {l : List AOp} {s : St} {RF : Refs} {e : Ex} {s' : St}, opsCok l = true → Rl m B s.rf RF → runOps C l s = some (e, s') →
  ∃ RF', Rl m B s'.rf RF' ∧ s'.nb = s.nb ∧ runOps C l (s.mv m RF) = some (e.mv m, s'.mv m RF')
 | [], s, RF, e, s', _, hR, h => by
   simp only [runOps, Option.some.injEq, Prod.mk.injEq] at h
   obtain ⟨rfl, rfl⟩ := h
   exact ⟨RF, hR, rfl, rfl⟩
 | o :: l, s, RF, e, s', ho, hR, h => by
   simp only [opsCok, Bool.and_eq_true] at ho
   simp only [runOps, wantedA_mv] at h ⊢
   split at h
   ·cases h
   ·obtain ⟨RF', h1, h2, h3⟩ := runOps_mv hC hB ho.2 (show Rl m B (putO s o.dst (.tup [])).rf RF by rw [putO_rf2]; exact hR) h
    exact ⟨RF', h1, h2.trans (putO_nb _ _ _), by rw [← putO_mv] at h3; exact h3⟩
   ·split at h <;> rename_i hs
    ·obtain ⟨RF1, hR1, e1⟩ := stepOp_mv hC hB ho.1 hR hs
     rw [e1]
     simp only [Did.mv]
     obtain ⟨RF', h1, h2, h3⟩ := runOps_mv hC hB ho.2 (by rw [putO_rf2]; exact hR1) h
     exact ⟨RF', h1, h2.trans ((putO_nb _ _ _).trans (stepOp_nb hs)), by rw [putO_mv]; exact h3⟩
    ·obtain ⟨RF1, hR1, e1⟩ := stepOp_mv hC hB ho.1 hR hs
     rw [e1]
     simp only [Did.mv]
     obtain ⟨RF', h1, h2, h3⟩ := runOps_mv hC hB ho.2 hR1 h
     exact ⟨RF', h1, h2.trans (stepOp_nb hs), h3⟩
    ·obtain ⟨RF1, hR1, e1⟩ := stepOp_mv hC hB ho.1 hR hs
     rw [e1]
     simp only [Did.mv]
     split at h
     ·rename_i hm
      simp only [Option.some.injEq, Prod.mk.injEq] at h
      obtain ⟨rfl, rfl⟩ := h
      exact ⟨RF1, hR1, stepOp_nb hs, by rw [if_pos hm]; rfl⟩
     ·cases h
    ·cases h
theorem refsB_mv (m : Mv) : ∀ l : Refs, refsB (l.map (AV.mvs m)) = m.b (refsB l)
 | [] => rfl
 | c :: l => by simp only [List.map_cons, refsB, mvs_refBs, refsB_mv m l, m.b_max]
theorem dfB_mv (m : Mv) : ∀ l : List (AV × List AV), dfB (mvDf m l) = m.b (dfB l)
 | [] => rfl
 | (f, vs) :: l => by
   have := dfB_mv m l
   simp only [mvDf] at this
   simp only [mvDf, List.map_cons, dfB, mvs_refBs, mv_refB, this, m.b_max]
theorem trimLoop_mv {s : St} {RF : Refs} (hR : Rl m B s.rf RF) (hnb : m.n ≤ s.nb) (keep : List Nat) {k : Nat} (hk : m.n ≤ k) :
  ∃ RF', Rl m B (s.trimLoop keep k).rf RF' ∧ (s.trimLoop keep k).nb = s.nb ∧ (s.mv m RF).trimLoop keep (m.to k) = (s.trimLoop keep k).mv m RF' := by
 have e1 : AV.refBs (((s.sl.mv m).keep keep).map (·.2)) ≤ m.to k ↔ AV.refBs ((s.sl.keep keep).map (·.2)) ≤ k := by
  rw [← mv_keep, mv_vals, mvs_refBs, m.b_to]
 have e2 : refsB ((RF.take (m.to k)).drop (m.to s.nb)) ≤ m.to k ↔ refsB ((s.rf.take k).drop s.nb) ≤ k := by
  rw [hR.drop_take hnb hk, refsB_mv, m.b_to]
 have e3 : dfB (mvDf m s.df) ≤ m.to k ↔ dfB s.df ≤ k := by rw [dfB_mv, m.b_to]
 by_cases hc : AV.refBs ((s.sl.keep keep).map (·.2)) ≤ k ∧ refsB ((s.rf.take k).drop s.nb) ≤ k ∧ dfB s.df ≤ k
 ·have ht : s.trimLoop keep k = { s with sl := s.sl.keep keep, rf := s.rf.take k } := if_pos hc
  rw [ht]
  refine ⟨_, hR.take hk, rfl, (if_pos ⟨e1.2 hc.1, e2.2 hc.2.1, e3.2 hc.2.2⟩).trans ?_⟩
  simp only [St.mv, mv_keep]
 ·have ht : s.trimLoop keep k = { s with sl := s.sl.keep keep } := if_neg hc
  rw [ht]
  refine ⟨RF, hR, rfl, (if_neg (fun q => hc ⟨e1.1 q.1, e2.1 q.2.1, e3.1 q.2.2⟩)).trans ?_⟩
  simp only [St.mv, mv_keep]
theorem runLoop_mv {body : St → Option (Ex × St)} {keep : List Nat} {n0 : Nat} (hn : m.n ≤ n0)
  (hb : ∀ s RF e s', m.n ≤ s.nb → Rl m B s.rf RF → body s = some (e, s') → ∃ RF', Rl m B s'.rf RF' ∧ s'.nb = s.nb ∧ body (s.mv m RF) = some (e.mv m, s'.mv m RF')) :
  ∀ (k : Nat) (s : St) (RF : Refs) (e : Ex) (s' : St), m.n ≤ s.nb → Rl m B s.rf RF → runLoop body keep n0 k s = some (e, s') →
   ∃ RF', Rl m B s'.rf RF' ∧ s'.nb = s.nb ∧ runLoop body keep (m.to n0) k (s.mv m RF) = some (e.mv m, s'.mv m RF')
 | 0, s, RF, e, s', _, _, h => by simp [runLoop] at h
 | k + 1, s, RF, e, s', hnb, hR, h => by
   simp only [runLoop] at h ⊢
   split at h
   ·rename_i s1 h1
    obtain ⟨RF1, hR1, hn1, e1⟩ := hb _ _ _ _ hnb hR h1
    rw [e1]
    simp only [Ex.mv]
    obtain ⟨RF2, hR2, hn2, e2⟩ := trimLoop_mv hR1 (by omega) keep hn
    rw [e2]
    obtain ⟨RF3, hR3, hn3, e3⟩ := runLoop_mv hn hb k _ _ _ _ (by omega) hR2 h
    exact ⟨RF3, hR3, by omega, e3⟩
   ·rename_i hne
    obtain ⟨RF1, hR1, hn1, e1⟩ := hb _ _ _ _ hnb hR h
    rw [e1]
    refine ⟨RF1, hR1, hn1, ?_⟩
    cases e with
    | nrm => exact absurd h (hne s')
    | _ => rfl
theorem stripAt_mv {s : St} {RF : Refs} (hR : Rl m B s.rf RF) (t : Nat) : ∃ RF', Rl m B (stripAt s t).rf RF' ∧ (stripAt s t).nb = s.nb ∧ stripAt (s.mv m RF) t = (stripAt s t).mv m RF' := by
 have hg := mv_get m s.sl t
 unfold stripAt
 have h1 : (s.mv m RF).sl.get t = (s.sl.get t).map (AV.mv m) := hg
 have h2 : (s.mv m RF).rf = RF := rfl
 rw [h1, h2]
 cases hv : s.sl.get t with
 | none => exact ⟨RF, hR, rfl, rfl⟩
 | some v =>
   cases v <;> try exact ⟨RF, hR, rfl, rfl⟩
   rename_i r off
   simp only [Option.map_some, AV.mv]
   cases hr : s.rf[r]? with
   | none =>
     have : RF[m.to r]? = none := by
      have h3 : s.rf.length ≤ r := by simpa using hr
      rw [List.getElem?_eq_none_iff, ← hR.to_len]
      rcases Nat.lt_or_ge (m.to r) (m.to s.rf.length) with q | q
      ·have := (m.to_lt_iff).1 q; omega
      ·exact q
     rw [this]
     exact ⟨RF, hR, rfl, rfl⟩
   | some cs =>
     rw [hR.get hr]
     simp only [mvs_isMp]
     by_cases hm : isMp cs = true
     ·rw [if_pos hm, if_pos hm]
      exact ⟨RF, hR, rfl, rfl⟩
     ·rw [if_neg hm, if_neg hm]
      refine ⟨_, hR.set (List.getElem?_eq_some_iff.1 hr).1 (AV.strips cs), rfl, ?_⟩
      rw [mvs_strips]
      rfl
theorem normD_mv {nk pk : List Nat} {t : Nat} {e e' : Ex} {s s' : St} {RF : Refs} (h : normD nk pk t (e, s) = (e', s')) (hR : Rl m B s.rf RF) :
  ∃ RF', Rl m B s'.rf RF' ∧ s'.nb = s.nb ∧ normD nk pk t (e.mv m, s.mv m RF) = (e'.mv m, s'.mv m RF') := by
 cases e with
 | pan v =>
   simp only [normD, Prod.mk.injEq] at h
   obtain ⟨rfl, rfl⟩ := h
   obtain ⟨RF', h1, h2, h3⟩ := stripAt_mv (s := { s with sl := s.sl.keep pk }) hR t
   refine ⟨RF', h1, h2, ?_⟩
   simp only [Ex.mv, normD]
   rw [← h3]
   simp only [St.mv, mv_keep]
 | _ =>
   simp only [normD, Prod.mk.injEq] at h
   obtain ⟨rfl, rfl⟩ := h
   exact ⟨RF, hR, rfl, by simp only [Ex.mv, normD, St.mv, mv_keep]⟩
theorem sameES_refl {e : Ex} {s : St} (he : ∀ i, e ≠ .exit i) (hg : ∀ i, e ≠ .goto i) (hr : e ≠ .ret) : sameES (e, s) (e, s) = true := by
 have h1 : sameEx e e = true := by
  cases e with
  | nrm => rfl
  | pan v => exact AV.same_refl v
  | exit i => exact absurd rfl (he i)
  | goto i => exact absurd rfl (hg i)
  | ret => exact absurd rfl hr
 have h2 : ∀ l : Slots, sameSl l l = true := fun l => by induction l with
  | nil => rfl
  | cons p r ih => obtain ⟨i, a⟩ := p; simp [sameSl, AV.same_refl a, ih]
 have h3 : ∀ l : Refs, sameRf l l = true := fun l => by induction l with
  | nil => rfl
  | cons p r ih => simp [sameRf, sameV_refl p, ih]
 have h4 : ∀ l : List (AV × List AV), sameDf l l = true := fun l => by induction l with
  | nil => rfl
  | cons p r ih => obtain ⟨i, a⟩ := p; simp [sameDf, AV.same_refl i, sameV_refl a, ih]
 have h5 : ∀ p : Option (Option AV), samePn p p = true := fun p => by
  rcases p with _ | _ | a
  ·rfl
  ·rfl
  ·exact AV.same_refl a
 simp [sameES, h1, h2, h3, h4, h5]
theorem runOps_ex : ∀ {l : List AOp} {s : St} {e : Ex} {s' : St}, runOps C l s = some (e, s') → (∀ i, e ≠ .exit i) ∧ (∀ i, e ≠ .goto i) ∧ e ≠ .ret
 | [], s, e, s', h => by
   simp only [runOps, Option.some.injEq, Prod.mk.injEq] at h
   obtain ⟨rfl, rfl⟩ := h
   exact ⟨fun i => nofun, fun i => nofun, nofun⟩
 | o :: l, s, e, s', h => by
   simp only [runOps] at h
   split at h
   ·cases h
   ·exact runOps_ex h
   ·split at h
    ·exact runOps_ex h
    ·exact runOps_ex h
    ·split at h
     ·simp only [Option.some.injEq, Prod.mk.injEq] at h
      obtain ⟨rfl, rfl⟩ := h
      exact ⟨fun i => nofun, fun i => nofun, nofun⟩
     ·cases h
    ·cases h
theorem normD_ex {nk pk : List Nat} {t : Nat} {e e' : Ex} {s s' : St} (h : normD nk pk t (e, s) = (e', s')) : e' = e := by
 cases e <;> (simp only [normD, Prod.mk.injEq] at h; exact h.1.symm)
theorem runD_mv (hC : CallMv m B C) (hB : CallB C) {l : List AOp} {nk pk : List Nat} {t : Nat} {s : St} {RF : Refs} (hc : opsCok l = true) (hR : Rl m B s.rf RF) : ∀ {ords : List (List Nat)} {e : Ex} {s' : St}, runD C l nk pk t s ords = some (e, s') →
  ∃ RF', Rl m B s'.rf RF' ∧ s'.nb = s.nb ∧ runD C l nk pk t (s.mv m RF) ords = some (e.mv m, s'.mv m RF')
 | [], e, s', h => by simp [runD] at h
 | [o], e, s', h => by
   simp only [runD, Option.map_eq_some_iff] at h ⊢
   obtain ⟨⟨e1, s1⟩, h1, h2⟩ := h
   obtain ⟨RF1, h3, h4, h5⟩ := runOps_mv hC hB (opsCok_pick hc o) hR h1
   obtain ⟨RF2, h6, h7, h8⟩ := normD_mv h2 h3
   exact ⟨RF2, h6, by omega, _, h5, h8⟩
 | o :: o' :: r, e, s', h => by
   simp only [runD] at h ⊢
   split at h
   ·rename_i x y hx hy
    split at h
    ·rename_i hs
     simp only [Option.some.injEq] at h
     subst h
     have hs := sameES_eq hs
     obtain ⟨e1, s1⟩ := x
     obtain ⟨RF1, h3, h4, h5⟩ := runOps_mv hC hB (opsCok_pick hc o) hR hx
     obtain ⟨RF2, h6, h7, h8⟩ := normD_mv hs h3
     obtain ⟨RF3, h9, h10, h11⟩ := runD_mv hC hB hc hR hy
     rw [h5, h11]
     simp only [h8]
     have hRF := h6.uniq h9
     subst hRF
     have he := normD_ex hs
     subst he
     have hx := runOps_ex h5
     rw [if_pos (sameES_refl hx.1 hx.2.1 hx.2.2)]
     exact ⟨_, h6, h10, rfl⟩
    ·cases h
   ·cases h
theorem run_mv (hC : CallMv m B C) (hB : CallB C) (k : Nat) : ∀ (c : AC) (s : St) (RF : Refs) (e : Ex) (s' : St), c.cok = true → m.n ≤ s.nb → Rl m B s.rf RF → run C k c s = some (e, s') →
  ∃ RF', Rl m B s'.rf RF' ∧ s'.nb = s.nb ∧ run C k c (s.mv m RF) = some (e.mv m, s'.mv m RF') := by
 intro c
 induction c with
 | skip =>
   intro s RF e s' _ _ hR h
   simp only [run, Option.some.injEq, Prod.mk.injEq] at h
   obtain ⟨rfl, rfl⟩ := h
   exact ⟨RF, hR, rfl, rfl⟩
 | ops l =>
   intro s RF e s' hc _ hR h
   simp only [run] at h ⊢
   exact runOps_mv hC hB hc hR h
 | opsD l ords nk pk t =>
   intro s RF e s' hc _ hR h
   simp only [run] at h ⊢
   exact runD_mv hC hB hc hR h
 | seq a b iha ihb =>
   intro s RF e s' hc hnb hR h
   simp only [AC.cok, Bool.and_eq_true] at hc
   simp only [run] at h ⊢
   split at h
   ·rename_i s1 h1
    obtain ⟨RF1, hR1, hn1, e1⟩ := iha _ _ _ _ hc.1 hnb hR h1
    rw [e1]
    simp only [Ex.mv]
    obtain ⟨RF2, hR2, hn2, e2⟩ := ihb _ _ _ _ hc.2 (by omega) hR1 h
    exact ⟨RF2, hR2, by omega, e2⟩
   ·rename_i hne
    obtain ⟨RF1, hR1, hn1, e1⟩ := iha _ _ _ _ hc.1 hnb hR h
    rw [e1]
    refine ⟨RF1, hR1, hn1, ?_⟩
    cases e with
    | nrm => exact absurd h (hne s')
    | _ => rfl
 | cond c t f iht ihf =>
   intro s RF e s' hc hnb hR h
   simp only [AC.cok, Bool.and_eq_true] at hc
   simp only [run] at h ⊢
   split at h <;> rename_i hg
   ·rw [getOm hc.1.1 hg]; exact iht _ _ _ _ hc.1.2 hnb hR h
   ·rw [getOm hc.1.1 hg]; exact ihf _ _ _ _ hc.2 hnb hR h
   ·cases h
 | block i b ih =>
   intro s RF e s' hc hnb hR h
   simp only [AC.cok] at hc
   simp only [run] at h ⊢
   split at h
   ·rename_i j s1 h1
    obtain ⟨RF1, hR1, hn1, e1⟩ := ih _ _ _ _ hc hnb hR h1
    rw [e1]
    simp only [Ex.mv]
    split at h
    ·rename_i hj
     simp only [Option.some.injEq, Prod.mk.injEq] at h
     obtain ⟨rfl, rfl⟩ := h
     exact ⟨RF1, hR1, hn1, by rw [if_pos hj]; first | done | rfl⟩
    ·rename_i hj
     simp only [Option.some.injEq, Prod.mk.injEq] at h
     obtain ⟨rfl, rfl⟩ := h
     exact ⟨RF1, hR1, hn1, by rw [if_neg hj]; first | done | rfl⟩
   ·rename_i hne
    obtain ⟨RF1, hR1, hn1, e1⟩ := ih _ _ _ _ hc hnb hR h
    rw [e1]
    refine ⟨RF1, hR1, hn1, ?_⟩
    cases e with
    | exit j => exact absurd h (hne j s')
    | _ => rfl
 | loop keep b ih =>
   intro s RF e s' hc hnb hR h
   simp only [AC.cok] at hc
   simp only [run] at h ⊢
   obtain ⟨RF1, hR1, hn1, e1⟩ := trimLoop_mv hR hnb keep hR.le
   obtain ⟨RF2, hR2, hn2, e2⟩ := runLoop_mv (m := m) (B := B) hR.le (fun s RF e s' => ih s RF e s' hc) k _ _ _ _ (by omega) hR1 h
   refine ⟨RF2, hR2, by omega, ?_⟩
   have e3 : (s.mv m RF).rf.length = m.to s.rf.length := hR.to_len.symm
   rw [e3, e1, e2]
 | exit i =>
   intro s RF e s' _ _ hR h
   simp only [run, Option.some.injEq, Prod.mk.injEq] at h
   obtain ⟨rfl, rfl⟩ := h
   exact ⟨RF, hR, rfl, rfl⟩
 | ret =>
   intro s RF e s' _ _ hR h
   simp only [run, Option.some.injEq, Prod.mk.injEq] at h
   obtain ⟨rfl, rfl⟩ := h
   exact ⟨RF, hR, rfl, rfl⟩
 | trim keep b ih =>
   intro s RF e s' hc hnb hR h
   simp only [AC.cok] at hc
   simp only [run] at h ⊢
   split at h
   ·rename_i s1 h1
    obtain ⟨RF1, hR1, hn1, e1⟩ := ih _ _ _ _ hc hnb hR h1
    rw [e1]
    simp only [Option.some.injEq, Prod.mk.injEq] at h
    obtain ⟨rfl, rfl⟩ := h
    exact ⟨RF1, hR1, hn1, by simp only [Ex.mv, St.mv, mv_keep]⟩
   ·rename_i hne
    obtain ⟨RF1, hR1, hn1, e1⟩ := ih _ _ _ _ hc hnb hR h
    rw [e1]
    refine ⟨RF1, hR1, hn1, ?_⟩
    cases e with
    | nrm => exact absurd h (hne s')
    | _ => rfl
 | hole =>
   intro s RF e s' _ _ hR h
   simp [run] at h
 | label =>
   intro s RF e s' _ _ hR h
   simp only [run, Option.some.injEq, Prod.mk.injEq] at h
   obtain ⟨rfl, rfl⟩ := h
   exact ⟨RF, hR, rfl, rfl⟩
 | goto l =>
   intro s RF e s' _ _ hR h
   simp only [run, Option.some.injEq, Prod.mk.injEq] at h
   obtain ⟨rfl, rfl⟩ := h
   exact ⟨RF, hR, rfl, rfl⟩
 | scope l b r ihb ihr =>
   intro s RF e s' hc hnb hR h
   simp only [AC.cok, Bool.and_eq_true] at hc
   simp only [run] at h ⊢
   split at h
   ·rename_i i s1 h1
    obtain ⟨RF1, hR1, hn1, e1⟩ := ihb _ _ _ _ hc.1 hnb hR h1
    rw [e1]
    simp only [Ex.mv]
    split at h
    ·rename_i hi
     rw [if_pos hi]
     split at h
     ·cases h
     ·rename_i hne
      obtain ⟨RF2, hR2, hn2, e2⟩ := ihr _ _ _ _ hc.2 (by omega) hR1 h
      rw [e2]
      refine ⟨RF2, hR2, by omega, ?_⟩
      cases e with
      | goto j => exact absurd h (hne j s')
      | _ => rfl
    ·cases h
   ·rename_i hne
    obtain ⟨RF1, hR1, hn1, e1⟩ := ihb _ _ _ _ hc.1 hnb hR h
    rw [e1]
    refine ⟨RF1, hR1, hn1, ?_⟩
    cases e with
    | goto j => exact absurd h (hne j s')
    | _ => rfl
theorem enterS_mv : ∀ (args : List AV) (i : Nat), (enterS args i).mv m = enterS (AV.mvs m args) i
 | [], i => by simp [enterS, AV.mvs, Slots.mv]
 | v :: r, i => by simp only [enterS, AV.mvs, Slots.mv, enterS_mv r]
def CallDMv (m : Mv) (B : Refs) (CD : FuncId → List AV → Option AV → Refs → Option (Out × Option AV × Refs)) : Prop := ∀ f a p rf RF o p' rf', Rl m B rf RF → CD f a p rf = some (o, p', rf') →
 ∃ RF', Rl m B rf' RF' ∧ CD f (AV.mvs m a) (p.map (AV.mv m)) RF = some (o.mv m, p'.map (AV.mv m), RF')
theorem callD_mv {tab : FuncId → Option AFn} (ht : TabOK tab) (hC : CallMv m B C) (hB : CallB C) (k : Nat) : CallDMv m B (callD tab C k) := by
 intro f a p rf RF o p' rf' hR h
 unfold callD at h ⊢
 split at h
 ·cases h
 ·rename_i af haf
  have key : ∀ e s', run C k af.body { sl := enterS a 0, rf := rf, pn := some p, nb := rf.length } = some (e, s') →
    ∃ RF', Rl m B s'.rf RF' ∧ run C k af.body { sl := enterS (AV.mvs m a) 0, rf := RF, pn := some (p.map (AV.mv m)), nb := RF.length } = some (e.mv m, s'.mv m RF') := fun e s' h1 => by
   obtain ⟨RF1, hR1, _, e1⟩ := run_mv hC hB k _ _ RF _ _ (ht _ _ haf) (by exact hR.le) hR h1
   refine ⟨RF1, hR1, ?_⟩
   rw [← e1]
   simp only [St.mv, enterS_mv, hR.to_len]
   rfl
  have hg : ∀ s' : St, ∀ RF1, ((s'.mv m RF1).pn.getD none) = (s'.pn.getD none).map (AV.mv m) := fun s' RF1 => by
   simp only [St.mv]; cases s'.pn <;> rfl
  have hdf : ∀ s' : St, ∀ RF1, s'.df.isEmpty = true → (s'.mv m RF1).df.isEmpty = true := fun s' RF1 h => by
   simp only [St.mv, mvDf, List.isEmpty_iff, List.map_eq_nil_iff] at h ⊢; exact h
  split at h <;> rename_i h1
  ·obtain ⟨RF1, hR1, e1⟩ := key _ _ h1
   rw [e1]
   split at h
   ·rename_i hd
    simp only [Option.some.injEq, Prod.mk.injEq] at h
    obtain ⟨rfl, rfl, rfl⟩ := h
    have hd' := hdf _ RF1 hd
    refine ⟨_, hR1.take hR.le, ?_⟩
    simp only [Ex.mv]
    rw [if_pos hd', hg, hR.to_len]
    rfl
   ·cases h
  ·obtain ⟨RF1, hR1, e1⟩ := key _ _ h1
   rw [e1]
   split at h
   ·rename_i hd
    simp only [Option.some.injEq, Prod.mk.injEq] at h
    obtain ⟨rfl, rfl, rfl⟩ := h
    have hd' := hdf _ RF1 hd
    refine ⟨_, hR1.take hR.le, ?_⟩
    simp only [Ex.mv]
    rw [if_pos hd', hg, hR.to_len]
    rfl
   ·cases h
  ·obtain ⟨RF1, hR1, e1⟩ := key _ _ h1
   rw [e1]
   split at h
   ·rename_i hd
    simp only [Option.some.injEq, Prod.mk.injEq] at h
    obtain ⟨rfl, rfl, rfl⟩ := h
    have hd' := hdf _ RF1 hd.1
    refine ⟨_, hR1.take hR.le, ?_⟩
    simp only [Ex.mv]
    rw [if_pos ⟨hd', by rw [mv_refB, ← hR.to_len, m.b_to]; exact hd.2⟩, hg, hR.to_len, mv_bare]
    rfl
   ·cases h
  ·cases h
theorem resA_mv {s : St} {RF : Refs} (hR : Rl m B s.rf RF) {r : ResV} {v : AV} (h : resA s r = some v) : resA (s.mv m RF) r = some (v.mv m) := by
 cases r with
 | tmp t =>
   simp only [resA] at h ⊢
   show (s.sl.mv m).get t = _
   rw [mv_get, h]; rfl
 | cell a agg =>
   simp only [resA] at h ⊢
   have e : (s.mv m RF).sl.get a = (s.sl.get a).map (AV.mv m) := mv_get m s.sl a
   rw [e]
   split at h
   ·rename_i p hp
    rw [hp]
    exact hR.loadAt h
   ·cases h
theorem resAs_mv {s : St} {RF : Refs} (hR : Rl m B s.rf RF) : ∀ {l : List ResV} {vs : List AV}, resAs s l = some vs → resAs (s.mv m RF) l = some (AV.mvs m vs)
 | [], vs, h => by simp only [resAs, Option.some.injEq] at h; subst h; rfl
 | r :: l, vs, h => by
   simp only [resAs] at h ⊢
   split at h
   ·rename_i v us h1 h2
    cases h
    rw [resA_mv hR h1, resAs_mv hR h2]
    rfl
   ·cases h
theorem resOf0_mv {s : St} {RF : Refs} (hR : Rl m B s.rf RF) {l : List ResV} {v : AV} (h : resOf0 s l = some v) : resOf0 (s.mv m RF) l = some (v.mv m) := by
 simp only [resOf0] at h ⊢
 split at h
 ·rename_i u hu
  cases h
  rw [resAs_mv hR hu]
  simp [AV.mvs, mv_bare]
 ·rename_i vs hne hu
  cases h
  rw [resAs_mv hR hu]
  split
  ·rename_i w hw
   simp only [Option.some.injEq] at hw
   cases vs with
   | nil => cases hw
   | cons a r =>
     cases r with
     | nil => exact absurd rfl (hne a)
     | cons b r => simp [AV.mvs] at hw
  ·rename_i ws _ hw
   cases hw
   simp only [AV.mv, mvs_bares]
  ·rename_i hw; cases hw
 ·cases h
theorem resOf_mv {s : St} {RF : Refs} (hR : Rl m B s.rf RF) {keep : Bool} {l : List ResV} {v : AV} (h : resOf s keep l = some v) : resOf (s.mv m RF) keep l = some (v.mv m) := by
 unfold resOf at h ⊢
 split at h
 ·rename_i t
  exact (mv_get m s.sl t).trans (by rw [h]; rfl)
 ·exact resOf0_mv hR h
theorem leave_mv {CD} (hD : CallDMv m B CD) {af : AFn} {n0 : Nat} (hn : m.n ≤ n0) : ∀ {l : List (AV × List AV)} {p : Option AV} {s : St} {RF : Refs} {o : Out} {rf' : Refs}, Rl m B s.rf RF → leave CD af n0 l p s = some (o, rf') →
  ∃ RF', Rl m B rf' RF' ∧ leave CD af (m.to n0) (mvDf m l) (p.map (AV.mv m)) (s.mv m RF) = some (o.mv m, RF')
 | [], some v, s, RF, o, rf', hR, h => by
   simp only [leave, mvDf, List.map_nil, Option.map_some] at h ⊢
   split at h
   ·rename_i hv
    simp only [Option.some.injEq, Prod.mk.injEq] at h
    obtain ⟨rfl, rfl⟩ := h
    rw [mv_refB, if_pos (m.b_to.2 hv)]
    exact ⟨_, hR.take hn, by rw [mv_bare]; rfl⟩
   ·cases h
 | [], none, s, RF, o, rf', hR, h => by
   simp only [leave, mvDf, List.map_nil, Option.map_none] at h ⊢
   split at h
   ·rename_i v hv
    rw [resOf_mv hR hv]
    simp only
    split at h
    ·rename_i hb
     simp only [Option.some.injEq, Prod.mk.injEq] at h
     obtain ⟨rfl, rfl⟩ := h
     rw [mv_refB, if_pos (m.b_to.2 hb)]
     exact ⟨_, hR.take hn, rfl⟩
    ·rename_i hb
     simp only [Option.some.injEq, Prod.mk.injEq] at h
     obtain ⟨rfl, rfl⟩ := h
     rw [mv_refB, if_neg (fun q => hb (m.b_to.1 q))]
     exact ⟨_, hR, rfl⟩
   ·cases h
 | (f, vs) :: l, p, s, RF, o, rf', hR, h => by
   cases f <;> try (simp [leave] at h; done)
   rename_i fn first cap
   cases fn <;> try (simp [leave] at h; done)
   rename_i id
   simp only [leave, mvDf, List.map_cons, AV.mv, bargs_mv] at h ⊢
   split at h
   ·rename_i v p' rf1 hc
    obtain ⟨RF1, hR1, e1⟩ := hD _ _ _ _ _ _ _ _ hR hc
    have e2 : CD id (AV.mvs m (AV.bargs (first ++ vs ++ cap))) (p.map (AV.mv m)) (s.mv m RF).rf = _ := e1
    rw [e2]
    obtain ⟨RF2, hR2, e3⟩ := leave_mv hD hn (s := { s with rf := rf1 }) hR1 h
    exact ⟨RF2, hR2, e3⟩
   ·rename_i v p' rf1 hc
    obtain ⟨RF1, hR1, e1⟩ := hD _ _ _ _ _ _ _ _ hR hc
    have e2 : CD id (AV.mvs m (AV.bargs (first ++ vs ++ cap))) (p.map (AV.mv m)) (s.mv m RF).rf = _ := e1
    rw [e2]
    obtain ⟨RF2, hR2, e3⟩ := leave_mv hD hn (s := { s with rf := rf1 }) hR1 h
    exact ⟨RF2, hR2, e3⟩
   ·cases h
def OrcPlain (orc : FuncId → List AV → Option AV) : Prop := ∀ f a v, orc f a = some v → v.refB = 0 ∧ AV.refBs a = 0
theorem call_mv {m : Mv} {B : Refs} {tab tabD : FuncId → Option AFn} {orc : FuncId → List AV → Option AV} (ht : TabOK tab) (htD : TabOK tabD) (ho : OrcPlain orc) : ∀ k, CallMv m B (call tab tabD orc k)
 | 0 => fun f a rf RF o rf' _ h => by simp [call] at h
 | k + 1 => fun f a rf RF o rf' hR h => by
   have hC := call_mv (m := m) (B := B) ht htD ho k
   have hB : CallB (call tab tabD orc k) := trivial
   simp only [call] at h ⊢
   split at h
   ·rename_i v hv
    simp only [Option.some.injEq, Prod.mk.injEq] at h
    obtain ⟨rfl, rfl⟩ := h
    have := ho _ _ _ hv
    rw [mvs_clean m this.2, hv]
    exact ⟨RF, hR, by simp only [Out.mv, mv_clean m this.1]⟩
   ·rename_i hv
    have hv' : orc f (AV.mvs m a) = none := by
     cases hq : orc f (AV.mvs m a) with
     | none => rfl
     | some w =>
       have h0 := (ho _ _ _ hq).2
       rw [mvs_refBs] at h0
       have h1 : AV.refBs a = 0 := by
        have := (m.b_le (a := AV.refBs a) (b := 0)).1 (by rw [h0]; exact Nat.zero_le _)
        omega
       rw [mvs_clean m h1, hv] at hq
       cases hq
    rw [hv']
    simp only
    split at h
    ·cases h
    ·rename_i af haf
     have key : ∀ e s', run (call tab tabD orc k) k af.body { sl := enterS a 0, rf := rf, nb := rf.length } = some (e, s') →
       ∃ RF', Rl m B s'.rf RF' ∧ run (call tab tabD orc k) k af.body { sl := enterS (AV.mvs m a) 0, rf := RF, nb := RF.length } = some (e.mv m, s'.mv m RF') := fun e s' h1 => by
      obtain ⟨RF1, hR1, _, e1⟩ := run_mv hC hB k _ _ RF _ _ (ht _ _ haf) (by exact hR.le) hR h1
      refine ⟨RF1, hR1, ?_⟩
      rw [← e1]
      simp only [St.mv, enterS_mv, hR.to_len]
      rfl
     have hDm := callD_mv (m := m) (B := B) htD hC hB k
     split at h <;> rename_i h1
     ·obtain ⟨RF1, hR1, e1⟩ := key _ _ h1
      rw [e1]
      obtain ⟨RF2, hR2, e2⟩ := leave_mv hDm hR.le hR1 h
      rw [hR.to_len] at e2
      exact ⟨RF2, hR2, e2⟩
     ·obtain ⟨RF1, hR1, e1⟩ := key _ _ h1
      rw [e1]
      obtain ⟨RF2, hR2, e2⟩ := leave_mv hDm hR.le hR1 h
      rw [hR.to_len] at e2
      exact ⟨RF2, hR2, e2⟩
     ·obtain ⟨RF1, hR1, e1⟩ := key _ _ h1
      rw [e1]
      obtain ⟨RF2, hR2, e2⟩ := leave_mv hDm hR.le hR1 h
      rw [hR.to_len] at e2
      exact ⟨RF2, hR2, e2⟩
     ·cases h
end
end Go.Ab
namespace Go.Ab
structure Tb where
 tab : FuncId → Option AFn
 tabD : FuncId → Option AFn
 orc : FuncId → List AV → Option AV
abbrev Tb.C (T : Tb) (k : Nat) : CallFn := call T.tab T.tabD T.orc k
inductive Ev (T : Tb) (f : FuncId) (args : List AV) (rf : Refs) (o : Out) (rf' : Refs) : Prop
 | mk (k : Nat) (h : T.C k f args rf = some (o, rf'))
def exN (N : St → Prop) (X : Ex → St → Prop) : Ex → St → Prop
 | .nrm, s => N s
 | e, s => X e s
inductive WP (T : Tb) (c : AC) (s : St) (N : St → Prop) (X : Ex → St → Prop) : Prop
 | mk (k : Nat) (e : Ex) (s' : St) (h : run (T.C k) k c s = some (e, s')) (h' : exN N X e s')
inductive OP (T : Tb) (l : List AOp) (s : St) (N : St → Prop) (X : Ex → St → Prop) : Prop
 | mk (k : Nat) (e : Ex) (s' : St) (h : runOps (T.C k) l s = some (e, s')) (h' : exN N X e s')
inductive LP (T : Tb) (keep : List Nat) (n : Nat) (b : AC) (s : St) (X : Ex → St → Prop) : Prop
 | mk (k : Nat) (e : Ex) (s' : St) (h : runLoop (run (T.C k) k b) keep n k s = some (e, s')) (h' : X e s')
section
variable {T : Tb} {s : St} {N : St → Prop} {X : Ex → St → Prop}
theorem WP.mono {c : AC} {N' : St → Prop} {X' : Ex → St → Prop} (h : WP T c s N X) (hN : ∀ s, N s → N' s) (hX : ∀ e s, X e s → X' e s) : WP T c s N' X' := by
 obtain ⟨k, e, s', h1, h2⟩ := h
 refine ⟨k, e, s', h1, ?_⟩
 cases e <;> first | exact hN _ h2 | exact hX _ _ h2
theorem OP.mono {l : List AOp} {N' : St → Prop} {X' : Ex → St → Prop} (h : OP T l s N X) (hN : ∀ s, N s → N' s) (hX : ∀ e s, X e s → X' e s) : OP T l s N' X' := by
 obtain ⟨k, e, s', h1, h2⟩ := h
 refine ⟨k, e, s', h1, ?_⟩
 cases e <;> first | exact hN _ h2 | exact hX _ _ h2
theorem Tb.le {k k' : Nat} {f : FuncId} {a : List AV} {rf : Refs} {r} (h : T.C k f a rf = some r) (hk : k ≤ k') : T.C k' f a rf = some r := call_le hk _ _ _ _ h
theorem runK {c : AC} {s : St} {r} {k k' : Nat} (h : run (T.C k) k c s = some r) (hk : k ≤ k') : run (T.C k') k' c s = some r := run_mono (call_le hk) hk h
theorem wp_skip (h : N s) : WP T .skip s N X := ⟨0, .nrm, s, rfl, h⟩
theorem wp_exit {i : Nat} (h : X (.exit i) s) : WP T (.exit i) s N X := ⟨0, .exit i, s, rfl, h⟩
theorem wp_ret (h : X .ret s) : WP T .ret s N X := ⟨0, .ret, s, rfl, h⟩
theorem wp_ops {l : List AOp} (h : OP T l s N X) : WP T (.ops l) s N X := by
 obtain ⟨k, e, s', h1, h2⟩ := h
 exact ⟨k, e, s', h1, h2⟩
theorem wp_seq {a b : AC} (h : WP T a s (fun s' => WP T b s' N X) X) : WP T (.seq a b) s N X := by
 obtain ⟨k, e, s', h1, h2⟩ := h
 cases e with
 | nrm =>
   obtain ⟨k', e', s'', h3, h4⟩ := h2
   refine ⟨max k k', e', s'', ?_, h4⟩
   simp only [run]
   rw [runK h1 (Nat.le_max_left _ _)]
   exact runK h3 (Nat.le_max_right _ _)
 | goto i => exact ⟨k, .goto i, s', by simp only [run]; rw [h1], h2⟩
 | exit i => exact ⟨k, .exit i, s', by simp only [run]; rw [h1], h2⟩
 | ret => exact ⟨k, .ret, s', by simp only [run]; rw [h1], h2⟩
 | pan v => exact ⟨k, .pan v, s', by simp only [run]; rw [h1], h2⟩
theorem wp_cond {c : Opd} {t e : AC} {b : Bool} (hc : getO s.sl c = some (.d (.bool b))) (h1 : b = true → WP T t s N X) (h2 : b = false → WP T e s N X) : WP T (.cond c t e) s N X := by
 cases b with
 | true =>
   obtain ⟨k, ex, s', h3, h4⟩ := h1 rfl
   exact ⟨k, ex, s', by simp only [run, hc]; exact h3, h4⟩
 | false =>
   obtain ⟨k, ex, s', h3, h4⟩ := h2 rfl
   exact ⟨k, ex, s', by simp only [run, hc]; exact h3, h4⟩
theorem wp_if {c : Opd} {t e : AC} {p : Prop} [Decidable p] (hc : getO s.sl c = some (.d (.bool (decide p)))) (h1 : p → WP T t s N X) (h2 : ¬ p → WP T e s N X) : WP T (.cond c t e) s N X :=
 wp_cond hc (fun h => h1 (of_decide_eq_true h)) (fun h => h2 (of_decide_eq_false h))
inductive BlockX (i : Nat) (N : St → Prop) (X : Ex → St → Prop) (e : Ex) (s : St) : Prop
 | mk (h : match e with | .exit j => if j = i then N s else X (.exit j) s | e => X e s)
theorem bx_here {i : Nat} (h : N s) : BlockX i N X (.exit i) s := ⟨by simpa using h⟩
theorem bx_exit {i j : Nat} (hj : (j == i) = false) (h : X (.exit j) s) : BlockX i N X (.exit j) s := ⟨by
 have : j ≠ i := by simpa using hj
 simpa [this] using h⟩
theorem bx_ret {i : Nat} (h : X .ret s) : BlockX i N X .ret s := ⟨h⟩
theorem bx_goto {i j : Nat} (h : X (.goto j) s) : BlockX i N X (.goto j) s := ⟨h⟩
theorem bx_pan {i : Nat} {v : AV} (h : X (.pan v) s) : BlockX i N X (.pan v) s := ⟨h⟩
theorem wp_block {i : Nat} {b : AC} (h : WP T b s N (BlockX i N X)) : WP T (.block i b) s N X := by
 obtain ⟨k, e, s', h1, h2⟩ := h
 cases e with
 | nrm => exact ⟨k, .nrm, s', by simp only [run]; rw [h1], h2⟩
 | exit j =>
   obtain ⟨h2⟩ := h2
   simp only at h2
   by_cases hj : j = i
   ·rw [if_pos hj] at h2
    exact ⟨k, .nrm, s', by simp only [run]; rw [h1]; simp only; rw [if_pos hj], h2⟩
   ·rw [if_neg hj] at h2
    exact ⟨k, .exit j, s', by simp only [run]; rw [h1]; simp only; rw [if_neg hj], h2⟩
 | goto i => exact ⟨k, .goto i, s', by simp only [run]; rw [h1], h2.1⟩
 | ret => exact ⟨k, .ret, s', by simp only [run]; rw [h1], h2.1⟩
 | pan v => exact ⟨k, .pan v, s', by simp only [run]; rw [h1], h2.1⟩
inductive ScopeX (l : Nat) (J : St → Prop) (X : Ex → St → Prop) (e : Ex) (s : St) : Prop
 | mk (h : match e with | .goto i => i = l ∧ J s | e => X e s)
theorem sx_goto {l : Nat} {J : St → Prop} (h : J s) : ScopeX l J X (.goto l) s := ⟨rfl, h⟩
theorem sx_exit {l i : Nat} {J : St → Prop} (h : X (.exit i) s) : ScopeX l J X (.exit i) s := ⟨h⟩
theorem sx_ret {l : Nat} {J : St → Prop} (h : X .ret s) : ScopeX l J X .ret s := ⟨h⟩
theorem sx_pan {l : Nat} {J : St → Prop} {v : AV} (h : X (.pan v) s) : ScopeX l J X (.pan v) s := ⟨h⟩
theorem wp_label' (h : N s) : WP T .label s N X := ⟨0, .nrm, s, rfl, h⟩
theorem wp_goto' {i : Nat} (h : X (.goto i) s) : WP T (.goto i) s N X := ⟨0, .goto i, s, rfl, h⟩
theorem wp_scope {l : Nat} {b r : AC} (h : WP T b s N (ScopeX l (fun s' => WP T r s' N (ScopeX l (fun _ => False) X)) X)) : WP T (.scope l b r) s N X := by
 obtain ⟨k, e, s', h1, h2⟩ := h
 cases e with
 | nrm => exact ⟨k, .nrm, s', by simp only [run]; rw [h1], h2⟩
 | exit i => exact ⟨k, .exit i, s', by simp only [run]; rw [h1], h2.1⟩
 | ret => exact ⟨k, .ret, s', by simp only [run]; rw [h1], h2.1⟩
 | pan v => exact ⟨k, .pan v, s', by simp only [run]; rw [h1], h2.1⟩
 | goto i =>
   obtain ⟨rfl, k', e', s'', h3, h4⟩ := h2.1
   cases e' with
   | goto j => exact absurd h4.1.2 id
   | nrm => exact ⟨max k k', .nrm, s'', by simp only [run]; rw [runK h1 (Nat.le_max_left _ _)]; simp only [if_true]; rw [runK h3 (Nat.le_max_right _ _)], h4⟩
   | exit j => exact ⟨max k k', .exit j, s'', by simp only [run]; rw [runK h1 (Nat.le_max_left _ _)]; simp only [if_true]; rw [runK h3 (Nat.le_max_right _ _)], h4.1⟩
   | ret => exact ⟨max k k', .ret, s'', by simp only [run]; rw [runK h1 (Nat.le_max_left _ _)]; simp only [if_true]; rw [runK h3 (Nat.le_max_right _ _)], h4.1⟩
   | pan v => exact ⟨max k k', .pan v, s'', by simp only [run]; rw [runK h1 (Nat.le_max_left _ _)]; simp only [if_true]; rw [runK h3 (Nat.le_max_right _ _)], h4.1⟩
theorem wp_trim {keep : List Nat} {b : AC} (h : WP T b s (fun s' => N { s' with sl := s'.sl.keep keep }) X) : WP T (.trim keep b) s N X := by
 obtain ⟨k, e, s', h1, h2⟩ := h
 cases e with
 | nrm => exact ⟨k, .nrm, _, by simp only [run]; rw [h1], h2⟩
 | goto i => exact ⟨k, .goto i, s', by simp only [run]; rw [h1], h2⟩
 | exit i => exact ⟨k, .exit i, s', by simp only [run]; rw [h1], h2⟩
 | ret => exact ⟨k, .ret, s', by simp only [run]; rw [h1], h2⟩
 | pan v => exact ⟨k, .pan v, s', by simp only [run]; rw [h1], h2⟩
theorem LP.step {keep : List Nat} {n : Nat} {b : AC} (h : WP T b s (fun s' => LP T keep n b (s'.trimLoop keep n) X) X) : LP T keep n b s X := by
 obtain ⟨k, e, s', h1, h2⟩ := h
 cases e with
 | nrm =>
   obtain ⟨k', e', s'', h3, h4⟩ := h2
   refine ⟨max k k' + 1, e', s'', ?_, h4⟩
   simp only [runLoop]
   rw [runK h1 (by omega)]
   exact runLoop_mono (fun s r => fun h => runK h (by omega)) (by omega) h3
 | exit i => exact ⟨k + 1, _, s', by simp only [runLoop]; rw [runK h1 (by omega)], h2⟩
 | goto i => exact ⟨k + 1, _, s', by simp only [runLoop]; rw [runK h1 (by omega)], h2⟩
 | ret => exact ⟨k + 1, _, s', by simp only [runLoop]; rw [runK h1 (by omega)], h2⟩
 | pan v => exact ⟨k + 1, _, s', by simp only [runLoop]; rw [runK h1 (by omega)], h2⟩
theorem wp_loop0 {keep : List Nat} {b : AC} (h : LP T keep s.rf.length b (s.trimLoop keep s.rf.length) (exN N X)) : WP T (.loop keep b) s N X := by
 obtain ⟨k, e, s', h1, h2⟩ := h
 exact ⟨k, e, s', h1, h2⟩
theorem trimLoop_same {s : St} {keep : List Nat} {n : Nat} (h : s.rf.length = n) : s.trimLoop keep n = { s with sl := s.sl.keep keep } := by
 unfold St.trimLoop
 simp only
 split
 ·rw [List.take_of_length_le (by omega)]
 ·rfl
theorem wp_loop {keep : List Nat} {b : AC} (Inv : Nat → St → Prop) {m : Nat} (h0 : Inv m { s with sl := s.sl.keep keep })
  (hstep : ∀ m s', Inv m s' → s'.rf.length = s.rf.length → WP T b s' (fun s'' => s''.rf.length = s.rf.length ∧ ∃ m', m' < m ∧ Inv m' { s'' with sl := s''.sl.keep keep }) (fun e s'' => match e with | .nrm => False | e => X e s'')) :
  WP T (.loop keep b) s N X := by
 refine wp_loop0 ?_
 rw [trimLoop_same rfl]
 have key : ∀ m s', Inv m s' → s'.rf.length = s.rf.length → LP T keep s.rf.length b s' (exN N X) := by
  intro m
  induction m using Nat.strongRecOn with
  | _ m ih =>
    intro s' h hl
    refine LP.step ((hstep m s' h hl).mono (fun s'' h2 => ?_) (fun e s'' h2 => ?_))
    ·obtain ⟨h3, m', h4, h5⟩ := h2
     rw [trimLoop_same h3]
     exact ih m' h4 _ h5 h3
    ·cases e <;> first | exact h2.elim | exact h2
 exact key m _ h0 rfl
/-! operations -/
def C0 : CallFn := fun _ _ _ => none
theorem C0_le (C : CallFn) : CLe C0 C := fun f a rf r h => by simp [C0] at h
theorem op_nil (h : N s) : OP T [] s N X := ⟨0, .nrm, s, rfl, h⟩
theorem op_val {d : Option Nat} {o : AOpk} {g : Option (Nat × Bool)} {may : Bool} {r : List AOp} {v : AV} {s' : St} (hg : wantedA s g = some true) (hs : stepOp C0 s o = some (.val v s')) (h : OP T r (putO s' d v) N X) :
  OP T (⟨d, o, g, may⟩ :: r) s N X := by
 obtain ⟨k, e, s', h1, h2⟩ := h
 refine ⟨k, e, s', ?_, h2⟩
 simp only [runOps, hg]
 rw [stepOp_mono (C0_le _) hs]
 exact h1
theorem op_none {d : Option Nat} {o : AOpk} {g : Option (Nat × Bool)} {may : Bool} {r : List AOp} {s' : St} (hg : wantedA s g = some true) (hs : stepOp C0 s o = some (.none_ s')) (h : OP T r s' N X) :
  OP T (⟨d, o, g, may⟩ :: r) s N X := by
 obtain ⟨k, e, s', h1, h2⟩ := h
 refine ⟨k, e, s', ?_, h2⟩
 simp only [runOps, hg]
 rw [stepOp_mono (C0_le _) hs]
 exact h1
theorem op_pan {d : Option Nat} {o : AOpk} {g : Option (Nat × Bool)} {r : List AOp} {v : AV} {s' : St} (hg : wantedA s g = some true) (hs : stepOp C0 s o = some (.pan v s')) (h : X (.pan v) s') :
  OP T (⟨d, o, g, true⟩ :: r) s N X := by
 refine ⟨0, .pan v, s', ?_, h⟩
 simp only [runOps, hg]
 rw [stepOp_mono (C0_le _) hs]
 rfl
theorem op_off {d : Option Nat} {o : AOpk} {g : Option (Nat × Bool)} {may : Bool} {r : List AOp} (hg : wantedA s g = some false) (h : OP T r (putO s d (.tup [])) N X) :
  OP T (⟨d, o, g, may⟩ :: r) s N X := by
 obtain ⟨k, e, s', h1, h2⟩ := h
 exact ⟨k, e, s', by simp only [runOps, hg]; exact h1, h2⟩
theorem opsK {l : List AOp} {s : St} {r} {k k' : Nat} (h : runOps (T.C k) l s = some r) (hk : k ≤ k') : runOps (T.C k') l s = some r := runOps_mono (call_le hk) h
theorem op_call {d : Option Nat} {f : Opd} {aa : List Opd} {g : Option (Nat × Bool)} {may : Bool} {r : List AOp} {id : FuncId} {first cap vs : List AV} {v : AV} {rf' : Refs} (hg : wantedA s g = some true)
  (hf : getO s.sl f = some (.fn (.func id) first cap)) (ha : getOs s.sl aa = some vs) (he : Ev T id (AV.bargs (first ++ vs ++ cap)) s.rf (.ret v) rf') (h : OP T r (putO { s with rf := rf' } d v) N X) :
  OP T (⟨d, .call f aa, g, may⟩ :: r) s N X := by
 obtain ⟨k, e, s', h1, h2⟩ := h
 obtain ⟨k', h3⟩ := he
 refine ⟨max k k', e, s', ?_, h2⟩
 simp only [runOps, hg, stepOp, hf, ha]
 rw [Tb.le h3 (Nat.le_max_right k k')]
 exact opsK h1 (Nat.le_max_left _ _)
theorem op_callp {d : Option Nat} {f : Opd} {aa : List Opd} {g : Option (Nat × Bool)} {r : List AOp} {id : FuncId} {first cap vs : List AV} {v : AV} {rf' : Refs} (hg : wantedA s g = some true)
  (hf : getO s.sl f = some (.fn (.func id) first cap)) (ha : getOs s.sl aa = some vs) (he : Ev T id (AV.bargs (first ++ vs ++ cap)) s.rf (.pan v) rf') (h : X (.pan v) { s with rf := rf' }) :
  OP T (⟨d, .call f aa, g, true⟩ :: r) s N X := by
 obtain ⟨k', h3⟩ := he
 refine ⟨k', .pan v, { s with rf := rf' }, ?_, h⟩
 simp only [runOps, hg, stepOp, hf, ha]
 rw [h3]
 rfl
theorem op_callZ {d : Option Nat} {f : Opd} {aa : List Opd} {g : Option (Nat × Bool)} {may : Bool} {r : List AOp} {id : FuncId} {first cap vs : List AV} {v : AV} {rf' : Refs} (hg : wantedA s g = some true)
  (hf : getO s.sl f = some (.fn (.func id) first cap)) (ha : getOs s.sl aa = some vs) (hz : AV.refBs (AV.bargs (first ++ vs ++ cap)) = 0) (he : Ev T id (AV.bargs (first ++ vs ++ cap)) [] (.ret v) rf') (hvz : v.refB = 0) (h : OP T r (putO s d v) N X) :
  OP T (⟨d, .callZ f aa, g, may⟩ :: r) s N X := by
 obtain ⟨k, e, s', h1, h2⟩ := h
 obtain ⟨k', h3⟩ := he
 refine ⟨max k k', e, s', ?_, h2⟩
 simp only [runOps, hg, stepOp, hf, ha]
 rw [if_pos hz, Tb.le h3 (Nat.le_max_right k k')]
 simp only [if_pos hvz]
 exact opsK h1 (Nat.le_max_left _ _)
theorem op_callQ {d : Option Nat} {f : Opd} {aa : List Opd} {g : Option (Nat × Bool)} {may : Bool} {r : List AOp} {id : FuncId} {first cap vs : List AV} {v : AV} {rf' : Refs} (hg : wantedA s g = some true)
  (hf : getO s.sl f = some (.fn (.func id) first cap)) (ha : getOs s.sl aa = some vs) (he : Ev T id (AV.bargs (first ++ vs ++ cap)) s.rf (.ret v) rf') (hz : sameRf rf' s.rf = true) (h : OP T r (putO s d v) N X) :
  OP T (⟨d, .callQ f aa, g, may⟩ :: r) s N X := by
 obtain ⟨k, e, s', h1, h2⟩ := h
 obtain ⟨k', h3⟩ := he
 refine ⟨max k k', e, s', ?_, h2⟩
 simp only [runOps, hg, stepOp, hf, ha]
 rw [Tb.le h3 (Nat.le_max_right k k')]
 simp only [hz, if_true]
 exact opsK h1 (Nat.le_max_left _ _)
/-! calls -/
inductive EndX (af : AFn) (n : Nat) (o : Out) (rf' : Refs) : Ex → St → Prop
 | nrm {s : St} {v : AV} (hd : s.df = []) (hv : resOf s af.keep af.res = some v) (hb : v.refB ≤ n) (ho : o = .ret v) (hr : rf' = s.rf.take n) : EndX af n o rf' .nrm s
 | ret {s : St} {v : AV} (hd : s.df = []) (hv : resOf s af.keep af.res = some v) (hb : v.refB ≤ n) (ho : o = .ret v) (hr : rf' = s.rf.take n) : EndX af n o rf' .ret s
 | pan {s : St} {v : AV} (hd : s.df = []) (hb : v.refB ≤ n) (ho : o = .pan v.bare) (hr : rf' = s.rf.take n) : EndX af n o rf' (.pan v) s
theorem ev_call {f : FuncId} {args : List AV} {rf : Refs} {o : Out} {rf' : Refs} {af : AFn} (ho : T.orc f args = none) (hf : T.tab f = some af)
  (h : WP T af.body { sl := enterS args 0, rf := rf, nb := rf.length } (EndX af rf.length o rf' .nrm) (EndX af rf.length o rf')) : Ev T f args rf o rf' := by
 obtain ⟨k, e, s', h1, h2⟩ := h
 refine ⟨k + 1, ?_⟩
 simp only [Tb.C, call, ho, hf]
 rw [h1]
 cases e with
 | nrm =>
   cases h2 with | nrm h3 h4 h5 h6 h7 => subst h6 h7; simp only [h3, leave, h4]; rw [if_pos h5]
 | ret =>
   cases h2 with | ret h3 h4 h5 h6 h7 => subst h6 h7; simp only [h3, leave, h4]; rw [if_pos h5]
 | pan v =>
   cases h2 with | pan h3 h5 h6 h7 => subst h6 h7; simp only [h3, leave]; rw [if_pos h5]
 | exit i => cases h2
 | goto i => cases h2
theorem ev_orc {f : FuncId} {args : List AV} {rf : Refs} {v : AV} (ho : T.orc f args = some v) : Ev T f args rf (.ret v) rf := ⟨1, by simp only [Tb.C, call, ho]⟩
end
end Go.Ab
namespace Go.Ab
section
variable {T : Tb} {sl : Slots} {rf : Refs} {df : List (AV × List AV)} {pn : Option (Option AV)} {nb : Nat} {N : St → Prop} {X : Ex → St → Prop} {r : List AOp} {d : Nat} {g : Option (Nat × Bool)} {may : Bool}
def wantedL (sl : Slots) : Option (Nat × Bool) → Option Bool
 | none => some true
 | some (t, b) => match sl.get t with
   | some (.d (.bool x)) => some (x == b)
   | some (.tup []) => some false
   | _ => none
theorem wantedL_eq (s : St) : ∀ g, wantedA s g = wantedL s.sl g
 | none => rfl
 | some (_, _) => rfl
theorem o_off {o : AOpk} (hg : wantedL sl g = some false) (h : OP T r ⟨(d, .tup []) :: sl, rf, df, pn, nb⟩ N X) : OP T (⟨some d, o, g, may⟩ :: r) ⟨sl, rf, df, pn, nb⟩ N X :=
 op_off ((wantedL_eq _ _).trans hg) h
theorem o_offn {o : AOpk} (hg : wantedL sl g = some false) (h : OP T r ⟨sl, rf, df, pn, nb⟩ N X) : OP T (⟨none, o, g, may⟩ :: r) ⟨sl, rf, df, pn, nb⟩ N X :=
 op_off ((wantedL_eq _ _).trans hg) h
theorem o_pure {o : AOpk} {v : AV} (hg : wantedL sl g = some true) (hs : stepOp C0 ⟨sl, rf, df, pn, nb⟩ o = some (.val v ⟨sl, rf, df, pn, nb⟩)) (h : OP T r ⟨(d, v) :: sl, rf, df, pn, nb⟩ N X) : OP T (⟨some d, o, g, may⟩ :: r) ⟨sl, rf, df, pn, nb⟩ N X :=
 op_val ((wantedL_eq _ _).trans hg) hs h
theorem o_movd {x : Opd} {y : D} (hg : wantedL sl g = some true) (hx : getO sl x = some (.d y)) (h : OP T r ⟨(d, .d y) :: sl, rf, df, pn, nb⟩ N X) : OP T (⟨some d, .mov x, g, may⟩ :: r) ⟨sl, rf, df, pn, nb⟩ N X :=
 o_pure hg (by simp only [stepOp, hx]; rfl) h
theorem o_movp {x : Opd} {a b : Nat} (hg : wantedL sl g = some true) (hx : getO sl x = some (.ptr a b)) (h : OP T r ⟨(d, .ptr a b) :: sl, rf, df, pn, nb⟩ N X) : OP T (⟨some d, .mov x, g, may⟩ :: r) ⟨sl, rf, df, pn, nb⟩ N X :=
 o_pure hg (by simp only [stepOp, hx]; rfl) h
theorem o_mova {x : Opd} {y : List AV} (hg : wantedL sl g = some true) (hx : getO sl x = some (.agg y)) (h : OP T r ⟨(d, .agg y) :: sl, rf, df, pn, nb⟩ N X) : OP T (⟨some d, .mov x, g, may⟩ :: r) ⟨sl, rf, df, pn, nb⟩ N X :=
 o_pure hg (by simp only [stepOp, hx]; rfl) h
theorem o_mov {x : Opd} {v : AV} (hg : wantedL sl g = some true) (hx : getO sl x = some v) (h : OP T r ⟨(d, v) :: sl, rf, df, pn, nb⟩ N X) : OP T (⟨some d, .mov x, g, may⟩ :: r) ⟨sl, rf, df, pn, nb⟩ N X :=
 o_pure hg (by simp only [stepOp, hx]; rfl) h
theorem o_asgd {x : Opd} {y : D} (hg : wantedL sl g = some true) (hx : rawO sl x = some (.d y)) (h : OP T r ⟨(d, .d y) :: sl, rf, df, pn, nb⟩ N X) : OP T (⟨some d, .asg x, g, may⟩ :: r) ⟨sl, rf, df, pn, nb⟩ N X := by
 refine o_pure hg ?_ h
 simp only [stepOp, hx]
 cases x with
 | t n => simp only [rawO] at hx; simp only [unOwn, hx]
 | _ => rfl
theorem unOwn_ne {s : St} {x : Opd} {v : AV} (hx : rawO s.sl x = some v) (hv : ∀ es, v ≠ .own es) : unOwn s x = s := by
 cases x with
 | t n =>
   simp only [rawO] at hx
   simp only [unOwn, hx]
   split
   ·rename_i es e; cases e; exact absurd rfl (hv es)
   ·rfl
 | _ => rfl
theorem o_asg {x : Opd} {v : AV} (hg : wantedL sl g = some true) (hx : rawO sl x = some v) (hv : ∀ es, v ≠ .own es) (h : OP T r ⟨(d, v) :: sl, rf, df, pn, nb⟩ N X) : OP T (⟨some d, .asg x, g, may⟩ :: r) ⟨sl, rf, df, pn, nb⟩ N X := by
 refine o_pure hg ?_ h
 simp only [stepOp, hx]
 rw [unOwn_ne hx hv]
theorem o_asgo {t : Nat} {es : List (List D)} (hg : wantedL sl g = some true) (hx : sl.get t = some (.own es)) (h : OP T r ⟨(d, .own es) :: (t, .d (.lst es)) :: sl, rf, df, pn, nb⟩ N X) : OP T (⟨some d, .asg (.t t), g, may⟩ :: r) ⟨sl, rf, df, pn, nb⟩ N X := by
 refine op_val (v := .own es) (s' := ⟨(t, .d (.lst es)) :: sl, rf, df, pn, nb⟩) ((wantedL_eq _ _).trans hg) (by simp only [stepOp, rawO, hx, unOwn]; rfl) h
theorem o_take {t : Nat} {v : AV} (hg : wantedL sl g = some true) (hx : sl.get t = some v) (hv : ∀ es, v ≠ .own es) (h : OP T r ⟨(d, v) :: sl, rf, df, pn, nb⟩ N X) : OP T (⟨some d, .take t, g, may⟩ :: r) ⟨sl, rf, df, pn, nb⟩ N X := by
 refine o_pure hg ?_ h
 simp only [stepOp, hx]
 rw [unOwn_ne (v := v) (by simpa [rawO] using hx) hv]
theorem o_takeo {t : Nat} {es : List (List D)} (hg : wantedL sl g = some true) (hx : sl.get t = some (.own es)) (h : OP T r ⟨(d, .own es) :: (t, .d (.lst es)) :: sl, rf, df, pn, nb⟩ N X) : OP T (⟨some d, .take t, g, may⟩ :: r) ⟨sl, rf, df, pn, nb⟩ N X := by
 refine op_val (v := .own es) (s' := ⟨(t, .d (.lst es)) :: sl, rf, df, pn, nb⟩) ((wantedL_eq _ _).trans hg) (by simp only [stepOp, hx, unOwn]; rfl) h
theorem o_pickt {c a b : Opd} {v : AV} (hg : wantedL sl g = some true) (hc : getO sl c = some (.d (.bool true))) (hx : getO sl a = some v) (h : OP T r ⟨(d, v) :: sl, rf, df, pn, nb⟩ N X) : OP T (⟨some d, .pick c a b, g, may⟩ :: r) ⟨sl, rf, df, pn, nb⟩ N X :=
 o_pure hg (by simp only [stepOp, hc, if_true, hx]; rfl) h
theorem o_pickf {c a b : Opd} {v : AV} (hg : wantedL sl g = some true) (hc : getO sl c = some (.d (.bool false))) (hx : getO sl b = some v) (h : OP T r ⟨(d, v) :: sl, rf, df, pn, nb⟩ N X) : OP T (⟨some d, .pick c a b, g, may⟩ :: r) ⟨sl, rf, df, pn, nb⟩ N X :=
 o_pure hg (by simp only [stepOp, hc, hx]; rfl) h
theorem o_bin {op : BinOp} {x y : Opd} {a b v : AV} (hg : wantedL sl g = some true) (hx : getO sl x = some a) (hy : getO sl y = some b) (hv : binA op a b = some v) (h : OP T r ⟨(d, v) :: sl, rf, df, pn, nb⟩ N X) : OP T (⟨some d, .bin op x y, g, may⟩ :: r) ⟨sl, rf, df, pn, nb⟩ N X :=
 o_pure hg (by simp only [stepOp, hx, hy, hv]; rfl) h
theorem wrap_of {k : IntKind} {x : Int} (h1 : k.min ≤ x) (h2 : x ≤ k.max) : k.wrap x = x := by
 cases k <;> simp [IntKind.min, IntKind.max, IntKind.signed, IntKind.bits, IntKind.wrap] at * <;> (try split) <;> omega
theorem wrap64_of {x : Int} (h1 : -9223372036854775808 ≤ x) (h2 : x ≤ 9223372036854775807) : IntKind.i64.wrap x = x :=
 wrap_of (by simpa [IntKind.min, IntKind.signed, IntKind.bits] using h1) (by simpa [IntKind.max, IntKind.signed, IntKind.bits] using h2)
theorem wrap8_of {x : Int} (h1 : 0 ≤ x) (h2 : x ≤ 255) : IntKind.u8.wrap x = x :=
 wrap_of (by simpa [IntKind.min, IntKind.signed, IntKind.bits] using h1) (by simpa [IntKind.max, IntKind.signed, IntKind.bits] using h2)
theorem wrapU64_of {x : Int} (h1 : 0 ≤ x) (h2 : x ≤ 18446744073709551615) : IntKind.u64.wrap x = x :=
 wrap_of (by simpa [IntKind.min, IntKind.signed, IntKind.bits] using h1) (by simpa [IntKind.max, IntKind.signed, IntKind.bits] using h2)
theorem o_add {x y : Opd} {a b c : Int} (hg : wantedL sl g = some true) (hx : getO sl x = some (.d (.int .i64 a))) (hy : getO sl y = some (.d (.int .i64 b))) (hc : a + b = c) (h1 : -9223372036854775808 ≤ c) (h2 : c ≤ 9223372036854775807)
  (h : OP T r ⟨(d, .d (.int .i64 c)) :: sl, rf, df, pn, nb⟩ N X) : OP T (⟨some d, .bin .add x y, g, may⟩ :: r) ⟨sl, rf, df, pn, nb⟩ N X := by
 refine o_bin hg hx hy (v := .d (.int .i64 c)) ?_ h
 show some _ = _
 rw [hc, wrap64_of h1 h2]
theorem o_sub {x y : Opd} {a b c : Int} (hg : wantedL sl g = some true) (hx : getO sl x = some (.d (.int .i64 a))) (hy : getO sl y = some (.d (.int .i64 b))) (hc : a - b = c) (h1 : -9223372036854775808 ≤ c) (h2 : c ≤ 9223372036854775807)
  (h : OP T r ⟨(d, .d (.int .i64 c)) :: sl, rf, df, pn, nb⟩ N X) : OP T (⟨some d, .bin .sub x y, g, may⟩ :: r) ⟨sl, rf, df, pn, nb⟩ N X := by
 refine o_bin hg hx hy (v := .d (.int .i64 c)) ?_ h
 show some _ = _
 rw [hc, wrap64_of h1 h2]
theorem o_toInt {k k' : IntKind} {x : Opd} {a : Int} (hg : wantedL sl g = some true) (hx : getO sl x = some (.d (.int k' a))) (h1 : k.min ≤ a) (h2 : a ≤ k.max)
  (h : OP T r ⟨(d, .d (.int k a)) :: sl, rf, df, pn, nb⟩ N X) : OP T (⟨some d, .toInt k x, g, may⟩ :: r) ⟨sl, rf, df, pn, nb⟩ N X := by
 refine o_pure hg ?_ h
 simp only [stepOp, hx, vl, Option.map, wrap_of h1 h2]
theorem o_idxS {x i : Opd} {l : List UInt8} {k : IntKind} {n : Int} {m : Nat} {b : UInt8} (hg : wantedL sl g = some true) (hx : getO sl x = some (.d (.str l))) (hi : getO sl i = some (.d (.int k n))) (hn : n = (m : Int)) (hb : l[m]? = some b)
  (h : OP T r ⟨(d, .d (.int .u8 b.toNat)) :: sl, rf, df, pn, nb⟩ N X) : OP T (⟨some d, .idxS x i, g, may⟩ :: r) ⟨sl, rf, df, pn, nb⟩ N X := by
 refine o_pure hg ?_ h
 subst hn
 simp only [stepOp, hx, hi]
 rw [if_neg (by omega)]
 simp only [Int.toNat_natCast, hb, vl, Option.map]
theorem o_lenS {x : Opd} {l : List UInt8} (hg : wantedL sl g = some true) (hx : getO sl x = some (.d (.str l))) (h : OP T r ⟨(d, .d (.int .i64 l.length)) :: sl, rf, df, pn, nb⟩ N X) : OP T (⟨some d, .lenS x, g, may⟩ :: r) ⟨sl, rf, df, pn, nb⟩ N X :=
 o_pure hg (by simp only [stepOp, hx]; rfl) h
theorem o_sliceS {x : Opd} {lo hi : Option Opd} {l : List UInt8} {i j : Nat} (hg : wantedL sl g = some true) (hx : getO sl x = some (.d (.str l))) (hi' : asIdx sl lo 0 = some i) (hj : asIdx sl hi l.length = some j) (h1 : i ≤ j) (h2 : j ≤ l.length)
  (h : OP T r ⟨(d, .d (.str ((l.take j).drop i))) :: sl, rf, df, pn, nb⟩ N X) : OP T (⟨some d, .sliceS x lo hi, g, may⟩ :: r) ⟨sl, rf, df, pn, nb⟩ N X := by
 refine o_pure hg ?_ h
 simp only [stepOp, hx, hi', hj]
 rw [if_pos ⟨h1, h2⟩]
 rfl
theorem o_call {f : Opd} {aa : List Opd} {id : FuncId} {vs : List AV} {v : AV} {rf' : Refs} (hg : wantedL sl g = some true) (hf : getO sl f = some (.fn (.func id) [] [])) (ha : (getOs sl aa).map AV.bargs = some vs)
  (he : Ev T id vs rf (.ret v) rf') (h : OP T r ⟨(d, v) :: sl, rf', df, pn, nb⟩ N X) : OP T (⟨some d, .call f aa, g, may⟩ :: r) ⟨sl, rf, df, pn, nb⟩ N X := by
 cases hh : getOs sl aa with
 | none => rw [hh] at ha; cases ha
 | some us =>
   rw [hh] at ha
   cases ha
   exact op_call (s := ⟨sl, rf, df, pn, nb⟩) ((wantedL_eq _ _).trans hg) hf hh (by simpa using he) h
theorem o_calln {f : Opd} {aa : List Opd} {id : FuncId} {vs : List AV} {v : AV} {rf' : Refs} (hg : wantedL sl g = some true) (hf : getO sl f = some (.fn (.func id) [] [])) (ha : (getOs sl aa).map AV.bargs = some vs)
  (he : Ev T id vs rf (.ret v) rf') (h : OP T r ⟨sl, rf', df, pn, nb⟩ N X) : OP T (⟨none, .call f aa, g, may⟩ :: r) ⟨sl, rf, df, pn, nb⟩ N X := by
 cases hh : getOs sl aa with
 | none => rw [hh] at ha; cases ha
 | some us =>
   rw [hh] at ha
   cases ha
   exact op_call (s := ⟨sl, rf, df, pn, nb⟩) (d := none) ((wantedL_eq _ _).trans hg) hf hh (by simpa using he) h
theorem o_split {l : List AOp} {t : Nat} {b : Bool} (ht : sl.get t = some (.d (.bool b))) (h1 : b = true → OP T l ⟨sl, rf, df, pn, nb⟩ N X) (h2 : b = false → OP T l ⟨sl, rf, df, pn, nb⟩ N X) : OP T l ⟨sl, rf, df, pn, nb⟩ N X := by
 cases b
 ·exact h2 rfl
 ·exact h1 rfl
theorem end_ret {af : AFn} {n : Nat} {v : AV} {rf' : Refs} (hv : resOf ⟨sl, rf, df, pn, nb⟩ af.keep af.res = some v) (hd : df = []) (hb : v.refB ≤ n) (hr : rf.take n = rf') : EndX af n (.ret v) rf' .ret ⟨sl, rf, df, pn, nb⟩ :=
 .ret hd hv hb rfl hr.symm
theorem end_nrm {af : AFn} {n : Nat} {v : AV} {rf' : Refs} (hv : resOf ⟨sl, rf, df, pn, nb⟩ af.keep af.res = some v) (hd : df = []) (hb : v.refB ≤ n) (hr : rf.take n = rf') : EndX af n (.ret v) rf' .nrm ⟨sl, rf, df, pn, nb⟩ :=
 .nrm hd hv hb rfl hr.symm
/-! references -/
theorem o_box {x : Opd} {v : AV} {cs : List AV} (hg : wantedL sl g = some true) (hx : getO sl x = some v) (hs : v.solid = true) (hc : v.cells = cs) (h : OP T r ⟨(d, .ptr rf.length 0) :: sl, rf ++ [cs], df, pn, nb⟩ N X) (hm : isMp cs = false := by rfl) : OP T (⟨some d, .box x, g, may⟩ :: r) ⟨sl, rf, df, pn, nb⟩ N X := by
 subst hc
 refine op_val (v := .ptr rf.length 0) (s' := ⟨sl, rf ++ [v.cells], df, pn, nb⟩) ((wantedL_eq _ _).trans hg) ?_ h
 simp only [stepOp, hx, hs, hm, and_self, if_true]
theorem o_alloc {cs : List AV} (hg : wantedL sl g = some true) (h : OP T r ⟨(d, .ptr rf.length 0) :: sl, rf ++ [cs], df, pn, nb⟩ N X) : OP T (⟨some d, .alloc cs, g, may⟩ :: r) ⟨sl, rf, df, pn, nb⟩ N X :=
 op_val (v := .ptr rf.length 0) (s' := ⟨sl, rf ++ [cs], df, pn, nb⟩) ((wantedL_eq _ _).trans hg) rfl h
theorem o_load {a : Opd} {q off : Nat} {cs : List AV} {y : D} (hg : wantedL sl g = some true) (ha : getO sl a = some (.ptr q off)) (hr : rf[q]? = some cs) (hc : cs[off]? = some (.d y)) (h : OP T r ⟨(d, .d y) :: sl, rf, df, pn, nb⟩ N X) (hm : isMp cs = false := by rfl) :
  OP T (⟨some d, .load none a, g, may⟩ :: r) ⟨sl, rf, df, pn, nb⟩ N X :=
 o_pure hg (by simp only [stepOp, ha, loadAt, hr, hm, if_true, hc]; rfl) h
theorem o_loadv {a : Opd} {q off : Nat} {cs : List AV} {y z : AV} (hg : wantedL sl g = some true) (ha : getO sl a = some (.ptr q off)) (hr : rf[q]? = some cs) (hc : cs[off]? = some y) (hz : y.strip = z) (h : OP T r ⟨(d, z) :: sl, rf, df, pn, nb⟩ N X) (hm : isMp cs = false := by rfl) :
  OP T (⟨some d, .load none a, g, may⟩ :: r) ⟨sl, rf, df, pn, nb⟩ N X :=
 o_pure hg (by subst hz; simp only [stepOp, ha, loadAt, hr, hm, if_true, hc]; rfl) h
theorem o_loada {a : Opd} {q off n : Nat} {cs zs : List AV} (hg : wantedL sl g = some true) (ha : getO sl a = some (.ptr q off)) (hr : rf[q]? = some cs) (hn : off + n ≤ cs.length) (hz : AV.strips ((cs.drop off).take n) = zs) (h : OP T r ⟨(d, .agg zs) :: sl, rf, df, pn, nb⟩ N X) (hm : isMp cs = false := by rfl) :
  OP T (⟨some d, .load (some n) a, g, may⟩ :: r) ⟨sl, rf, df, pn, nb⟩ N X :=
 o_pure hg (by subst hz; simp only [stepOp, ha, loadAt, Refs.cellsAt, hr, if_pos (And.intro hm hn)]; rfl) h
theorem o_loade {a : Opd} {off : Nat} {cs : List D} {y : D} (hg : wantedL sl g = some true) (ha : getO sl a = some (.ept cs off)) (hc : cs[off]? = some y) (h : OP T r ⟨(d, .d y) :: sl, rf, df, pn, nb⟩ N X) :
  OP T (⟨some d, .load none a, g, may⟩ :: r) ⟨sl, rf, df, pn, nb⟩ N X :=
 o_pure hg (by simp only [stepOp, ha, loadAt, hc]; rfl) h
theorem o_loadea {a : Opd} {off n : Nat} {cs : List D} {zs : List AV} (hg : wantedL sl g = some true) (ha : getO sl a = some (.ept cs off)) (hn : off + n ≤ cs.length) (hz : ((cs.drop off).take n).map AV.d = zs) (h : OP T r ⟨(d, .agg zs) :: sl, rf, df, pn, nb⟩ N X) :
  OP T (⟨some d, .load (some n) a, g, may⟩ :: r) ⟨sl, rf, df, pn, nb⟩ N X := by
 refine o_pure hg ?_ h
 subst hz
 have hst : ∀ l : List D, AV.strips (l.map AV.d) = l.map AV.d := fun l => by
  induction l with
  | nil => rfl
  | cons x l ih => simp only [List.map_cons, AV.strips, AV.strip, ih]
 simp only [stepOp, ha, loadAt, if_pos hn, vl, Option.map, AV.strip, hst]
theorem storeAt_of {rf : Refs} {nb sz q off : Nat} {v : AV} {cs zs us : List AV} (hz : v.cellsO = zs) (hl : zs.length = sz) (ho : zs.all AV.one = true) (hr : rf[q]? = some cs) (hn : off + sz ≤ cs.length) (hb : AV.refBs zs ≤ q + 1 ∨ nb ≤ q) (hu : setRange cs off zs = us) (hm : isMp cs = false) :
  storeAt rf nb sz (.ptr q off) v = some (rf.set q us) := by
 subst hz hu
 unfold storeAt
 simp only [hr]
 rw [if_neg (by rw [hl, ho]; simp), if_pos ⟨hm, hn, hb⟩]
theorem o_store {a x : Opd} {sz q off : Nat} {v : AV} {cs zs us : List AV} (hg : wantedL sl g = some true) (ha : getO sl a = some (.ptr q off)) (hx : rawO sl x = some v) (hv : ∀ es, v ≠ .own es) (hz : v.cellsO = zs) (hl : zs.length = sz) (ho : zs.all AV.one = true)
  (hr : rf[q]? = some cs) (hn : off + sz ≤ cs.length) (hb : AV.refBs zs ≤ q + 1 ∨ nb ≤ q) (hu : setRange cs off zs = us) (h : OP T r ⟨sl, rf.set q us, df, pn, nb⟩ N X) (hm : isMp cs = false := by rfl) :
  OP T (⟨none, .store sz a x, g, may⟩ :: r) ⟨sl, rf, df, pn, nb⟩ N X := by
 refine op_none (s' := ⟨sl, rf.set q us, df, pn, nb⟩) ((wantedL_eq _ _).trans hg) ?_ h
 simp only [stepOp, ha, hx]
 rw [storeAt_of hz hl ho hr hn hb hu hm]
 simp only
 rw [unOwn_ne (v := v) (by simpa using hx) hv]
theorem o_fldA {off q o' : Nat} {x : Opd} (hg : wantedL sl g = some true) (hx : getO sl x = some (.ptr q o')) (h : OP T r ⟨(d, .ptr q (o' + off)) :: sl, rf, df, pn, nb⟩ N X) : OP T (⟨some d, .fldA off x, g, may⟩ :: r) ⟨sl, rf, df, pn, nb⟩ N X :=
 o_pure hg (by simp only [stepOp, hx]; rfl) h
theorem o_idxA {m sz q o' j : Nat} {x i : Opd} {k : IntKind} {n : Int} (hg : wantedL sl g = some true) (hi : getO sl i = some (.d (.int k n))) (hx : getO sl x = some (.ptr q o')) (hn : n = (j : Int)) (hj : j < m) (h : OP T r ⟨(d, .ptr q (o' + j * sz)) :: sl, rf, df, pn, nb⟩ N X) :
  OP T (⟨some d, .idxA (some m) sz x i, g, may⟩ :: r) ⟨sl, rf, df, pn, nb⟩ N X := by
 refine o_pure hg ?_ h
 subst hn
 simp only [stepOp, hi, hx]
 rw [if_neg (by omega), if_pos (by omega)]
 rfl
theorem o_idxL {sz j : Nat} {x i : Opd} {k : IntKind} {n : Int} {v : AV} {es : List (List D)} {cs : List D} (hg : wantedL sl g = some true) (hi : getO sl i = some (.d (.int k n))) (hx : getO sl x = some v) (hl : v.list? = some es) (hn : n = (j : Int)) (hj : es[j]? = some cs) (hc : cs.length = sz)
  (h : OP T r ⟨(d, .ept cs 0) :: sl, rf, df, pn, nb⟩ N X) : OP T (⟨some d, .idxA none sz x i, g, may⟩ :: r) ⟨sl, rf, df, pn, nb⟩ N X := by
 refine o_pure hg ?_ h
 subst hn
 simp only [stepOp, hi, hx]
 rw [if_neg (by omega)]
 cases v <;> first
  | (cases hl; done)
  | (simp only [hl, Int.toNat_natCast, hj, hc, if_true]; rfl)
theorem o_len {x : Opd} {v : AV} {es : List (List D)} (hg : wantedL sl g = some true) (hx : getO sl x = some v) (hl : v.list? = some es) (h : OP T r ⟨(d, .d (.int .i64 es.length)) :: sl, rf, df, pn, nb⟩ N X) : OP T (⟨some d, .len x, g, may⟩ :: r) ⟨sl, rf, df, pn, nb⟩ N X := by
 refine o_pure hg ?_ h
 simp only [stepOp, hx]
 cases v <;> simp [AV.list?] at hl <;> first | (subst hl; rfl) | skip
 rename_i x
 cases x <;> simp [AV.list?] at hl
 subst hl
 rfl
theorem end_pan {af : AFn} {n : Nat} {v : AV} {rf' : Refs} (hd : df = []) (hb : v.refB ≤ n) (hr : rf.take n = rf') : EndX af n (.pan v.bare) rf' (.pan v) ⟨sl, rf, df, pn, nb⟩ :=
 .pan hd hb rfl hr.symm
end
end Go.Ab
