/- Regions whose order is drawn: any order that the edges allow comes to the same. -/
import Derived.Test.YtpdfcjgehdlheaaA19
set_option linter.all false
namespace Go.Ab

def Alike (s s' : St) : Prop := (∀ t, s.sl.get t = s'.sl.get t) ∧ ({ s with sl := [] } : St) = { s' with sl := [] }

theorem Alike.refl (s : St) : Alike s s := ⟨fun _ => rfl, rfl⟩
theorem Alike.trans {a b c : St} (h : Alike a b) (k : Alike b c) : Alike a c := ⟨fun t => (h.1 t).trans (k.1 t), h.2.trans k.2⟩

theorem Alike.eq {s s' : St} (h : Alike s s') : s' = { s with sl := s'.sl } := by
  obtain ⟨sl, rf, df, pn, nb⟩ := s
  obtain ⟨sl', rf', df', pn', nb'⟩ := s'
  have := h.2
  simp only [St.mk.injEq, true_and] at this
  simp [this]

theorem Alike.agr {s s' : St} (h : Alike s s') (o : AOp) : Agr o s.sl s'.sl := by
  have hraw : ∀ x, rawO s'.sl x = rawO s.sl x := fun x => by
    cases x with
    | t n => exact (h.1 n).symm
    | c v => rfl
    | f id => rfl
  exact ⟨fun x _ => by simp only [getO]; rw [hraw], fun x _ => hraw x, fun t _ _ => (h.1 t).symm⟩

theorem unOwnS_congr {sl sl' : Slots} (h : ∀ t, sl.get t = sl'.get t) (r : Option Opd) (t : Nat) : (unOwnS sl r).get t = (unOwnS sl' r).get t := by
  unfold unOwnS
  split
  · rename_i n
    rw [← h n]
    split
    · simp only [Slots.put, Slots.get]
      rw [h t]
    · exact h t
  · exact h t

theorem slAfter_congr {o : AOp} {b : Bool} {v : Option AV} {sl sl' : Slots} (h : ∀ t, sl.get t = sl'.get t) (t : Nat) : (slAfter o b v sl).get t = (slAfter o b v sl').get t := by
  have h1 : ∀ t, Slots.get (if b then unOwnS sl o.op.raw else sl) t = Slots.get (if b then unOwnS sl' o.op.raw else sl') t := fun t => by
    cases b
    · exact h t
    · exact unOwnS_congr h _ t
  simp only [slAfter]
  split
  · simp only [Slots.put, Slots.get]
    rw [h1 t]
  · exact h1 t

theorem fin_alike {o : AOp} {sl sl' : Slots} (h : ∀ t, sl.get t = sl'.get t) (x : Option AV × Bool × St) : Alike (fin o sl x) (fin o sl' x) :=
  ⟨fun t => slAfter_congr h t, rfl⟩

theorem step_alike {C : CallFn} {s s' : St} (h : Alike s s') (o : AOpk) : stepOp C s' o = (stepOp C s o).map (Did.mapSt fun st => { st with sl := unOwnS s'.sl o.raw }) := by
  have hraw : ∀ x, rawO s'.sl x = rawO s.sl x := fun x => by
    cases x with
    | t n => exact (h.1 n).symm
    | c v => rfl
    | f id => rfl
  rw [h.eq]
  exact step_slots (fun x _ => by simp only [getO]; rw [hraw]) (fun x _ => hraw x)

theorem wanted_alike {s s' : St} (h : Alike s s') (g : Option (Nat × Bool)) : wantedA s' g = wantedA s g := by
  cases g with
  | none => rfl
  | some p =>
    obtain ⟨t, b⟩ := p
    simp only [wantedA]
    rw [← h.1 t]

theorem putO_alike {s s' : St} (h : Alike s s') (d : Option Nat) (v : AV) : Alike (putO s d v) (putO s' d v) := by
  cases d with
  | none => exact h
  | some d => exact ⟨fun t => by simp only [putO, Slots.put, Slots.get]; rw [h.1 t], h.2⟩

theorem runOps_alike {C : CallFn} : ∀ {l : List AOp} {s s' : St} {e : Ex} {t : St}, Alike s s' → runOps C l s = some (e, t) → ∃ t', runOps C l s' = some (e, t') ∧ Alike t t'
  | [], s, s', e, t, h, hr => by
    simp only [runOps, Option.some.injEq, Prod.mk.injEq] at hr ⊢
    obtain ⟨rfl, rfl⟩ := hr
    exact ⟨s', ⟨rfl, rfl⟩, h⟩
  | o :: l, s, s', e, t, h, hr => by
    simp only [runOps] at hr ⊢
    rw [wanted_alike h]
    split at hr
    · simp at hr
    · exact runOps_alike (putO_alike h _ _) hr
    · have hss := step_slots (C := C) (s := s) (o := o.op) (sl2 := s.sl) (fun _ _ => rfl) (fun _ _ => rfl)
      have hs0 : ({ s with sl := s.sl } : St) = s := rfl
      rw [hs0] at hss
      have hal : ∀ s1 : St, s1 = { s1 with sl := unOwnS s.sl o.op.raw } → Alike s1 { s1 with sl := unOwnS s'.sl o.op.raw } := fun s1 h1 =>
        ⟨fun t => by rw [h1]; exact unOwnS_congr h.1 _ t, rfl⟩
      rw [step_alike h]
      split at hr
      · rename_i v s1 hs
        rw [hs] at hss ⊢
        simp only [Option.map_some, Did.mapSt, Option.some.injEq, Did.val.injEq, true_and] at hss ⊢
        exact runOps_alike (putO_alike (hal s1 hss) _ _) hr
      · rename_i s1 hs
        rw [hs] at hss ⊢
        simp only [Option.map_some, Did.mapSt, Option.some.injEq, Did.none_.injEq] at hss ⊢
        exact runOps_alike (hal s1 hss) hr
      · rename_i v s1 hs
        rw [hs] at hss ⊢
        simp only [Option.map_some, Did.mapSt, Option.some.injEq, Did.pan.injEq, true_and] at hss ⊢
        split at hr
        · rename_i hm
          simp only [Option.some.injEq, Prod.mk.injEq] at hr
          obtain ⟨rfl, rfl⟩ := hr
          rw [if_pos hm]
          exact ⟨_, rfl, hal s1 hss⟩
        · simp at hr
      · simp at hr

def deown : Option AV → Option AV
  | some (.own es) => some (.d (.lst es))
  | z => z

def rOf (o : AOp) (b : Bool) (n : Nat) : Bool := b && o.op.raw.any (Opd.isT n)

def dOf (o : AOp) (v : Option AV) (n : Nat) : Option AV := if o.dst = some n then v else none

theorem get_unOwnS' {sl : Slots} {r : Option Opd} {n : Nat} : (unOwnS sl r).get n = if r.any (Opd.isT n) then deown (sl.get n) else sl.get n := by
  cases r with
  | none => rfl
  | some x =>
    cases x with
    | t m =>
      simp only [unOwnS, Option.any_some, Opd.isT]
      by_cases hm : m = n
      · subst hm
        simp only [beq_self_eq_true, if_true]
        split
        · rename_i es h
          rw [h]
          simp [Slots.put, Slots.get, deown]
        · rename_i h
          unfold deown
          split
          · rename_i es h'; exact absurd h' (h es)
          · rfl
      · have : (m == n) = false := by simp [hm]
        simp only [this, Bool.false_eq_true, if_false]
        split
        · simp [Slots.put, Slots.get, hm]
        · rfl
    | c v => rfl
    | f id => rfl

theorem get_slAfter {o : AOp} {b : Bool} {v : Option AV} {sl : Slots} {n : Nat} :
    (slAfter o b v sl).get n = match dOf o v n with
      | some u => some u
      | none => if rOf o b n then deown (sl.get n) else sl.get n := by
  have h1 : Slots.get (if b then unOwnS sl o.op.raw else sl) n = if rOf o b n then deown (sl.get n) else sl.get n := by
    cases b
    · rfl
    · simp only [if_true, rOf, Bool.true_and]
      exact get_unOwnS'
  simp only [slAfter, dOf]
  cases v with
  | none =>
    simp only [ite_self]
    exact h1
  | some u =>
    cases hd : o.dst with
    | none =>
      simp only [reduceCtorEq, if_false]
      exact h1
    | some d =>
      simp only [Slots.put, Slots.get, Option.some.injEq]
      by_cases hdn : d = n
      · simp [hdn]
      · simp only [if_neg hdn]
        exact h1

/-- two that do not meddle -/
theorem swap2 {C : CallFn} {y x : AOp} (hc : compat y x = true) {l : List AOp} {s : St} {e : Ex} {t : St} (hr : runOps C (y :: x :: l) s = some (e, t)) : ∃ t', runOps C (x :: y :: l) s = some (e, t') ∧ Alike t t' := by
  simp only [compat, Bool.and_eq_true, Bool.not_eq_true', Bool.or_eq_true, beq_iff_eq, decide_eq_true_eq] at hc
  obtain ⟨⟨⟨⟨⟨⟨hym, hxm⟩, c1⟩, c2⟩, c3⟩, c4⟩, c5⟩ := hc
  have c1' : ∀ d, y.dst = some d → x.uses d = false ∧ x.dst ≠ some d := fun d hd => by
    rw [hd] at c1
    simpa using c1
  have c2' : ∀ d, x.dst = some d → y.uses d = false := fun d hd => by
    rw [hd] at c2
    simpa using c2
  have c3' : ∀ n, y.op.raw = some (.t n) → x.op.raw.any (Opd.isT n) = false ∧ isG n x.guard = false := fun n hn => by
    rw [hn] at c3
    simpa using c3
  have c4' : ∀ n, x.op.raw = some (.t n) → y.op.raw.any (Opd.isT n) = false ∧ isG n y.guard = false := fun n hn => by
    refine ⟨?_, ?_⟩
    · cases hy : y.op.raw with
      | none => rfl
      | some z =>
        cases z with
        | t m =>
          have := (c3' m hy).1
          rw [hn] at this
          simp [Opd.isT] at this ⊢
          omega
        | c v => rfl
        | f id => rfl
    · rw [hn] at c4
      simpa using c4
  rw [runOps_eff hym] at hr
  obtain ⟨⟨vy, by', my⟩, hy, hr⟩ := Option.bind_eq_some_iff.1 hr
  rw [runOps_eff hxm] at hr
  obtain ⟨⟨vx, bx, mx⟩, hx, hr⟩ := Option.bind_eq_some_iff.1 hr
  have hxs : eff C x (St.mem s my) = some (vx, bx, mx) := by
    rw [← hx]
    exact (eff_agr (s := St.mem s my) (agr_of (y := y) (x := x) (b := by') (v := vy) (sl := s.sl) (fun d hd => (c1' d hd).1) c3')).symm
  have mem_self : ∀ m : St, m = { s with sl := [] } → St.mem s m = s := fun m hm => by rw [hm]; rfl
  -- x first
  have first : ∃ mx', eff C x s = some (vx, bx, mx') ∧ eff C y (St.mem s mx') = some (vy, by', mx) := by
    have hmx := eff_norm hxs
    have y2 : y.op.cls ≤ 2 → eff C x s = some (vx, bx, mx) ∧ my = { s with sl := [] } := fun hy2 => by
      have hmy := eff_mem2 hy2 hy
      rw [mem_self my hmy] at hxs
      exact ⟨hxs, hmy⟩
    have back : x.op.cls ≤ 2 → eff C x (St.mem (St.mem s my) s) = some (vx, bx, { s with sl := [] }) → ∃ mx', eff C x s = some (vx, bx, mx') ∧ eff C y (St.mem s mx') = some (vy, by', mx) := fun hx2 h1 => by
      have hms : St.mem (St.mem s my) s = s := rfl
      rw [hms] at h1
      refine ⟨_, h1, ?_⟩
      have h2 : mx = { St.mem s my with sl := [] } := eff_mem2 hx2 hxs
      have h3 : St.mem s { s with sl := [] } = s := rfl
      rw [h3, hy, h2]
      simp only [St.mem]
      rw [← eff_norm hy]
    rcases c5 with ((((((h | h) | h) | h) | h) | h) | h) | h
    · exact back (by omega) (eff_mem0 (m := s) h hxs)
    · obtain ⟨h1, h2⟩ := y2 (by omega)
      exact ⟨mx, h1, by rw [eff_mem0 h hy, ← hmx]⟩
    · obtain ⟨h1, h2⟩ := y2 h.1
      refine ⟨mx, h1, ?_⟩
      have h3 := eff_mem2 h.2 h1
      rw [mem_self mx h3, hy, h2, h3]
    · obtain ⟨h1, h2⟩ := y2 (by omega)
      exact ⟨mx, h1, by rw [eff_mem1 h.1 (eff_mem3 h.2 h1) hy, ← hmx]⟩
    · obtain ⟨h1, h2⟩ := y2 (by omega)
      exact ⟨mx, h1, by rw [eff_memL h.1 (eff_mem5 h.2 h1) hy, ← hmx]⟩
    · exact back (by omega) (eff_memL (m := s) h.2 (show SameL (St.mem s my) s from (eff_mem5 h.1 hy).symm) hxs)
    · obtain ⟨hcl, agg, a, n, hop⟩ := sep_form h
      obtain ⟨h1, h2⟩ := y2 (by omega)
      exact ⟨mx, h1, by rw [eff_memR hop (eff_memW h h1 agg a n hop) hy, ← hmx]⟩
    · obtain ⟨hcl, agg, a, n, hop⟩ := sep_form h
      exact back (by omega) (eff_memR (s := St.mem s my) (m := s) hop (fun q off hg => (eff_memW h hy agg a n hop q off hg).symm) hxs)
  obtain ⟨mx', h1, h2⟩ := first
  have h3 : eff C y (fin x s.sl (vx, bx, mx')) = some (vy, by', mx) := by
    rw [← h2]
    exact eff_agr (s := St.mem s mx') (agr_of (y := x) (x := y) (b := bx) (v := vx) (sl := s.sl) c2' c4')
  have hal : Alike (fin x (fin y s.sl (vy, by', my)).sl (vx, bx, mx)) (fin y (fin x s.sl (vx, bx, mx')).sl (vy, by', mx)) := by
    refine ⟨fun n => ?_, rfl⟩
    simp only [fin]
    rw [get_slAfter, get_slAfter, get_slAfter, get_slAfter]
    have d1 : ∀ u, dOf y vy n = some u → dOf x vx n = none ∧ rOf x bx n = false := fun u hu => by
      unfold dOf at hu
      split at hu
      · rename_i hd
        have := c1' n hd
        refine ⟨by simp [dOf, this.2], ?_⟩
        have hh := this.1
        simp only [AOp.uses, Bool.or_eq_false_iff] at hh
        simp [rOf, hh.1.2]
      · simp at hu
    have d2 : ∀ u, dOf x vx n = some u → rOf y by' n = false := fun u hu => by
      unfold dOf at hu
      split at hu
      · rename_i hd
        have hh := c2' n hd
        simp only [AOp.uses, Bool.or_eq_false_iff] at hh
        simp [rOf, hh.1.2]
      · simp at hu
    cases hdy : dOf y vy n with
    | some u =>
      obtain ⟨e1, e2⟩ := d1 u hdy
      rw [e1, e2]
      rfl
    | none =>
      cases hdx : dOf x vx n with
      | some u =>
        rw [d2 u hdx]
        rfl
      | none =>
        simp only
        cases rOf x bx n <;> cases rOf y by' n <;> rfl
  obtain ⟨t', h4, h5⟩ := runOps_alike hal hr
  refine ⟨t', ?_, h5⟩
  rw [runOps_eff hxm, h1]
  simp only [Option.bind_some]
  rw [runOps_eff hym, h3]
  exact h4

/-- one that meddles with none before it may go first -/
theorem front {C : CallFn} {x : AOp} {l2 : List AOp} : ∀ {l1 : List AOp} {s : St} {e : Ex} {t : St}, (∀ y, y ∈ l1 → compat y x = true) → runOps C (l1 ++ x :: l2) s = some (e, t) →
    ∃ t', runOps C (x :: (l1 ++ l2)) s = some (e, t') ∧ Alike t t'
  | [], s, e, t, _, hr => ⟨t, hr, Alike.refl t⟩
  | y :: l1, s, e, t, hc, hr => by
    have hym : y.may = false := by
      have := hc y (by simp)
      simp only [compat, Bool.and_eq_true, Bool.not_eq_true'] at this
      exact this.1.1.1.1.1.1
    simp only [List.cons_append] at hr
    rw [runOps_eff hym] at hr
    obtain ⟨v, hv, hr⟩ := Option.bind_eq_some_iff.1 hr
    obtain ⟨t1, h1, a1⟩ := front (fun z hz => hc z (by simp [hz])) hr
    have h2 : runOps C (y :: x :: (l1 ++ l2)) s = some (e, t1) := by
      rw [runOps_eff hym, hv]
      exact h1
    obtain ⟨t2, h3, a2⟩ := swap2 (hc y (by simp)) h2
    exact ⟨t2, h3, a1.trans a2⟩

/-- the numbers that an operation waits for -/
def waits (o : Oper) : List Nat := o.after.toList.filterMap fun e => if Region.binds .any e then some e.on else none

/-- j must come before i -/
inductive Must (ops : Array Oper) : Nat → Nat → Prop
  | one {j i : Nat} {o : Oper} : ops[i]? = some o → j ∈ waits o → Must ops j i
  | more {j k i : Nat} {o : Oper} : ops[i]? = some o → k ∈ waits o → Must ops j k → Must ops j i

def maskOf (acc : List Nat) : List Nat → Nat
  | [] => 0
  | k :: r => (2 ^ k ||| acc.getD k 0) ||| maskOf acc r

def masks : List Oper → List Nat → List Nat
  | [], acc => acc
  | o :: r, acc => masks r (acc ++ [maskOf acc (waits o)])

theorem maskOf_bit {acc : List Nat} : ∀ {d : List Nat} {j : Nat}, (maskOf acc d).testBit j = true → ∃ k, k ∈ d ∧ (j = k ∨ (acc.getD k 0).testBit j = true)
  | [], j, h => by simp [maskOf] at h
  | k :: r, j, h => by
    simp only [maskOf, Nat.testBit_or, Bool.or_eq_true, Nat.testBit_two_pow, decide_eq_true_eq] at h
    rcases h with (h | h) | h
    · exact ⟨k, by simp, .inl h.symm⟩
    · exact ⟨k, by simp, .inr h⟩
    · obtain ⟨k', h1, h2⟩ := maskOf_bit h
      exact ⟨k', by simp [h1], h2⟩

theorem masks_must {ops : Array Oper} : ∀ {r : List Oper} {acc : List Nat}, (∀ m : Nat, r[m]? = ops[acc.length + m]?) → (∀ i j, (acc.getD i 0).testBit j = true → Must ops j i) →
    ∀ i j, ((masks r acc).getD i 0).testBit j = true → Must ops j i
  | [], acc, _, h, i, j, hb => h i j hb
  | o :: r, acc, hr, h, i, j, hb => by
    refine masks_must (r := r) (acc := acc ++ [maskOf acc (waits o)]) (fun m => ?_) (fun i j hb => ?_) i j hb
    · have := hr (m + 1)
      simp only [List.getElem?_cons_succ] at this
      rw [this]
      simp only [List.length_append, List.length_cons, List.length_nil]
      congr 1; omega
    · have ho : ops[acc.length]? = some o := by
        have := hr 0
        simpa using this.symm
      rw [List.getD_eq_getElem?_getD] at hb
      by_cases hi : i < acc.length
      · rw [List.getElem?_append_left hi, ← List.getD_eq_getElem?_getD] at hb
        exact h i j hb
      · rw [List.getElem?_append_right (by omega)] at hb
        by_cases hz : i = acc.length
        · subst hz
          simp only [Nat.sub_self, List.getElem?_cons_zero, Option.getD_some] at hb
          obtain ⟨k, hk, hj⟩ := maskOf_bit hb
          rcases hj with rfl | hj
          · exact .one ho hk
          · exact .more ho hk (h k j hj)
        · have : ([maskOf acc (waits o)] : List Nat)[i - acc.length]? = none := by
            rw [List.getElem?_eq_none]; simp; omega
          rw [this] at hb
          simp at hb

/-- x may change places with all that stand before it, but for those that it waits for -/
def freeOf (m : Nat) (x : AOp) : Nat → List AOp → Bool
  | _, [] => true
  | j, y :: r => (m.testBit j || compat y x) && freeOf m x (j + 1) r

def frees : List AOp → List AOp → List Nat → Bool
  | _, [], _ => true
  | pre, x :: r, ms => freeOf (ms.getD pre.length 0) x 0 pre && frees (pre ++ [x]) r ms

def backs : Nat → List Oper → Bool
  | _, [] => true
  | i, o :: r => (waits o).all (fun k => decide (k < i)) && backs (i + 1) r

/-- any two of the text either must keep their order or may change places -/
def drawOK (ops : Array Oper) (l : List AOp) : Bool :=
  backs 0 ops.toList && frees [] l (masks ops.toList [])

theorem freeOf_get {m : Nat} {x : AOp} : ∀ {l : List AOp} {n j : Nat} {y : AOp}, freeOf m x n l = true → l[j]? = some y → m.testBit (n + j) = true ∨ compat y x = true
  | [], n, j, y, _, h => by simp at h
  | z :: r, n, j, y, h, hj => by
    simp only [freeOf, Bool.and_eq_true, Bool.or_eq_true] at h
    cases j with
    | zero =>
      simp only [List.getElem?_cons_zero, Option.some.injEq] at hj
      subst hj
      exact h.1
    | succ j =>
      simp only [List.getElem?_cons_succ] at hj
      have := freeOf_get h.2 hj
      rwa [show n + 1 + j = n + (j + 1) by omega] at this

theorem frees_get {ms : List Nat} : ∀ {l pre : List AOp}, frees pre l ms = true → ∀ {i j : Nat} {x y : AOp}, pre.length ≤ i → j < i → (pre ++ l)[i]? = some x → (pre ++ l)[j]? = some y → (ms.getD i 0).testBit j = true ∨ compat y x = true
  | [], pre, _, i, j, x, y, hi, _, hx, _ => by
    rw [List.append_nil, List.getElem?_eq_none hi] at hx
    cases hx
  | z :: r, pre, h, i, j, x, y, hi, hj, hx, hy => by
    simp only [frees, Bool.and_eq_true] at h
    by_cases he : i = pre.length
    · subst he
      simp only [List.getElem?_append_right (Nat.le_refl _), Nat.sub_self, List.getElem?_cons_zero, Option.some.injEq] at hx
      subst hx
      rw [List.getElem?_append_left hj] at hy
      have := freeOf_get h.1 hy
      simpa using this
    · have e1 : pre ++ z :: r = (pre ++ [z]) ++ r := by simp
      rw [e1] at hx hy
      exact frees_get h.2 (by simp; omega) hj hx hy

theorem backs_get : ∀ {l : List Oper} {n i : Nat} {o : Oper}, backs n l = true → l[i]? = some o → ∀ k, k ∈ waits o → k < n + i
  | [], n, i, o, _, h => by simp at h
  | z :: r, n, i, o, h, hi => by
    simp only [backs, Bool.and_eq_true, List.all_eq_true, decide_eq_true_eq] at h
    cases i with
    | zero =>
      simp only [List.getElem?_cons_zero, Option.some.injEq] at hi
      subst hi
      exact h.1
    | succ i =>
      simp only [List.getElem?_cons_succ] at hi
      intro k hk
      have := backs_get h.2 hi k hk
      omega

theorem cons_congr {C : CallFn} {x : AOp} {l l' : List AOp} {s : St} {e : Ex} {t : St} (hr : runOps C (x :: l) s = some (e, t))
    (h : ∀ s1 e1 t1, runOps C l s1 = some (e1, t1) → ∃ t2, runOps C l' s1 = some (e1, t2) ∧ Alike t1 t2) : ∃ t', runOps C (x :: l') s = some (e, t') ∧ Alike t t' := by
  simp only [runOps] at hr ⊢
  split at hr
  · simp at hr
  · exact h _ _ _ hr
  · split at hr
    · exact h _ _ _ hr
    · exact h _ _ _ hr
    · split at hr
      · rename_i hm
        rw [if_pos hm]
        exact ⟨t, hr, Alike.refl t⟩
      · simp at hr
    · simp at hr

theorem pickL_append (l : List AOp) (a b : List Nat) : pickL l (a ++ b) = pickL l a ++ pickL l b := by simp [pickL]

theorem pickL_range (l : List AOp) : ∀ n k, n + k = l.length → pickL l ((List.range' k n)) = l.drop k
  | 0, k, h => by
    simp [pickL, List.drop_eq_nil_of_le (show l.length ≤ k by omega)]
  | n + 1, k, h => by
    have hk : k < l.length := by omega
    have := pickL_range l n (k + 1) (by omega)
    simp only [pickL, List.range'_succ, List.filterMap_cons, List.getElem?_eq_getElem hk] at this ⊢
    rw [this]
    exact (List.drop_eq_getElem_cons hk).symm

/-- what has been done is closed under what must come before -/
def Closed (ops : Array Oper) (listed : Array Bool) : Prop := ∀ i o, ops[i]? = some o → listed.getD i false = true → ∀ k, k ∈ waits o → listed.getD k false = true

theorem must_listed {ops : Array Oper} {listed : Array Bool} (hc : Closed ops listed) {j i : Nat} (h : Must ops j i) : (∀ o, ops[i]? = some o → ∀ k, k ∈ waits o → listed.getD k false = true) → listed.getD j false = true := by
  induction h with
  | one ho hj => intro hi; exact hi _ ho _ hj
  | more ho hk _ ih => intro hi; exact ih fun o' ho' k' hk' => hc _ _ ho' (hi _ ho _ hk) _ hk'

theorem listed_conv {listed : Array Bool} {k : Nat} (h : listed.getD k false = true) : listed.getD k true = true := by
  rw [Array.getD_eq_getD_getElem?] at h ⊢
  cases hk : listed[k]? with
  | none => rfl
  | some b => rw [hk] at h; exact h

section
variable {ops : Array Oper} {l : List AOp}

theorem go_runs {C : CallFn} (hl : l.length = ops.size) (hd : drawOK ops l = true) : ∀ (fuel t : Nat) (listed : Array Bool) (rem : List Nat) (s : St) (e : Ex) (u : St), listed.size = ops.size → Closed ops listed →
    rem.Pairwise (· < ·) → (∀ j, j ∈ rem ↔ j < ops.size ∧ listed.getD j true = false) → rem.length ≤ fuel → runOps C (pickL l rem) s = some (e, u) →
    ∃ u', runOps C (pickL l (Region.linearise.go .any ops fuel t listed [])) s = some (e, u') ∧ Alike u u'
  | 0, t, listed, rem, s, e, u, _, _, _, _, hf, hr => by
    have : rem = [] := List.eq_nil_of_length_eq_zero (by omega)
    subst this
    simp only [Region.linearise.go]
    exact ⟨u, hr, Alike.refl u⟩
  | fuel + 1, t, listed, rem, s, e, u, hsz, hcl, hsort, hrem, hf, hr => by
    have hd' := hd
    simp only [drawOK, Bool.and_eq_true] at hd'
    obtain ⟨hback, hfree⟩ := hd'
    have hready : ∀ i, i ∈ Region.ready .any ops listed ↔ listed.getD i true = false ∧ ∃ o, ops[i]? = some o ∧ ∀ k, k ∈ waits o → listed.getD k false = true := fun i => by
      rw [mem_ready]
      refine and_congr Iff.rfl (exists_congr fun o => and_congr Iff.rfl ?_)
      constructor
      · intro h k hk
        simp only [waits, List.mem_filterMap] at hk
        obtain ⟨e, he, hb⟩ := hk
        split at hb
        · rename_i hb'
          simp only [Option.some.injEq] at hb
          subst hb
          exact h e (by simpa using he) hb'
        · simp at hb
      · intro h e he hb
        exact h e.on (by simp only [waits, List.mem_filterMap]; exact ⟨e, by simpa using he, by simp [hb]⟩)
    simp only [Region.linearise.go]
    change ∃ u', runOps C (pickL l (match (Region.ready .any ops listed)[t % (Region.ready .any ops listed).length]? with
      | some i => Region.linearise.go .any ops fuel (t / (Region.ready .any ops listed).length) (listed.setIfInBounds i true) [i]
      | none => [].reverse)) s = some (e, u') ∧ Alike u u'
    cases hi : (Region.ready .any ops listed)[t % (Region.ready .any ops listed).length]? with
    | none =>
      have hnil : Region.ready .any ops listed = [] := by
        cases hrr : Region.ready .any ops listed with
        | nil => rfl
        | cons x xs =>
          rw [hrr] at hi
          have hlt : t % (x :: xs).length < (x :: xs).length := Nat.mod_lt _ (by simp)
          simp at hi
          simp at hlt
          omega
      have : rem = [] := by
        cases rem with
        | nil => rfl
        | cons i0 r =>
          exfalso
          have h0 := (hrem i0).1 (by simp)
          have : i0 ∈ Region.ready .any ops listed := by
            rw [hready]
            refine ⟨h0.2, ops[i0]'h0.1, Array.getElem?_eq_getElem h0.1, fun k hk => ?_⟩
            have hlt := backs_get (i := i0) hback (by rw [Array.getElem?_toList]; exact Array.getElem?_eq_getElem h0.1) k hk
            have hk' : k < i0 := by omega
            cases hkk : listed.getD k false with
            | true => rfl
            | false =>
              exfalso
              have hkt : listed.getD k true = false := by
                have hks : k < listed.size := by omega
                simpa [Array.getD, hks] using hkk
              have := (hrem k).2 ⟨by omega, hkt⟩
              rcases List.mem_cons.1 this with e1 | e1
              · omega
              · have := (List.pairwise_cons.1 hsort).1 k e1
                omega
          rw [hnil] at this
          simp at this
      subst this
      exact ⟨u, hr, Alike.refl u⟩
    | some i =>
      simp only []
      have him := List.mem_of_getElem? hi
      obtain ⟨h1, o, ho, h2⟩ := (hready i).1 him
      have hlt : i < ops.size := (Array.getElem?_eq_some_iff.1 ho).1
      have hir : i ∈ rem := (hrem i).2 ⟨hlt, h1⟩
      obtain ⟨r1, r2, rfl⟩ := List.append_of_mem hir
      have hx : l[i]? = some (l[i]'(by omega)) := List.getElem?_eq_getElem _
      have hpick : ∀ r, pickL l (i :: r) = l[i]'(by omega) :: pickL l r := fun r => by simp only [pickL, List.filterMap_cons, hx]
      rw [pickL_append, hpick] at hr
      have hs2 := List.pairwise_append.1 hsort
      have hs3 := List.pairwise_cons.1 hs2.2.1
      obtain ⟨u1, hr1, a1⟩ := front (fun y hy => by
        simp only [pickL, List.mem_filterMap] at hy
        obtain ⟨j, hj, hyj⟩ := hy
        have hji : j < i := hs2.2.2 j hj i (by simp)
        have hjl := (hrem j).1 (by simp [hj])
        rcases frees_get hfree (i := i) (j := j) (by simp) hji (by rw [List.nil_append]; exact hx) (by rw [List.nil_append]; exact hyj) with hm | hm
        · exfalso
          have hmust := masks_must (ops := ops) (r := ops.toList) (acc := []) (fun m => by simp) (fun i j h => by simp at h) i j hm
          have := listed_conv (must_listed hcl hmust fun o' ho' k hk => by
            rw [ho] at ho'
            cases ho'
            exact h2 k hk)
          rw [hjl.2] at this
          cases this
        · exact hm) hr
      rw [linearise_go_acc, List.reverse_singleton, List.singleton_append, hpick]
      have hset : ∀ j d, (listed.setIfInBounds i true).getD j d = if i = j then true else listed.getD j d := fun j d => by
        by_cases hij : i = j
        · subst hij
          have : i < listed.size := by omega
          simp [Array.getD, this]
        · rw [if_neg hij]; exact getD_set_ne d hij
      have hc := cons_congr (l' := pickL l (Region.linearise.go .any ops fuel (t / (Region.ready .any ops listed).length) (listed.setIfInBounds i true) [])) hr1 fun s1 e1 t1 hr2 => by
        rw [← pickL_append] at hr2
        refine go_runs hl hd fuel _ (listed.setIfInBounds i true) (r1 ++ r2) s1 e1 t1 (by simpa using hsz) ?_ ?_ ?_ (by simp at hf ⊢; omega) hr2
        · intro i' o' ho' hl' k hk
          rw [hset] at hl' ⊢
          split
          · rfl
          · split at hl'
            · rename_i hii
              subst hii
              rw [ho] at ho'
              cases ho'
              exact h2 k hk
            · exact hcl i' o' ho' hl' k hk
        · exact List.pairwise_append.2 ⟨hs2.1, hs3.2, fun a ha b hb => hs2.2.2 a ha b (by simp [hb])⟩
        · intro j
          rw [hset]
          have hj := hrem j
          simp only [List.mem_append, List.mem_cons] at hj ⊢
          by_cases hij : i = j
          · subst hij
            simp only [if_true]
            constructor
            · rintro (h | h)
              · exact absurd (hs2.2.2 i h i (by simp)) (by omega)
              · exact absurd (hs3.1 i h) (by omega)
            · rintro ⟨_, h⟩; cases h
          · rw [if_neg hij, ← hj]
            constructor
            · rintro (h | h)
              · exact .inl h
              · exact .inr (.inr h)
            · rintro (h | h | h)
              · exact .inl h
              · exact absurd h.symm hij
              · exact .inr h
      obtain ⟨u2, hr3, a2⟩ := hc
      exact ⟨u2, hr3, a1.trans a2⟩

theorem schedule_runs {C : CallFn} (hl : l.length = ops.size) (hd : drawOK ops l = true) (t : Nat) {s : St} {e : Ex} {u : St} (hr : runOps C l s = some (e, u)) :
    ∃ u', runOps C (pickL l (Region.schedule true ops t)) s = some (e, u') ∧ Alike u u' := by
  have hs : Region.schedule true ops t = Region.linearise .any ops t := by simp [Region.schedule]
  rw [hs]
  have hgd : ∀ j d, (Array.replicate ops.size false).getD j d = if j < ops.size then false else d := fun j d => by
    by_cases h : j < ops.size
    · simp [Array.getD, h]
    · simp [Array.getD, h]
  refine go_runs hl hd ops.size t (Array.replicate ops.size false) (List.range ops.size) s e u (by simp) (fun i o ho h => ?_) List.pairwise_lt_range (fun j => ?_) (by simp) ?_
  · rw [hgd] at h
    split at h <;> cases h
  · rw [hgd, List.mem_range]
    constructor
    · intro h; exact ⟨h, by simp [h]⟩
    · intro h; exact h.1
  · have := pickL_range l ops.size 0 (by omega)
    rw [List.drop_zero] at this
    rw [List.range_eq_range', this]
    exact hr

end
end Go.Ab
