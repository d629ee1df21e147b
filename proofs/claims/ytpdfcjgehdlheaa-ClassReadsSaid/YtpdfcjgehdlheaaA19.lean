/- Operations that do not meddle with each other may change places. -/
import Derived.Test.YtpdfcjgehdlheaaA18
set_option linter.all false
namespace Go.Ab

def Opd.isT (n : Nat) : Opd → Bool
  | .t m => m == n
  | _ => false

def isG (n : Nat) : Option (Nat × Bool) → Bool
  | some (t, _) => t == n
  | none => false

def AOp.uses (o : AOp) (n : Nat) : Bool := o.op.gets.any (Opd.isT n) || o.op.raw.any (Opd.isT n) || isG n o.guard

/-- a load, and a store that sees to it that it stores elsewhere -/
def sep : AOpk → AOpk → Bool
  | .loadB _ _ (.t n), .storeW _ _ _ ws => ws.any (Opd.isT n)
  | _, _ => false

/-- y before x in the text: they may change places -/
def compat (y x : AOp) : Bool :=
  !y.may && !x.may &&
  (match y.dst with | some d => !x.uses d && x.dst != some d | none => true) &&
  (match x.dst with | some d => !y.uses d | none => true) &&
  (match y.op.raw with | some (.t n) => !x.op.raw.any (Opd.isT n) && !isG n x.guard | _ => true) &&
  (match x.op.raw with | some (.t n) => !isG n y.guard | _ => true) &&
  (x.op.cls == 0 || y.op.cls == 0 || (decide (y.op.cls ≤ 2) && decide (x.op.cls ≤ 2)) || (y.op.cls == 1 && x.op.cls == 3) || (y.op.cls == 1 && x.op.cls == 5) || (y.op.cls == 5 && x.op.cls == 1) || sep y.op x.op || sep x.op y.op)

def Agr (o : AOp) (sl sl2 : Slots) : Prop :=
  (∀ x, x ∈ o.op.gets → getO sl2 x = getO sl x) ∧ (∀ x, o.op.raw = some x → rawO sl2 x = rawO sl x) ∧ (∀ t b, o.guard = some (t, b) → sl2.get t = sl.get t)

theorem get_unOwnS {sl : Slots} {r : Option Opd} {t : Nat} : (unOwnS sl r).get t = sl.get t ∨ (r = some (.t t) ∧ ∃ es, sl.get t = some (.own es) ∧ (unOwnS sl r).get t = some (.d (.lst es))) := by
  unfold unOwnS
  split
  · rename_i n
    split
    · rename_i es h
      by_cases hn : n = t
      · subst hn
        exact .inr ⟨rfl, es, h, by simp [Slots.put, Slots.get]⟩
      · exact .inl (by simp [Slots.put, Slots.get, hn])
    · exact .inl rfl
  · exact .inl rfl

theorem getO_unOwnS {sl : Slots} {r : Option Opd} {x : Opd} : getO (unOwnS sl r) x = getO sl x := by
  cases x with
  | t n =>
    simp only [getO, rawO]
    rcases get_unOwnS (sl := sl) (r := r) (t := n) with h | ⟨_, es, h1, h2⟩
    · rw [h]
    · rw [h1, h2]; rfl
  | c v => rfl
  | f id => rfl

theorem get_put_ne {sl : Slots} {n m : Nat} {v : AV} (h : n ≠ m) : (sl.put n v).get m = sl.get m := by simp [Slots.put, Slots.get, h]

/-- the slots behind it -/
def slAfter (o : AOp) (b : Bool) (v : Option AV) (sl : Slots) : Slots :=
  let sl' := if b then unOwnS sl o.op.raw else sl
  match v, o.dst with
  | some v, some d => sl'.put d v
  | _, _ => sl'

theorem isT_false {n m : Nat} (h : Opd.isT n (.t m) = false) : n ≠ m := by
  simp [Opd.isT] at h; omega

theorem agr_of {y x : AOp} {b : Bool} {v : Option AV} {sl : Slots} (h1 : ∀ d, y.dst = some d → x.uses d = false)
    (h2 : ∀ n, y.op.raw = some (.t n) → x.op.raw.any (Opd.isT n) = false ∧ isG n x.guard = false) : Agr x sl (slAfter y b v sl) := by
  have hput : ∀ (sl' : Slots) (t : Nat), (∀ d, y.dst = some d → d ≠ t) → Slots.get (match v, y.dst with | some v, some d => sl'.put d v | _, _ => sl') t = sl'.get t := fun sl' t ht => by
    split
    · rename_i d _ hd
      exact get_put_ne (ht _ (by assumption))
    · rfl
  refine ⟨fun z hz => ?_, fun z hz => ?_, fun t b' hg => ?_⟩
  · cases z with
    | t n =>
      have hn : ∀ d, y.dst = some d → d ≠ n := fun d hd e => by
        subst e
        have := h1 d hd
        simp only [AOp.uses, Bool.or_eq_false_iff, List.any_eq_false] at this
        exact this.1.1 _ hz (by simp [Opd.isT])
      have : getO (slAfter y b v sl) (.t n) = getO (if b then unOwnS sl y.op.raw else sl) (.t n) := by
        simp only [getO, rawO, slAfter]
        rw [hput _ _ hn]
      rw [this]
      cases b
      · rfl
      · exact getO_unOwnS
    | c c => rfl
    | f id => rfl
  · cases z with
    | t n =>
      have hu : ∀ d, y.dst = some d → d ≠ n := fun d hd e => by
        subst e
        have := h1 d hd
        simp only [AOp.uses, Bool.or_eq_false_iff] at this
        rw [hz] at this
        simp [Opd.isT] at this
      simp only [rawO, slAfter]
      rw [hput _ _ hu]
      cases b
      · rfl
      · simp only [if_true]
        rcases get_unOwnS (sl := sl) (r := y.op.raw) (t := n) with h | ⟨hr, _⟩
        · exact h
        · have := (h2 n hr).1
          rw [hz] at this
          simp [Opd.isT] at this
    | c c => rfl
    | f id => rfl
  · have hu : ∀ d, y.dst = some d → d ≠ t := fun d hd e => by
      subst e
      have := h1 d hd
      simp only [AOp.uses, Bool.or_eq_false_iff] at this
      rw [hg] at this
      simp [isG] at this
    simp only [slAfter]
    rw [hput _ _ hu]
    cases b
    · rfl
    · simp only [if_true]
      rcases get_unOwnS (sl := sl) (r := y.op.raw) (t := t) with h | ⟨hr, _⟩
      · exact h
      · have := (h2 t hr).2
        rw [hg] at this
        simp [isG] at this

/-- what an operation that cannot panic comes to -/
def eff (C : CallFn) (o : AOp) (s : St) : Option (Option AV × Bool × St) :=
  match wantedA s o.guard with
  | none => none
  | some false => some (some (.tup []), false, { s with sl := [] })
  | some true =>
    match stepOp C s o.op with
    | some (.val v s') => some (some v, true, { s' with sl := [] })
    | some (.none_ s') => some (none, true, { s' with sl := [] })
    | _ => none

def fin (o : AOp) (sl : Slots) : Option AV × Bool × St → St
  | (v, b, m) => { m with sl := slAfter o b v sl }

theorem runOps_eff {C : CallFn} {o : AOp} (hm : o.may = false) {r : List AOp} {s : St} : runOps C (o :: r) s = (eff C o s).bind fun x => runOps C r (fin o s.sl x) := by
  simp only [runOps, eff]
  cases hg : wantedA s o.guard with
  | none => rfl
  | some b =>
    cases b with
    | false =>
      simp only [Option.bind_some, fin, slAfter]
      cases o.dst <;> rfl
    | true =>
      have hss := step_slots (C := C) (s := s) (o := o.op) (sl2 := s.sl) (fun _ _ => rfl) (fun _ _ => rfl)
      have hs0 : ({ s with sl := s.sl } : St) = s := rfl
      rw [hs0] at hss
      cases hs : stepOp C s o.op with
      | none => rfl
      | some d =>
        rw [hs] at hss
        simp only [Option.map_some, Option.some.injEq] at hss
        cases d with
        | val v s' =>
          simp only [Did.mapSt, Did.val.injEq, true_and] at hss
          simp only [Option.bind_some, fin, slAfter]
          rw [hss]
          cases o.dst <;> rfl
        | none_ s' =>
          simp only [Did.mapSt, Did.none_.injEq] at hss
          simp only [Option.bind_some, fin, slAfter]
          rw [hss]
          rfl
        | pan v s' => simp [hm]

theorem eff_agr {C : CallFn} {o : AOp} {s : St} {sl2 : Slots} (h : Agr o s.sl sl2) : eff C o { s with sl := sl2 } = eff C o s := by
  have hw : wantedA { s with sl := sl2 } o.guard = wantedA s o.guard := by
    cases hg : o.guard with
    | none => rfl
    | some p =>
      obtain ⟨t, b⟩ := p
      simp only [wantedA]
      rw [h.2.2 t b hg]
  simp only [eff, hw, step_slots h.1 h.2.1]
  split
  · rfl
  · rfl
  · cases stepOp C s o.op with
    | none => rfl
    | some d => cases d <;> rfl

def St.mem (s m : St) : St := { m with sl := s.sl }

theorem step_mem0 {C : CallFn} {s m : St} {o : AOpk} (h : o.cls = 0) : stepOp C (s.mem m) o = (stepOp C s o).map (Did.mapSt fun st => st.mem m) := by
  have vlm : ∀ v : Option AV, vl (s.mem m) v = (vl s v).map (Did.mapSt fun st => st.mem m) := fun v => by cases v <;> rfl
  cases o <;> (try (simp [AOpk.cls] at h; done)) <;> simp only [stepOp, unOwn_sl, St.mem]
  all_goals first
    | exact vlm _
    | rfl
    | (repeat' split
       all_goals first | exact vlm _ | rfl)


def Loads (m m' : St) : Prop := ∀ agg p v, loadAt m.rf agg p = some v → loadAt m'.rf agg p = some v

theorem step_mem1 {C : CallFn} {s m : St} {o : AOpk} (h : o.cls = 1) (hl : Loads s m) {d : Did} (hd : stepOp C s o = some d) : stepOp C (s.mem m) o = some (d.mapSt fun st => st.mem m) := by
  cases o <;> (try (simp [AOpk.cls] at h; done)) <;> simp only [stepOp] at hd ⊢
  case load agg x =>
    have : getO (s.mem m).sl x = getO s.sl x := rfl
    rw [this]
    split at hd
    · rename_i p hp
      unfold vl at hd ⊢
      simp only [Option.map_map, Option.map_eq_some_iff, Function.comp] at hd
      obtain ⟨v, hv, rfl⟩ := hd
      have : (s.mem m).rf = m.rf := rfl
      rw [this, hl _ _ _ hv]
      rfl
    · simp at hd
  case loadB agg x b =>
    have h1 : getO (s.mem m).sl x = getO s.sl x := rfl
    have h2 : getO (s.mem m).sl b = getO s.sl b := rfl
    rw [h1, h2]
    split at hd
    · split at hd
      · rename_i r off q o' hp hq hrq
        rw [if_pos hrq]
        unfold vl at hd ⊢
        simp only [Option.map_map, Option.map_eq_some_iff, Function.comp] at hd
        obtain ⟨v, hv, rfl⟩ := hd
        have : (s.mem m).rf = m.rf := rfl
        rw [this, hl _ _ _ hv]
        rfl
      · simp at hd
    · simp at hd

theorem unOwnS_mem {s : St} {x : Opd} : (unOwn s x).rf = s.rf ∧ (unOwn s x).df = s.df ∧ (unOwn s x).pn = s.pn ∧ (unOwn s x).nb = s.nb := by
  rw [unOwn_sl]; exact ⟨rfl, rfl, rfl, rfl⟩

/-- memory is as it was -/
theorem step_mem2 {C : CallFn} {s : St} {o : AOpk} (h : o.cls ≤ 2) {d : Did} (hd : stepOp C s o = some d) : ({ d.st with sl := [] } : St) = { s with sl := [] } := by
  by_cases h0 : o.cls = 0
  · have := step_mem0 (C := C) (s := s) (m := s) h0
    have hs : s.mem s = s := rfl
    rw [hs, hd] at this
    simp only [Option.map_some, Option.some.injEq] at this
    cases d with
    | val v s' => simp only [Did.mapSt, Did.val.injEq, true_and] at this; simp only [Did.st]; rw [this]; rfl
    | none_ s' => simp only [Did.mapSt, Did.none_.injEq] at this; simp only [Did.st]; rw [this]; rfl
    | pan v s' => simp only [Did.mapSt, Did.pan.injEq, true_and] at this; simp only [Did.st]; rw [this]; rfl
  · cases o <;> (try (simp [AOpk.cls] at h h0; done)) <;> simp only [stepOp] at hd
    case load agg x =>
      split at hd
      · rw [vl_st hd]
      · simp at hd
    case loadB agg x b =>
      split at hd
      · split at hd
        · rw [vl_st hd]
        · simp at hd
      · simp at hd
    case callQ f xs =>
      split at hd
      · split at hd
        · split at hd
          · simp only [Option.some.injEq] at hd; subst hd; rfl
          · simp at hd
        · simp at hd
      · simp at hd

theorem loads_push {m : St} {cs : List AV} {m' : St} (h : m'.rf = m.rf ++ [cs]) : Loads m m' := by
  intro agg p v hv
  unfold loadAt at hv ⊢
  cases p with
  | ptr r off =>
    simp only at hv ⊢
    rw [h]
    cases agg with
    | none =>
      simp only at hv ⊢
      split at hv
      · rename_i c hc
        rw [List.getElem?_append_left (List.getElem?_eq_some_iff.1 hc).1, hc]
        exact hv
      · simp at hv
    | some n =>
      simp only [Refs.cellsAt] at hv ⊢
      cases hc : m.rf[r]? with
      | none => simp [hc] at hv
      | some c =>
        rw [hc] at hv
        rw [List.getElem?_append_left (List.getElem?_eq_some_iff.1 hc).1, hc]
        exact hv
  | ept c o => exact hv
  | _ => simp at hv

theorem step_mem3 {C : CallFn} {s : St} {o : AOpk} (h : o.cls = 3) {d : Did} (hd : stepOp C s o = some d) : Loads s d.st := by
  cases o <;> (try (simp [AOpk.cls] at h; done)) <;> simp only [stepOp] at hd
  case alloc cells =>
    simp only [Option.some.injEq] at hd; subst hd
    exact loads_push rfl
  case box x =>
    split at hd
    · split at hd
      · simp only [Option.some.injEq] at hd; subst hd
        exact loads_push rfl
      · simp at hd
    · simp at hd

theorem eff_mem0 {C : CallFn} {s m : St} {o : AOp} (h : o.op.cls = 0) {v : Option AV} {b : Bool} {m' : St} (he : eff C o s = some (v, b, m')) : eff C o (s.mem m) = some (v, b, { m with sl := [] }) := by
  have hw : wantedA (s.mem m) o.guard = wantedA s o.guard := by cases o.guard <;> rfl
  simp only [eff, hw, step_mem0 h] at he ⊢
  split at he
  · simp at he
  · simp only [Option.some.injEq, Prod.mk.injEq] at he ⊢
    obtain ⟨rfl, rfl, rfl⟩ := he
    exact ⟨rfl, rfl, rfl⟩
  · cases hs : stepOp C s o.op with
    | none => rw [hs] at he; simp at he
    | some d =>
      rw [hs] at he
      cases d with
      | val u s' =>
        simp only [Option.some.injEq, Prod.mk.injEq] at he
        obtain ⟨rfl, rfl, rfl⟩ := he
        rfl
      | none_ s' =>
        simp only [Option.some.injEq, Prod.mk.injEq] at he
        obtain ⟨rfl, rfl, rfl⟩ := he
        rfl
      | pan u s' => simp at he

theorem eff_mem1 {C : CallFn} {s m : St} {o : AOp} (h : o.op.cls = 1) (hl : Loads s m) {v : Option AV} {b : Bool} {m' : St} (he : eff C o s = some (v, b, m')) : eff C o (s.mem m) = some (v, b, { m with sl := [] }) := by
  have hw : wantedA (s.mem m) o.guard = wantedA s o.guard := by cases o.guard <;> rfl
  simp only [eff, hw] at he ⊢
  split at he
  · simp at he
  · simp only [Option.some.injEq, Prod.mk.injEq] at he ⊢
    obtain ⟨rfl, rfl, rfl⟩ := he
    exact ⟨rfl, rfl, rfl⟩
  · cases hs : stepOp C s o.op with
    | none => rw [hs] at he; simp at he
    | some d =>
      rw [hs] at he
      rw [step_mem1 h hl hs]
      cases d with
      | val u s' =>
        simp only [Option.some.injEq, Prod.mk.injEq] at he
        obtain ⟨rfl, rfl, rfl⟩ := he
        rfl
      | none_ s' =>
        simp only [Option.some.injEq, Prod.mk.injEq] at he
        obtain ⟨rfl, rfl, rfl⟩ := he
        rfl
      | pan u s' => simp at he

theorem eff_mem2 {C : CallFn} {s : St} {o : AOp} (h : o.op.cls ≤ 2) {v : Option AV} {b : Bool} {m' : St} (he : eff C o s = some (v, b, m')) : m' = { s with sl := [] } := by
  simp only [eff] at he
  split at he
  · simp at he
  · simp only [Option.some.injEq, Prod.mk.injEq] at he
    exact he.2.2.symm
  · cases hs : stepOp C s o.op with
    | none => rw [hs] at he; simp at he
    | some d =>
      have := step_mem2 h hs
      rw [hs] at he
      cases d with
      | val u s' =>
        simp only [Option.some.injEq, Prod.mk.injEq] at he
        obtain ⟨rfl, rfl, rfl⟩ := he
        exact this
      | none_ s' =>
        simp only [Option.some.injEq, Prod.mk.injEq] at he
        obtain ⟨rfl, rfl, rfl⟩ := he
        exact this
      | pan u s' => simp at he

theorem eff_mem3 {C : CallFn} {s : St} {o : AOp} (h : o.op.cls = 3) {v : Option AV} {b : Bool} {m' : St} (he : eff C o s = some (v, b, m')) : Loads s m' := by
  simp only [eff] at he
  split at he
  · simp at he
  · simp only [Option.some.injEq, Prod.mk.injEq] at he
    obtain ⟨_, _, rfl⟩ := he
    exact fun _ _ _ h => h
  · cases hs : stepOp C s o.op with
    | none => rw [hs] at he; simp at he
    | some d =>
      have := step_mem3 h hs
      rw [hs] at he
      cases d with
      | val u s' =>
        simp only [Option.some.injEq, Prod.mk.injEq] at he
        obtain ⟨rfl, rfl, rfl⟩ := he
        exact this
      | none_ s' =>
        simp only [Option.some.injEq, Prod.mk.injEq] at he
        obtain ⟨rfl, rfl, rfl⟩ := he
        exact this
      | pan u s' => simp at he

/-- loads give the same, leave to append apart -/
def SameL (m m' : St) : Prop := ∀ agg p, (loadAt m.rf agg p).map AV.strip = (loadAt m'.rf agg p).map AV.strip

theorem SameL.symm {m m' : St} (h : SameL m m') : SameL m' m := fun agg p => (h agg p).symm

theorem step_memL {C : CallFn} {s m : St} {o : AOpk} (h : o.cls = 1) (hl : SameL s m) : stepOp C (s.mem m) o = (stepOp C s o).map (Did.mapSt fun st => st.mem m) := by
  cases o <;> (try (simp [AOpk.cls] at h; done)) <;> simp only [stepOp]
  case load agg x =>
    have h1 : getO (s.mem m).sl x = getO s.sl x := rfl
    rw [h1]
    split
    · rename_i p hp
      have h2 : (s.mem m).rf = m.rf := rfl
      rw [h2, ← hl agg p]
      unfold vl
      cases (loadAt s.rf agg p).map AV.strip <;> rfl
    · rfl
  case loadB agg x b =>
    have h1 : getO (s.mem m).sl x = getO s.sl x := rfl
    have h3 : getO (s.mem m).sl b = getO s.sl b := rfl
    rw [h1, h3]
    split
    · rename_i r off q o' hp hq
      split
      · have h2 : (s.mem m).rf = m.rf := rfl
        rw [h2, ← hl agg _]
        unfold vl
        cases (loadAt s.rf agg (.ptr r off)).map AV.strip <;> rfl
      · rfl
    · rfl

theorem eff_memL {C : CallFn} {s m : St} {o : AOp} (h : o.op.cls = 1) (hl : SameL s m) {v : Option AV} {b : Bool} {m' : St} (he : eff C o s = some (v, b, m')) : eff C o (s.mem m) = some (v, b, { m with sl := [] }) := by
  have hw : wantedA (s.mem m) o.guard = wantedA s o.guard := by cases o.guard <;> rfl
  simp only [eff, hw, step_memL h hl] at he ⊢
  split at he
  · simp at he
  · simp only [Option.some.injEq, Prod.mk.injEq] at he ⊢
    obtain ⟨rfl, rfl, rfl⟩ := he
    exact ⟨rfl, rfl, rfl⟩
  · cases hs : stepOp C s o.op with
    | none => rw [hs] at he; simp at he
    | some d =>
      rw [hs] at he
      cases d with
      | val u s' =>
        simp only [Option.some.injEq, Prod.mk.injEq] at he
        obtain ⟨rfl, rfl, rfl⟩ := he
        rfl
      | none_ s' =>
        simp only [Option.some.injEq, Prod.mk.injEq] at he
        obtain ⟨rfl, rfl, rfl⟩ := he
        rfl
      | pan u s' => simp at he

mutual
theorem strip_strip : ∀ x : AV, x.strip.strip = x.strip
  | .own es => rfl
  | .agg cs => by simp only [AV.strip, strips_strips cs]
  | .ifc t v => by simp only [AV.strip, strip_strip v]
  | .tup vs => by simp only [AV.strip, strips_strips vs]
  | .d x => rfl
  | .nil => rfl
  | .ptr r o => rfl
  | .ept cs o => rfl
  | .sref r o n => rfl
  | .fn f a b => rfl
theorem strips_strips : ∀ l : List AV, AV.strips (AV.strips l) = AV.strips l
  | [] => rfl
  | x :: l => by simp only [AV.strips, strip_strip x, strips_strips l]
end

theorem strips_map : ∀ l : List AV, AV.strips l = l.map AV.strip
  | [] => rfl
  | x :: l => by simp [AV.strips, strips_map l]

theorem strips_set {l : List AV} {i : Nat} {v : AV} (h : l[i]? = some v) : AV.strips (l.set i v.strip) = AV.strips l := by
  rw [strips_map, strips_map, List.map_set, strip_strip]
  apply List.ext_getElem?
  intro j
  rw [List.getElem?_set]
  split
  · rename_i hij
    subst hij
    have := (List.getElem?_eq_some_iff.1 h).1
    rw [List.length_map, if_pos this, List.getElem?_map, h]
    rfl
  · rfl

theorem sameL_set {m m' : St} {r off : Nat} {cs : List AV} {v : AV} (hcs : m.rf[r]? = some cs) (hv : cs[off]? = some v) (h : m'.rf = m.rf.set r (cs.set off v.strip)) : SameL m m' := by
  have hlt := (List.getElem?_eq_some_iff.1 hcs).1
  have hget : ∀ q, m'.rf[q]? = if r = q then some (cs.set off v.strip) else m.rf[q]? := fun q => by
    rw [h, List.getElem?_set]
    split
    · first | rfl | rw [if_pos hlt]
    · rfl
  intro agg p
  cases p with
  | ptr q o =>
    cases agg with
    | none =>
      simp only [loadAt, hget]
      by_cases hq : r = q
      · subst hq
        simp only [if_true, hcs]
        rw [List.getElem?_set]
        by_cases ho : off = o
        · subst ho
          rw [if_pos rfl, if_pos (List.getElem?_eq_some_iff.1 hv).1, hv]
          simp [strip_strip]
        · rw [if_neg ho]
      · rw [if_neg hq]
    | some n =>
      simp only [loadAt, Refs.cellsAt, hget]
      by_cases hq : r = q
      · subst hq
        simp only [if_true, hcs, List.length_set]
        split
        · simp only [Option.map_some, AV.strip, Option.some.injEq, AV.agg.injEq]
          have := strips_set hv
          rw [strips_map, strips_map] at this
          rw [strips_map, strips_map, List.map_take, List.map_drop, List.map_take, List.map_drop, this]
        · rfl
      · rw [if_neg hq]
  | ept cs o => rfl
  | _ => rfl

theorem eff_mem5 {C : CallFn} {s : St} {o : AOp} (h : o.op.cls = 5) {v : Option AV} {b : Bool} {m' : St} (he : eff C o s = some (v, b, m')) : SameL s m' := by
  simp only [eff] at he
  split at he
  · simp at he
  · simp only [Option.some.injEq, Prod.mk.injEq] at he
    obtain ⟨_, _, rfl⟩ := he
    exact fun _ _ => rfl
  · rename_i hwant
    obtain ⟨dst, op, gd, may⟩ := o
    simp only at h he
    clear hwant
    cases op <;> (try (simp [AOpk.cls] at h; done))
    case takeload a =>
      cases hs : stepOp C s (.takeload a) with
      | none => rw [hs] at he; simp at he
      | some d =>
        rw [hs] at he
        simp only [stepOp] at hs
        split at hs
        · rename_i r off hp
          split at hs
          · rename_i u hu
            split at hs
            · rename_i cs hcs
              simp only [Option.some.injEq] at hs
              subst hs
              simp only [Option.some.injEq, Prod.mk.injEq] at he
              obtain ⟨_, _, rfl⟩ := he
              simp only [loadAt, hcs] at hu
              exact sameL_set hcs hu rfl
            · simp at hs
          · simp at hs
        · simp at hs



theorem apartB_get {s : Slots} {r n q off : Nat} : ∀ {l : List Opd}, apartB s r l = true → l.any (Opd.isT n) = true → getO s (.t n) = some (.ptr q off) → q ≠ r
  | [], _, h, _ => by simp at h
  | x :: l, h, hm, hg => by
    simp only [apartB, Bool.and_eq_true] at h
    simp only [List.any_cons, Bool.or_eq_true] at hm
    rcases hm with hm | hm
    · cases x <;> simp [Opd.isT] at hm
      subst hm
      have := h.1
      rw [hg] at this
      simpa using this
    · exact apartB_get h.2 hm hg

/-- where nothing is stored, memory is as it was -/
theorem eff_memW {C : CallFn} {s : St} {x y : AOp} (h : sep y.op x.op = true) {v : Option AV} {b : Bool} {m' : St} (he : eff C x s = some (v, b, m')) :
    ∀ agg a n, y.op = .loadB agg a (.t n) → ∀ q off, getO s.sl (.t n) = some (.ptr q off) → m'.rf[q]? = s.rf[q]? := by
  intro agg a n hy q off hg
  rw [hy] at h
  obtain ⟨dst, op, gd, may⟩ := x
  cases op <;> simp only [sep, Bool.false_eq_true] at h
  rename_i sz ad va ws
  simp only [eff] at he
  split at he
  · simp at he
  · simp only [Option.some.injEq, Prod.mk.injEq] at he
    obtain ⟨_, _, rfl⟩ := he
    rfl
  · cases hs : stepOp C s (.storeW sz ad va ws) with
    | none => rw [hs] at he; simp at he
    | some d =>
      rw [hs] at he
      simp only [stepOp] at hs
      split at hs
      · rename_i r off' u hp hu
        split at hs
        · rename_i hap
          split at hs
          · rename_i rf hrf
            simp only [Option.some.injEq] at hs
            subst hs
            simp only [Option.some.injEq, Prod.mk.injEq] at he
            obtain ⟨_, _, rfl⟩ := he
            have hne := apartB_get hap h hg
            simp only [unOwn_rf]
            simp only [storeAt] at hrf
            split at hrf
            · simp at hrf
            · split at hrf
              · split at hrf
                · simp only [Option.some.injEq] at hrf
                  subst hrf
                  rw [List.getElem?_set_ne (fun e => hne e.symm)]
                · simp at hrf
              · simp at hrf
          · simp at hs
        · simp at hs
      · simp at hs

theorem loadAt_same {rf rf' : Refs} {r : Nat} (h : rf'[r]? = rf[r]?) (agg : Option Nat) (off : Nat) : loadAt rf' agg (.ptr r off) = loadAt rf agg (.ptr r off) := by
  cases agg with
  | none => simp only [loadAt, h]
  | some n => simp only [loadAt, Refs.cellsAt, h]

theorem eff_memR {C : CallFn} {s m : St} {y : AOp} {agg : Option Nat} {a : Opd} {n : Nat} (hy : y.op = .loadB agg a (.t n)) (hm : ∀ q off, getO s.sl (.t n) = some (.ptr q off) → m.rf[q]? = s.rf[q]?)
    {v : Option AV} {b : Bool} {m' : St} (he : eff C y s = some (v, b, m')) : eff C y (s.mem m) = some (v, b, { m with sl := [] }) := by
  have hw : wantedA (s.mem m) y.guard = wantedA s y.guard := by cases y.guard <;> rfl
  have hstep : stepOp C (s.mem m) y.op = (stepOp C s y.op).map (Did.mapSt fun st => st.mem m) := by
    rw [hy]
    simp only [stepOp]
    have h1 : getO (s.mem m).sl a = getO s.sl a := rfl
    have h3 : getO (s.mem m).sl (.t n) = getO s.sl (.t n) := rfl
    rw [h1, h3]
    split
    · rename_i r off q o' hp hq
      split
      · rename_i hrq
        subst hrq
        have h2 : (s.mem m).rf = m.rf := rfl
        rw [h2, loadAt_same (hm _ _ hq)]
        unfold vl
        cases (loadAt s.rf agg (.ptr r off)).map AV.strip <;> rfl
      · rfl
    · rfl
  simp only [eff, hw, hstep] at he ⊢
  split at he
  · simp at he
  · simp only [Option.some.injEq, Prod.mk.injEq] at he ⊢
    obtain ⟨rfl, rfl, rfl⟩ := he
    exact ⟨rfl, rfl, rfl⟩
  · cases hs : stepOp C s y.op with
    | none => rw [hs] at he; simp at he
    | some d =>
      rw [hs] at he
      cases d with
      | val u s' =>
        simp only [Option.some.injEq, Prod.mk.injEq] at he
        obtain ⟨rfl, rfl, rfl⟩ := he
        rfl
      | none_ s' =>
        simp only [Option.some.injEq, Prod.mk.injEq] at he
        obtain ⟨rfl, rfl, rfl⟩ := he
        rfl
      | pan u s' => simp at he

theorem sep_form {x y : AOpk} (h : sep y x = true) : y.cls = 1 ∧ ∃ agg a n, y = .loadB agg a (.t n) := by
  unfold sep at h
  split at h
  · exact ⟨rfl, _, _, _, rfl⟩
  · cases h

theorem eff_norm {C : CallFn} {o : AOp} {s : St} {v : Option AV} {b : Bool} {m : St} (he : eff C o s = some (v, b, m)) : m = { m with sl := [] } := by
  simp only [eff] at he
  split at he
  · simp at he
  · simp only [Option.some.injEq, Prod.mk.injEq] at he; rw [← he.2.2]
  · split at he <;> first | (simp at he; done) | (simp only [Option.some.injEq, Prod.mk.injEq] at he; rw [← he.2.2])

end Go.Ab
