/- Operations and calls in a row: what the abstract run says, the machine does. -/
import Derived.Test.YtpdfcjgehdlheaaA14
import Derived.Recover
import Derived.Orders
set_option linter.all false
namespace Go.Ab

/-- what calling a function comes to (what a library's function answers at once counts as returned) -/
def Does (P : Program) (f : FuncId) (args : Array Value) (w : World) (R : Ending → World → Prop) : Prop :=
  match (callFunc f args).run P w with
  | .ok (.enter f' args') w' => Calls P f' args' w' R
  | .ok (.value v) w' => R (.returned v) w'
  | .ok (.row row args) w' => Rows P row args w' fun v w'' => R (.returned v) w''
  | _ => False

def Chain (pv : Value) (ch : List PanicEntry) : Prop :=
  ∃ older, ch = { v := pv, recovered := false, goexit := false } :: older ∧ ∀ e ∈ older, e.goexit = false

def CallRes (K : Ctx) (out : Out) : Ending → Prop
  | .returned v => ∃ av, out = .ret av ∧ Rep K av v ∧ ∀ es, av ≠ .own es
  | .panicked ch => ∃ av pv, out = .pan av ∧ Rep K av pv ∧ Chain pv ch
  | .outgrown => False

def CallSound (P : Program) (C : CallFn) : Prop := ∀ f args rf out rf', C f args rf = some (out, rf') → ∀ (E : Env) (K : Ctx) (s : St) (tm : Array Value) (w : World) (vs : Array Value),
  s.rf = rf → Sim E K s tm w → WF E.rf0 s → AV.refBs args ≤ rf.length → (∀ x ∈ args, ∀ es, x ≠ .own es) → RepL K args vs.toList →
  Does P f vs w fun e w' => ∃ K', Sim E K' { s with rf := rf' } tm w' ∧ Up rf.length K K' ∧ CallRes K' out e

theorem bares_not_own : ∀ (l : List AV) (x : AV), x ∈ AV.bares l → ∀ es, x ≠ .own es
  | [], x, h => by simp [AV.bares] at h
  | y :: l, x, h => by
    simp only [AV.bares, List.mem_cons] at h
    rcases h with rfl | h
    · intro es e
      cases y <;> simp [AV.bare] at e
    · exact bares_not_own l x h

def Did.st : Did → St
  | .val _ s => s
  | .none_ s => s
  | .pan _ s => s

def AOpk.plain : AOpk → Bool
  | .defer _ _ | .recover => false
  | _ => true

theorem unOwn_df (s : St) (x : Opd) : (unOwn s x).df = s.df ∧ (unOwn s x).pn = s.pn := by
  unfold unOwn
  split
  · split <;> exact ⟨rfl, rfl⟩
  · exact ⟨rfl, rfl⟩

theorem vl_st {s : St} {v : Option AV} {d : Did} (h : vl s v = some d) : d.st = s := by
  unfold vl at h
  simp only [Option.map_eq_some_iff] at h
  obtain ⟨_, _, rfl⟩ := h
  rfl

set_option maxHeartbeats 1000000 in
theorem stepOp_same {C : CallFn} {s : St} {o : AOpk} {d : Did} (h : stepOp C s o = some d) (ho : o.plain = true) : d.st.df = s.df ∧ d.st.pn = s.pn := by
  cases o <;> simp only [AOpk.plain, Bool.false_eq_true] at ho <;> simp only [stepOp] at h
  all_goals first
    | (rw [vl_st h]; exact ⟨rfl, rfl⟩)
    | (repeat' first
        | (rw [vl_st h]; exact ⟨rfl, rfl⟩)
        | (simp at h; done)
        | (simp only [Option.some.injEq] at h; subst h; simp [Did.st, unOwn_df]; done)
        | split at h)


theorem Fresh.none {E : Env} {K : Ctx} {s : St} {tm : Array Value} {w : World} {av : AV} {v : Value} (h : Fresh E K s tm w none av v) (d : Option Nat) : Fresh E K s tm w d av v :=
  fun es e => ⟨(h es e).1, fun b hb => ⟨((h es e).2 b hb).1, fun ℓ es' v' _ h' => ((h es e).2 b hb).2 ℓ es' v' (fun _ ht => by cases ht) h'⟩⟩

/-- a call that is put off -/
def Put1 (K : Ctx) (p : AV × List AV) (d : Deferred) : Prop :=
  ∃ id first cap vs cv av, p = (.fn (.func id) first cap, vs) ∧ d = { target := .fn (.func id) cv, args := av } ∧ RepL K cap cv.toList ∧ RepL K (first ++ vs) av.toList

def PutR (K : Ctx) : List (AV × List AV) → List Deferred → Prop
  | [], ds => ds = []
  | p :: r, ds => ∃ d rest, ds = d :: rest ∧ Put1 K p d ∧ PutR K r rest

theorem Put1.mono {K K' : Ctx} {n : Nat} (hu : Up n K K') {p : AV × List AV} {d : Deferred} (hb : p.1.refB ≤ n ∧ AV.refBs p.2 ≤ n) (h : Put1 K p d) : Put1 K' p d := by
  obtain ⟨id, first, cap, vs, cv, av, rfl, rfl, h1, h2⟩ := h
  simp only [AV.refB] at hb
  exact ⟨id, first, cap, vs, cv, av, rfl, rfl, RepL.mono hu.1 hu.2 _ _ (by omega) h1, RepL.mono hu.1 hu.2 _ _ (refBs_append_le (by omega) hb.2) h2⟩

theorem PutR.mono {K K' : Ctx} {n : Nat} (hu : Up n K K') : ∀ {l : List (AV × List AV)} {ds : List Deferred}, (∀ p, p ∈ l → p.1.refB ≤ n ∧ AV.refBs p.2 ≤ n) → PutR K l ds → PutR K' l ds
  | [], ds, _, h => h
  | p :: r, ds, hb, h => by
    obtain ⟨d, rest, rfl, h1, h2⟩ := h
    exact ⟨d, rest, rfl, h1.mono hu (hb p (by simp)), PutR.mono hu (fun q hq => hb q (by simp [hq])) h2⟩

/-- the frame's own state and the abstract one -/
structure Inv (E : Env) (K : Ctx) (s : St) (a : Act) (w : World) (N : Nat) : Prop where
  sim : Sim E K s a.tmps w
  wf : WF E.rf0 s
  df : PutR K s.df a.defers
  size : N ≤ a.tmps.size

def ExR (K : Ctx) : Ex → Exit → Prop
  | .nrm, .normal => True
  | .exit i, .exit j => i = j
  | .goto i, .goto j => i = j
  | .ret, .ret => True
  | .pan v, .panic ch => ∃ pv, Rep K v pv ∧ Chain pv ch
  | _, _ => False

/-- what must hold behind an operation, for the rest to go on -/
def After (E : Env) (K : Ctx) (s : St) (a : Act) (dst : Option Nat) (next : Act → World → Prop) (Q : Exit → Act → World → Prop) : Did → Prop
  | .val v s' => ∀ pv w' K', Sim E K' s' a.tmps w' → Rep K' v pv → Fresh E K' s' a.tmps w' none v pv → Up s.rf.length K K' → next (a.put dst pv) w'
  | .none_ s' => ∀ w' K', Sim E K' s' a.tmps w' → Up s.rf.length K K' → next (a.put dst undef) w'
  | .pan v s' => ∀ pv ch w' K', Sim E K' s' a.tmps w' → Rep K' v pv → Chain pv ch → Up s.rf.length K K' → Q (.panic ch) a w'

section
variable {P : Program} {E : Env} {K : Ctx} {s : St} {a : Act} {w : World} {next : Act → World → Prop} {Q : Exit → Act → World → Prop}

theorem wp_of_ok {o : Oper} {d : Did} (hs : Sim E K s a.tmps w) (h : OpOK P E K s a w o d) (k : After E K s a o.dst next Q d) : o.wp P a w next Q := by
  unfold Oper.wp
  cases d with
  | val v s' =>
    obtain ⟨pv, w', K', hr, h1, h2, h3, h4⟩ := h
    rw [hr, Oper.upon_value]
    exact k pv w' K' h1 h2 h3 h4
  | none_ s' =>
    obtain ⟨w', K', hr, h1, h4⟩ := h
    rw [hr, Oper.upon_skip]
    exact k w' K' h1 h4
  | pan v s' =>
    obtain ⟨t, v', pv, rfl, rfl, hr, h1⟩ := h
    rw [hr, Oper.upon_panic]
    exact k pv _ w K hs h1 ⟨[], rfl, by simp⟩ (Up.refl _ _)

theorem upon_does {o : Oper} {f : FuncId} {args : Array Value} {R : Ending → World → Prop} (h : Does P f args w R)
    (hr : ∀ e w', R e w' → match e with
      | .returned v => next (a.put o.dst v) w'
      | .panicked ch => Q (.panic ch) a w'
      | .outgrown => False) : o.upon P a next Q ((callFunc f args).run P w) := by
  unfold Does at h
  split at h
  · rename_i f' args' w' he
    rw [he, Oper.upon_enter]
    exact Calls.mono h fun e w'' hR => by
      have := hr e w'' hR
      cases e with
      | returned v => exact this
      | panicked ch => exact this
      | outgrown => exact this.elim
  · rename_i v w' he
    rw [he, Oper.upon_value]
    exact hr (.returned v) w' h
  · rename_i row args' w' he
    rw [he, Oper.upon_row]
    exact Rows.mono h fun v w'' hR => hr (.returned v) w'' hR
  · exact h.elim

/-- what a call in the text runs -/
theorem exec_call {c : Call} {o : Oper} (ho : o.op = .call c) {f : Opd} {xs : List Opd} {id : FuncId} {first cap vs : List AV}
    (h : Sim E K s a.tmps w) (hc : (match c.callee with | .value g => chkO f g | _ => false) = true) (hx : chkOs xs c.args.toList = true)
    (hf : getO s.sl f = some (.fn (.func id) first cap)) (hv : getOs s.sl xs = some vs) :
    ∃ args : Array Value, (execOp a.eval o).run P w = (callFunc id args).run P w ∧ RepL K (AV.bares (first ++ vs ++ cap)) args.toList := by
  cases hcl : c.callee with
  | value g =>
    rw [hcl] at hc
    have hF := getO_rep h hc hf
    simp only [Rep] at hF
    obtain ⟨va, vc, hF, h1, h2⟩ := hF
    have h3 := getOs_rep h hx hv
    refine ⟨va ++ c.args.map a.eval ++ vc, ?_, ?_⟩
    · simp only [execOp, ho, resolve, hcl, hF, Deferred.ofValue, Sem.run_bind, Sem.run_pure, Result.andThen_ok, invoke]
    · apply RepL.bares
      simp only [Array.toList_append, Array.toList_map]
      exact RepL.append (RepL.append h1 h3) h2
  | builtin b => rw [hcl] at hc; simp at hc
  | invoke r m => rw [hcl] at hc; simp at hc

end
end Go.Ab
