/- Rules for runs and calls with some fuel. -/
import Derived.Test.YtpdfcjgehdlheaaA29
set_option linter.all false
namespace Go.Ab

structure Tb where
  tab : FuncId → Option AFn
  tabD : FuncId → Option AFn
  orc : FuncId → List AV → Option AV

abbrev Tb.C (T : Tb) (k : Nat) : CallFn := call T.tab T.tabD T.orc k

/-- a call comes to this -/
inductive Ev (T : Tb) (f : FuncId) (args : List AV) (rf : Refs) (o : Out) (rf' : Refs) : Prop
  | mk (k : Nat) (h : T.C k f args rf = some (o, rf'))

def exN (N : St → Prop) (X : Ex → St → Prop) : Ex → St → Prop
  | .nrm, s => N s
  | e, s => X e s

/-- code comes to its end (N), or leaves (X) -/
inductive WP (T : Tb) (c : AC) (s : St) (N : St → Prop) (X : Ex → St → Prop) : Prop
  | mk (k : Nat) (e : Ex) (s' : St) (h : run (T.C k) k c s = some (e, s')) (h' : exN N X e s')

inductive OP (T : Tb) (l : List AOp) (s : St) (N : St → Prop) (X : Ex → St → Prop) : Prop
  | mk (k : Nat) (e : Ex) (s' : St) (h : runOps (T.C k) l s = some (e, s')) (h' : exN N X e s')

inductive LP (T : Tb) (keep : List Nat) (n : Nat) (b : AC) (s : St) (X : Ex → St → Prop) : Prop
  | mk (k : Nat) (e : Ex) (s' : St) (h : runLoop (run (T.C k) k b) keep n k s = some (e, s')) (h' : X e s')

section
variable {T : Tb} {s : St} {N : St → Prop} {X : Ex → St → Prop}

theorem WP.mono {c : AC} {N' : St → Prop} {X' : Ex → St → Prop} (h : WP T c s N X) (hN : ∀ s, N s → N' s) (hX : ∀ e s, X e s → X' e s) : WP T c s N' X' := by
  obtain ⟨k, e, s', h1, h2⟩ := h
  refine ⟨k, e, s', h1, ?_⟩
  cases e <;> first | exact hN _ h2 | exact hX _ _ h2

theorem OP.mono {l : List AOp} {N' : St → Prop} {X' : Ex → St → Prop} (h : OP T l s N X) (hN : ∀ s, N s → N' s) (hX : ∀ e s, X e s → X' e s) : OP T l s N' X' := by
  obtain ⟨k, e, s', h1, h2⟩ := h
  refine ⟨k, e, s', h1, ?_⟩
  cases e <;> first | exact hN _ h2 | exact hX _ _ h2

theorem Tb.le {k k' : Nat} {f : FuncId} {a : List AV} {rf : Refs} {r} (h : T.C k f a rf = some r) (hk : k ≤ k') : T.C k' f a rf = some r := call_le hk _ _ _ _ h

theorem runK {c : AC} {s : St} {r} {k k' : Nat} (h : run (T.C k) k c s = some r) (hk : k ≤ k') : run (T.C k') k' c s = some r := run_mono (call_le hk) hk h

theorem wp_skip (h : N s) : WP T .skip s N X := ⟨0, .nrm, s, rfl, h⟩
theorem wp_exit {i : Nat} (h : X (.exit i) s) : WP T (.exit i) s N X := ⟨0, .exit i, s, rfl, h⟩
theorem wp_ret (h : X .ret s) : WP T .ret s N X := ⟨0, .ret, s, rfl, h⟩
theorem wp_ops {l : List AOp} (h : OP T l s N X) : WP T (.ops l) s N X := by
  obtain ⟨k, e, s', h1, h2⟩ := h
  exact ⟨k, e, s', h1, h2⟩

theorem wp_seq {a b : AC} (h : WP T a s (fun s' => WP T b s' N X) X) : WP T (.seq a b) s N X := by
  obtain ⟨k, e, s', h1, h2⟩ := h
  cases e with
  | nrm =>
    obtain ⟨k', e', s'', h3, h4⟩ := h2
    refine ⟨max k k', e', s'', ?_, h4⟩
    simp only [run]
    rw [runK h1 (Nat.le_max_left _ _)]
    exact runK h3 (Nat.le_max_right _ _)
  | goto i => exact ⟨k, .goto i, s', by simp only [run]; rw [h1], h2⟩
  | exit i => exact ⟨k, .exit i, s', by simp only [run]; rw [h1], h2⟩
  | ret => exact ⟨k, .ret, s', by simp only [run]; rw [h1], h2⟩
  | pan v => exact ⟨k, .pan v, s', by simp only [run]; rw [h1], h2⟩

theorem wp_cond {c : Opd} {t e : AC} {b : Bool} (hc : getO s.sl c = some (.d (.bool b))) (h1 : b = true → WP T t s N X) (h2 : b = false → WP T e s N X) : WP T (.cond c t e) s N X := by
  cases b with
  | true =>
    obtain ⟨k, ex, s', h3, h4⟩ := h1 rfl
    exact ⟨k, ex, s', by simp only [run, hc]; exact h3, h4⟩
  | false =>
    obtain ⟨k, ex, s', h3, h4⟩ := h2 rfl
    exact ⟨k, ex, s', by simp only [run, hc]; exact h3, h4⟩

theorem wp_if {c : Opd} {t e : AC} {p : Prop} [Decidable p] (hc : getO s.sl c = some (.d (.bool (decide p)))) (h1 : p → WP T t s N X) (h2 : ¬ p → WP T e s N X) : WP T (.cond c t e) s N X :=
  wp_cond hc (fun h => h1 (of_decide_eq_true h)) (fun h => h2 (of_decide_eq_false h))

/-- what leaves a block -/
inductive BlockX (i : Nat) (N : St → Prop) (X : Ex → St → Prop) (e : Ex) (s : St) : Prop
  | mk (h : match e with | .exit j => if j = i then N s else X (.exit j) s | e => X e s)
theorem bx_here {i : Nat} (h : N s) : BlockX i N X (.exit i) s := ⟨by simpa using h⟩
theorem bx_exit {i j : Nat} (hj : (j == i) = false) (h : X (.exit j) s) : BlockX i N X (.exit j) s := ⟨by
  have : j ≠ i := by simpa using hj
  simpa [this] using h⟩
theorem bx_ret {i : Nat} (h : X .ret s) : BlockX i N X .ret s := ⟨h⟩
theorem bx_goto {i j : Nat} (h : X (.goto j) s) : BlockX i N X (.goto j) s := ⟨h⟩
theorem bx_pan {i : Nat} {v : AV} (h : X (.pan v) s) : BlockX i N X (.pan v) s := ⟨h⟩

theorem wp_block {i : Nat} {b : AC} (h : WP T b s N (BlockX i N X)) : WP T (.block i b) s N X := by
  obtain ⟨k, e, s', h1, h2⟩ := h
  cases e with
  | nrm => exact ⟨k, .nrm, s', by simp only [run]; rw [h1], h2⟩
  | exit j =>
    obtain ⟨h2⟩ := h2
    simp only at h2
    by_cases hj : j = i
    · rw [if_pos hj] at h2
      exact ⟨k, .nrm, s', by simp only [run]; rw [h1]; simp only; rw [if_pos hj], h2⟩
    · rw [if_neg hj] at h2
      exact ⟨k, .exit j, s', by simp only [run]; rw [h1]; simp only; rw [if_neg hj], h2⟩
  | goto i => exact ⟨k, .goto i, s', by simp only [run]; rw [h1], h2.1⟩
  | ret => exact ⟨k, .ret, s', by simp only [run]; rw [h1], h2.1⟩
  | pan v => exact ⟨k, .pan v, s', by simp only [run]; rw [h1], h2.1⟩

/-- what leaves a scope, or jumps to its label -/
inductive ScopeX (l : Nat) (J : St → Prop) (X : Ex → St → Prop) (e : Ex) (s : St) : Prop
  | mk (h : match e with | .goto i => i = l ∧ J s | e => X e s)
theorem sx_goto {l : Nat} {J : St → Prop} (h : J s) : ScopeX l J X (.goto l) s := ⟨rfl, h⟩
theorem sx_exit {l i : Nat} {J : St → Prop} (h : X (.exit i) s) : ScopeX l J X (.exit i) s := ⟨h⟩
theorem sx_ret {l : Nat} {J : St → Prop} (h : X .ret s) : ScopeX l J X .ret s := ⟨h⟩
theorem sx_pan {l : Nat} {J : St → Prop} {v : AV} (h : X (.pan v) s) : ScopeX l J X (.pan v) s := ⟨h⟩

theorem wp_label' (h : N s) : WP T .label s N X := ⟨0, .nrm, s, rfl, h⟩
theorem wp_goto' {i : Nat} (h : X (.goto i) s) : WP T (.goto i) s N X := ⟨0, .goto i, s, rfl, h⟩

theorem wp_scope {l : Nat} {b r : AC} (h : WP T b s N (ScopeX l (fun s' => WP T r s' N (ScopeX l (fun _ => False) X)) X)) : WP T (.scope l b r) s N X := by
  obtain ⟨k, e, s', h1, h2⟩ := h
  cases e with
  | nrm => exact ⟨k, .nrm, s', by simp only [run]; rw [h1], h2⟩
  | exit i => exact ⟨k, .exit i, s', by simp only [run]; rw [h1], h2.1⟩
  | ret => exact ⟨k, .ret, s', by simp only [run]; rw [h1], h2.1⟩
  | pan v => exact ⟨k, .pan v, s', by simp only [run]; rw [h1], h2.1⟩
  | goto i =>
    obtain ⟨rfl, k', e', s'', h3, h4⟩ := h2.1
    cases e' with
    | goto j => exact absurd h4.1.2 id
    | nrm => exact ⟨max k k', .nrm, s'', by simp only [run]; rw [runK h1 (Nat.le_max_left _ _)]; simp only [if_true]; rw [runK h3 (Nat.le_max_right _ _)], h4⟩
    | exit j => exact ⟨max k k', .exit j, s'', by simp only [run]; rw [runK h1 (Nat.le_max_left _ _)]; simp only [if_true]; rw [runK h3 (Nat.le_max_right _ _)], h4.1⟩
    | ret => exact ⟨max k k', .ret, s'', by simp only [run]; rw [runK h1 (Nat.le_max_left _ _)]; simp only [if_true]; rw [runK h3 (Nat.le_max_right _ _)], h4.1⟩
    | pan v => exact ⟨max k k', .pan v, s'', by simp only [run]; rw [runK h1 (Nat.le_max_left _ _)]; simp only [if_true]; rw [runK h3 (Nat.le_max_right _ _)], h4.1⟩

theorem wp_trim {keep : List Nat} {b : AC} (h : WP T b s (fun s' => N { s' with sl := s'.sl.keep keep }) X) : WP T (.trim keep b) s N X := by
  obtain ⟨k, e, s', h1, h2⟩ := h
  cases e with
  | nrm => exact ⟨k, .nrm, _, by simp only [run]; rw [h1], h2⟩
  | goto i => exact ⟨k, .goto i, s', by simp only [run]; rw [h1], h2⟩
  | exit i => exact ⟨k, .exit i, s', by simp only [run]; rw [h1], h2⟩
  | ret => exact ⟨k, .ret, s', by simp only [run]; rw [h1], h2⟩
  | pan v => exact ⟨k, .pan v, s', by simp only [run]; rw [h1], h2⟩

theorem LP.step {keep : List Nat} {n : Nat} {b : AC} (h : WP T b s (fun s' => LP T keep n b (s'.trimLoop keep n) X) X) : LP T keep n b s X := by
  obtain ⟨k, e, s', h1, h2⟩ := h
  cases e with
  | nrm =>
    obtain ⟨k', e', s'', h3, h4⟩ := h2
    refine ⟨max k k' + 1, e', s'', ?_, h4⟩
    simp only [runLoop]
    rw [runK h1 (by omega)]
    exact runLoop_mono (fun s r => fun h => runK h (by omega)) (by omega) h3
  | exit i => exact ⟨k + 1, _, s', by simp only [runLoop]; rw [runK h1 (by omega)], h2⟩
  | goto i => exact ⟨k + 1, _, s', by simp only [runLoop]; rw [runK h1 (by omega)], h2⟩
  | ret => exact ⟨k + 1, _, s', by simp only [runLoop]; rw [runK h1 (by omega)], h2⟩
  | pan v => exact ⟨k + 1, _, s', by simp only [runLoop]; rw [runK h1 (by omega)], h2⟩

theorem wp_loop0 {keep : List Nat} {b : AC} (h : LP T keep s.rf.length b (s.trimLoop keep s.rf.length) (exN N X)) : WP T (.loop keep b) s N X := by
  obtain ⟨k, e, s', h1, h2⟩ := h
  exact ⟨k, e, s', h1, h2⟩

theorem trimLoop_same {s : St} {keep : List Nat} {n : Nat} (h : s.rf.length = n) : s.trimLoop keep n = { s with sl := s.sl.keep keep } := by
  unfold St.trimLoop
  simp only
  split
  · rw [List.take_of_length_le (by omega)]
  · rfl

/-- a loop that makes no references of its own: what holds at each round's head, and how many rounds are left -/
theorem wp_loop {keep : List Nat} {b : AC} (Inv : Nat → St → Prop) {m : Nat} (h0 : Inv m { s with sl := s.sl.keep keep })
    (hstep : ∀ m s', Inv m s' → s'.rf.length = s.rf.length → WP T b s' (fun s'' => s''.rf.length = s.rf.length ∧ ∃ m', m' < m ∧ Inv m' { s'' with sl := s''.sl.keep keep }) (fun e s'' => match e with | .nrm => False | e => X e s'')) :
    WP T (.loop keep b) s N X := by
  refine wp_loop0 ?_
  rw [trimLoop_same rfl]
  have key : ∀ m s', Inv m s' → s'.rf.length = s.rf.length → LP T keep s.rf.length b s' (exN N X) := by
    intro m
    induction m using Nat.strongRecOn with
    | _ m ih =>
      intro s' h hl
      refine LP.step ((hstep m s' h hl).mono (fun s'' h2 => ?_) (fun e s'' h2 => ?_))
      · obtain ⟨h3, m', h4, h5⟩ := h2
        rw [trimLoop_same h3]
        exact ih m' h4 _ h5 h3
      · cases e <;> first | exact h2.elim | exact h2
  exact key m _ h0 rfl

/-! operations -/
def C0 : CallFn := fun _ _ _ => none
theorem C0_le (C : CallFn) : CLe C0 C := fun f a rf r h => by simp [C0] at h

theorem op_nil (h : N s) : OP T [] s N X := ⟨0, .nrm, s, rfl, h⟩

theorem op_val {d : Option Nat} {o : AOpk} {g : Option (Nat × Bool)} {may : Bool} {r : List AOp} {v : AV} {s' : St} (hg : wantedA s g = some true) (hs : stepOp C0 s o = some (.val v s')) (h : OP T r (putO s' d v) N X) :
    OP T (⟨d, o, g, may⟩ :: r) s N X := by
  obtain ⟨k, e, s', h1, h2⟩ := h
  refine ⟨k, e, s', ?_, h2⟩
  simp only [runOps, hg]
  rw [stepOp_mono (C0_le _) hs]
  exact h1

theorem op_none {d : Option Nat} {o : AOpk} {g : Option (Nat × Bool)} {may : Bool} {r : List AOp} {s' : St} (hg : wantedA s g = some true) (hs : stepOp C0 s o = some (.none_ s')) (h : OP T r s' N X) :
    OP T (⟨d, o, g, may⟩ :: r) s N X := by
  obtain ⟨k, e, s', h1, h2⟩ := h
  refine ⟨k, e, s', ?_, h2⟩
  simp only [runOps, hg]
  rw [stepOp_mono (C0_le _) hs]
  exact h1

theorem op_pan {d : Option Nat} {o : AOpk} {g : Option (Nat × Bool)} {r : List AOp} {v : AV} {s' : St} (hg : wantedA s g = some true) (hs : stepOp C0 s o = some (.pan v s')) (h : X (.pan v) s') :
    OP T (⟨d, o, g, true⟩ :: r) s N X := by
  refine ⟨0, .pan v, s', ?_, h⟩
  simp only [runOps, hg]
  rw [stepOp_mono (C0_le _) hs]
  rfl

theorem op_off {d : Option Nat} {o : AOpk} {g : Option (Nat × Bool)} {may : Bool} {r : List AOp} (hg : wantedA s g = some false) (h : OP T r (putO s d (.tup [])) N X) :
    OP T (⟨d, o, g, may⟩ :: r) s N X := by
  obtain ⟨k, e, s', h1, h2⟩ := h
  exact ⟨k, e, s', by simp only [runOps, hg]; exact h1, h2⟩

theorem opsK {l : List AOp} {s : St} {r} {k k' : Nat} (h : runOps (T.C k) l s = some r) (hk : k ≤ k') : runOps (T.C k') l s = some r := runOps_mono (call_le hk) h

theorem op_call {d : Option Nat} {f : Opd} {as : List Opd} {g : Option (Nat × Bool)} {may : Bool} {r : List AOp} {id : FuncId} {first cap vs : List AV} {v : AV} {rf' : Refs} (hg : wantedA s g = some true)
    (hf : getO s.sl f = some (.fn (.func id) first cap)) (ha : getOs s.sl as = some vs) (he : Ev T id (AV.bares (first ++ vs ++ cap)) s.rf (.ret v) rf') (h : OP T r (putO { s with rf := rf' } d v) N X) :
    OP T (⟨d, .call f as, g, may⟩ :: r) s N X := by
  obtain ⟨k, e, s', h1, h2⟩ := h
  obtain ⟨k', h3⟩ := he
  refine ⟨max k k', e, s', ?_, h2⟩
  simp only [runOps, hg, stepOp, hf, ha]
  rw [Tb.le h3 (Nat.le_max_right k k')]
  exact opsK h1 (Nat.le_max_left _ _)

theorem op_callp {d : Option Nat} {f : Opd} {as : List Opd} {g : Option (Nat × Bool)} {r : List AOp} {id : FuncId} {first cap vs : List AV} {v : AV} {rf' : Refs} (hg : wantedA s g = some true)
    (hf : getO s.sl f = some (.fn (.func id) first cap)) (ha : getOs s.sl as = some vs) (he : Ev T id (AV.bares (first ++ vs ++ cap)) s.rf (.pan v) rf') (h : X (.pan v) { s with rf := rf' }) :
    OP T (⟨d, .call f as, g, true⟩ :: r) s N X := by
  obtain ⟨k', h3⟩ := he
  refine ⟨k', .pan v, { s with rf := rf' }, ?_, h⟩
  simp only [runOps, hg, stepOp, hf, ha]
  rw [h3]
  rfl

theorem op_callZ {d : Option Nat} {f : Opd} {as : List Opd} {g : Option (Nat × Bool)} {may : Bool} {r : List AOp} {id : FuncId} {first cap vs : List AV} {v : AV} {rf' : Refs} (hg : wantedA s g = some true)
    (hf : getO s.sl f = some (.fn (.func id) first cap)) (ha : getOs s.sl as = some vs) (hz : AV.refBs (AV.bares (first ++ vs ++ cap)) = 0) (he : Ev T id (AV.bares (first ++ vs ++ cap)) [] (.ret v) rf') (h : OP T r (putO s d v) N X) :
    OP T (⟨d, .callZ f as, g, may⟩ :: r) s N X := by
  obtain ⟨k, e, s', h1, h2⟩ := h
  obtain ⟨k', h3⟩ := he
  refine ⟨max k k', e, s', ?_, h2⟩
  simp only [runOps, hg, stepOp, hf, ha]
  rw [if_pos hz, Tb.le h3 (Nat.le_max_right k k')]
  exact opsK h1 (Nat.le_max_left _ _)

theorem op_callQ {d : Option Nat} {f : Opd} {as : List Opd} {g : Option (Nat × Bool)} {may : Bool} {r : List AOp} {id : FuncId} {first cap vs : List AV} {v : AV} {rf' : Refs} (hg : wantedA s g = some true)
    (hf : getO s.sl f = some (.fn (.func id) first cap)) (ha : getOs s.sl as = some vs) (he : Ev T id (AV.bares (first ++ vs ++ cap)) s.rf (.ret v) rf') (hz : sameRf rf' s.rf = true) (h : OP T r (putO s d v) N X) :
    OP T (⟨d, .callQ f as, g, may⟩ :: r) s N X := by
  obtain ⟨k, e, s', h1, h2⟩ := h
  obtain ⟨k', h3⟩ := he
  refine ⟨max k k', e, s', ?_, h2⟩
  simp only [runOps, hg, stepOp, hf, ha]
  rw [Tb.le h3 (Nat.le_max_right k k')]
  simp only [hz, if_true]
  exact opsK h1 (Nat.le_max_left _ _)

/-! calls -/
/-- how a call without deferred calls ends -/
inductive EndX (af : AFn) (n : Nat) (o : Out) (rf' : Refs) : Ex → St → Prop
  | nrm {s : St} {v : AV} (hd : s.df = []) (hv : resOf s af.keep af.res = some v) (hb : v.refB ≤ n) (ho : o = .ret v) (hr : rf' = s.rf.take n) : EndX af n o rf' .nrm s
  | ret {s : St} {v : AV} (hd : s.df = []) (hv : resOf s af.keep af.res = some v) (hb : v.refB ≤ n) (ho : o = .ret v) (hr : rf' = s.rf.take n) : EndX af n o rf' .ret s
  | pan {s : St} {v : AV} (hd : s.df = []) (hb : v.refB ≤ n) (ho : o = .pan v.bare) (hr : rf' = s.rf.take n) : EndX af n o rf' (.pan v) s

theorem ev_call {f : FuncId} {args : List AV} {rf : Refs} {o : Out} {rf' : Refs} {af : AFn} (ho : T.orc f args = none) (hf : T.tab f = some af)
    (h : WP T af.body { sl := enterS args 0, rf := rf, nb := rf.length } (EndX af rf.length o rf' .nrm) (EndX af rf.length o rf')) : Ev T f args rf o rf' := by
  obtain ⟨k, e, s', h1, h2⟩ := h
  refine ⟨k + 1, ?_⟩
  simp only [Tb.C, call, ho, hf]
  rw [h1]
  cases e with
  | nrm =>
    cases h2 with | nrm h3 h4 h5 h6 h7 => subst h6 h7; simp only [h3, leave, h4]; rw [if_pos h5]
  | ret =>
    cases h2 with | ret h3 h4 h5 h6 h7 => subst h6 h7; simp only [h3, leave, h4]; rw [if_pos h5]
  | pan v =>
    cases h2 with | pan h3 h5 h6 h7 => subst h6 h7; simp only [h3, leave]; rw [if_pos h5]
  | exit i => cases h2
  | goto i => cases h2

theorem ev_orc {f : FuncId} {args : List AV} {rf : Refs} {v : AV} (ho : T.orc f args = some v) : Ev T f args rf (.ret v) rf := ⟨1, by simp only [Tb.C, call, ho]⟩

end
end Go.Ab
