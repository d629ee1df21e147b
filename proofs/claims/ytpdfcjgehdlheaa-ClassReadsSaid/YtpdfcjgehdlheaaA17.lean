/- A list of operations, in any given order: what the abstract run says, the machine does. -/
import Derived.Test.YtpdfcjgehdlheaaA16
set_option linter.all false
namespace Go.Ab

def AOpk.voids : AOpk → Bool
  | .store _ _ _ | .storeW _ _ _ _ | .defer _ _ => true
  | _ => false

def AOpk.isRec : AOpk → Bool
  | .recover => true
  | _ => false

def chkGuard (ops : Array Oper) : Option (Nat × Bool) → Option (Nat × Bool) → Bool
  | none, none => true
  | some (t, b), some (j, b') => b == b' && ((ops[j]?).bind (·.dst)) == some t
  | _, _ => false

def chk1 (P : Program) (N : Nat) (ops : Array Oper) (ao : AOp) (o : Oper) : Bool :=
  chkOp P ao.op o && ao.op.cok && !ao.op.isRec && ao.dst == o.dst && (match ao.dst with | some d => decide (d < N) && !ao.op.voids | none => true) && chkGuard ops ao.guard o.guard

def chkL (P : Program) (N : Nat) (ops : Array Oper) : List AOp → List Oper → Bool
  | [], [] => true
  | x :: l, o :: m => chk1 P N ops x o && chkL P N ops l m
  | _, _ => false

theorem chkL_get {P : Program} {N : Nat} {ops : Array Oper} : ∀ {l : List AOp} {m : List Oper}, chkL P N ops l m = true → ∀ i : Nat, (l[i]? = none ∧ m[i]? = none) ∨ ∃ x o, l[i]? = some x ∧ m[i]? = some o ∧ chk1 P N ops x o = true
  | [], [], _, i => .inl ⟨by simp, by simp⟩
  | [], _ :: _, h, i => by simp [chkL] at h
  | _ :: _, [], h, i => by simp [chkL] at h
  | x :: l, o :: m, h, i => by
    simp only [chkL, Bool.and_eq_true] at h
    cases i with
    | zero => exact .inr ⟨x, o, by simp, by simp, h.1⟩
    | succ i => simpa using chkL_get h.2 i

section
variable {P : Program} {E : Env} {K : Ctx} {s : St} {a : Act} {w : World} {next : Act → World → Prop} {Q : Exit → Act → World → Prop} {C : CallFn} {N : Nat} {ops : Array Oper}

theorem guard_ok (h : Sim E K s a.tmps w) {x y : Option (Nat × Bool)} (hc : chkGuard ops x y = true) {b : Bool} (hb : wantedA s x = some b) {o : Oper} (ho : o.guard = y) : Region.wanted o (yielded ops a.tmps) = b := by
  cases x with
  | none =>
    cases y with
    | none =>
      simp only [wantedA, Option.some.injEq] at hb
      subst hb
      simp [Region.wanted, ho]
    | some q => simp [chkGuard] at hc
  | some p =>
    cases y with
    | none => simp [chkGuard] at hc
    | some q =>
      obtain ⟨t, b1⟩ := p
      obtain ⟨j, b2⟩ := q
      simp only [chkGuard, Bool.and_eq_true, beq_iff_eq] at hc
      obtain ⟨rfl, hd⟩ := hc
      simp only [wantedA] at hb
      split at hb
      · rename_i x hx
        simp only [Option.some.injEq] at hb
        subst hb
        obtain ⟨ht, hr⟩ := h.slots t _ hx
        simp only [Rep, RepD] at hr
        have hg : a.tmps[t]? = some (.bool x) := by
          rw [Array.getElem?_eq_getElem ht]
          simp only [Array.getD, ht, dif_pos] at hr
          rw [← hr]; rfl
        simp only [Region.wanted, ho, yielded, hd, Option.bind_some, hg]
        cases x <;> cases b1 <;> rfl
      · rename_i hx
        simp only [Option.some.injEq] at hb
        subst hb
        obtain ⟨ht, hr⟩ := h.slots t _ hx
        simp only [Rep, RepL] at hr
        obtain ⟨vs, hr, hvs⟩ := hr
        have hg : a.tmps[t]? = some (.tuple vs) := by
          rw [Array.getElem?_eq_getElem ht]
          simp only [Array.getD, ht, dif_pos] at hr
          rw [← hr]; rfl
        simp [Region.wanted, ho, yielded, hd, hg]
      · simp at hb

theorem Inv.put (h : Inv E K s a w N) {s1 : St} {w1 : World} {K1 : Ctx} {dst : Option Nat} {v : AV} {pv : Value} (hsim : Sim E K1 s1 a.tmps w1) (hw : WF E.rf0 s1) (hu : Up s.rf.length K K1)
    (hdf : s1.df = s.df) (hv : Rep K1 v pv) (hb : v.refB ≤ s1.rf.length) (hf : Fresh E K1 s1 a.tmps w1 none v pv) (hd : ∀ d, dst = some d → d < N) : Inv E K1 (putO s1 dst v) (a.put dst pv) w1 N := by
  have hput : PutR K1 s1.df a.defers := by rw [hdf]; exact h.df.mono hu h.wf.db
  cases dst with
  | none => exact ⟨hsim, hw, hput, h.size⟩
  | some d =>
    have hlt : d < a.tmps.size := Nat.lt_of_lt_of_le (hd d rfl) h.size
    exact ⟨hsim.put hlt hv (hf.none _), putO_wf (dst := some d) hw hb, hput, by simp only [Act.put, Array.size_setIfInBounds]; exact h.size⟩

/-- what must hold behind an operation, for the rest to go on -/
def AfterI (E : Env) (K : Ctx) (s : St) (N : Nat) (dst : Option Nat) (next : Act → World → Prop) (Q : Exit → Act → World → Prop) : Did → Prop
  | .val v s' => ∀ a' w' K', Inv E K' (putO s' dst v) a' w' N → Up s.rf.length K K' → next a' w'
  | .none_ s' => ∀ a' w' K', Inv E K' s' a' w' N → Up s.rf.length K K' → next a' w'
  | .pan v s' => ∀ a' pv ch w' K', Inv E K' s' a' w' N → Rep K' v pv → Chain pv ch → Up s.rf.length K K' → Q (.panic ch) a' w'

theorem after_of (h : Inv E K s a w N) {ao : AOp} {o : Oper} (hdst : ao.dst = o.dst) (hd : ∀ d, ao.dst = some d → d < N ∧ ao.op.voids = false) {d : Did} (hwf : d.wf E.rf0) (hsame : d.st.df = s.df ∧ d.st.pn = s.pn)
    (hv : ∀ s', d = .none_ s' → ao.op.voids = true) (k : AfterI E K s N ao.dst next Q d) : After E K s a o.dst next Q d := by
  cases d with
  | val v s1 =>
    intro pv w' K' h1 h2 h3 h4
    rw [← hdst]
    exact k _ _ _ (h.put h1 hwf.1 h4 hsame.1 h2 hwf.2 h3 fun d hd' => (hd d hd').1) h4
  | none_ s1 =>
    intro w' K' h1 h4
    have hn : ao.dst = none := by
      cases hao : ao.dst with
      | none => rfl
      | some d => have := (hd d hao).2; rw [hv _ rfl] at this; cases this
    rw [← hdst, hn]
    exact k _ _ _ ⟨h1, hwf, by simp only [Did.st] at hsame; rw [hsame.1]; exact h.df.mono h4 h.wf.db, h.size⟩ h4
  | pan v s1 =>
    intro pv ch w' K' h1 h2 h3 h4
    exact k _ _ _ _ _ ⟨h1, hwf.1, by simp only [Did.st] at hsame; rw [hsame.1]; exact h.df.mono h4 h.wf.db, h.size⟩ h2 h3 h4

theorem vl_val {s : St} {v : Option AV} {d : Did} (h : vl s v = some d) : ∀ s', d ≠ .none_ s' := by
  unfold vl at h
  simp only [Option.map_eq_some_iff] at h
  obtain ⟨_, _, rfl⟩ := h
  intro s' e
  cases e

set_option maxHeartbeats 1000000 in
theorem stepOp_voids {C : CallFn} {s : St} {o : AOpk} {s' : St} (h : stepOp C s o = some (.none_ s')) : o.voids = true := by
  cases o <;> simp only [AOpk.voids] <;> simp only [stepOp] at h
  all_goals first
    | exact absurd rfl (vl_val h s')
    | (exfalso; repeat' first
        | exact absurd rfl (vl_val h s')
        | (simp at h; done)
        | split at h)

theorem step_wp (hC : CallSound P C) (hCW : CallWF C) (h : Inv E K s a w N) {ao : AOp} {o : Oper} (hc : chk1 P N ops ao o = true) {d : Did} (hs : stepOp C s ao.op = some d)
    (k : AfterI E K s N ao.dst next Q d) : o.wp P a w next Q := by
  simp only [chk1, Bool.and_eq_true, beq_iff_eq] at hc
  obtain ⟨⟨⟨⟨⟨c1, c2⟩, c0⟩, c3⟩, c4⟩, c5⟩ := hc
  have hd : ∀ d, ao.dst = some d → d < N ∧ ao.op.voids = false := fun d e => by
    rw [e] at c4
    simpa using c4
  have hwf := stepOp_wf hCW hs h.wf c2
  have hv : ∀ s', d = .none_ s' → ao.op.voids = true := fun s' e => by subst e; exact stepOp_voids hs
  by_cases hq : ao.op.quiet = true
  · have hp : ao.op.plain = true := by revert hq; cases ao.op <;> simp [AOpk.quiet, AOpk.plain]
    exact wp_of_ok h.sim (step_ok h.sim h.wf c1 hs hq) (after_of h c3 hd hwf (stepOp_same hs hp) hv k)
  · obtain ⟨dst, op, gd, may⟩ := ao
    simp only at *
    cases op <;> simp only [AOpk.quiet, not_true_eq_false] at hq
    case call f xs => exact wp_call hC h.sim h.wf c1 c2 hs (after_of (ao := ⟨dst, .call f xs, gd, may⟩) h c3 hd hwf (stepOp_same hs rfl) hv k)
    case callZ f xs => exact wp_callZ hC h.sim h.wf c1 hs (after_of (ao := ⟨dst, .callZ f xs, gd, may⟩) h c3 hd hwf (stepOp_same hs rfl) hv k) hCW
    case callQ f xs => exact wp_callQ hC h.sim h.wf c1 c2 hs (after_of (ao := ⟨dst, .callQ f xs, gd, may⟩) h c3 hd hwf (stepOp_same hs rfl) hv k)
    case recover => simp [AOpk.isRec] at c0
    case defer f xs =>
      simp only [chkOp] at c1
      split at c1
      · rename_i c ho
        rw [Bool.and_eq_true] at c1
        simp only [stepOp] at hs
        split at hs
        · rename_i id first cap vs hf hvs
          simp only [Option.some.injEq] at hs; subst hs
          have hn : dst = none := by
            cases hao : dst with
            | none => rfl
            | some d => have := (hd d hao).2; simp [AOpk.voids] at this
          subst hn
          cases hcl : c.callee with
          | value g =>
            rw [hcl] at c1
            have hF := getO_rep h.sim c1.1 hf
            simp only [Rep] at hF
            obtain ⟨va, vc, hF, h1, h2⟩ := hF
            have h3 := getOs_rep h.sim c1.2 hvs
            have hr : (execOp a.eval o).run P w = .ok (.defer { target := .fn (.func id) vc, args := va ++ c.args.map a.eval }) w := by
              simp only [execOp, ho, resolve, hcl, hF, Deferred.ofValue, Sem.run_bind, Sem.run_pure, Result.andThen_ok]
            unfold Oper.wp
            rw [hr, Oper.upon_defer, ← c3]
            refine k _ _ K ⟨?_, hwf, ⟨_, _, rfl, ⟨id, first, cap, _, vc, _, rfl, rfl, h2, ?_⟩, h.df⟩, h.size⟩ (Up.refl _ _)
            · have := h.sim
              exact ⟨this.size, this.os, this.tape, this.output, this.keep, this.gle, this.rho, this.cells, this.refs, this.refG, this.inj, this.rows, this.slots, this.own, this.uniq, this.tO, this.tR⟩
            · simp only [Array.toList_append, Array.toList_map]
              exact RepL.append h1 (RepL.bares _ _ h3)
          | builtin b => rw [hcl] at c1; simp at c1
          | invoke r m => rw [hcl] at c1; simp at c1
        · simp at hs
      · simp at c1

def pickL (l : List AOp) (ord : List Nat) : List AOp := ord.filterMap (l[·]?)

theorem ops_wp (hC : CallSound P C) (hCW : CallWF C) {l : List AOp} (hc : chkL P N ops l ops.toList = true) : ∀ (ord : List Nat) (s : St) (a : Act) (w : World) (K : Ctx) (e : Ex) (s' : St),
    Inv E K s a w N → runOps C (pickL l ord) s = some (e, s') → (∀ ex a' w' K', ExR K' e ex → Inv E K' s' a' w' N → Up s.rf.length K K' → Q ex a' w') → wpOps P ops Q ord a w
  | [], s, a, w, K, e, s', h, hr, hQ => by
    simp only [pickL, List.filterMap_nil, runOps, Option.some.injEq, Prod.mk.injEq] at hr
    obtain ⟨rfl, rfl⟩ := hr
    exact hQ .normal a w K trivial h (Up.refl _ _)
  | i :: ord, s, a, w, K, e, s', h, hr, hQ => by
    rcases chkL_get hc i with ⟨h1, h2⟩ | ⟨ao, o, h1, h2, h3⟩
    · rw [Array.getElem?_toList] at h2
      simp only [pickL, List.filterMap_cons, h1] at hr
      rw [wpOps_cons]
      simp only [wpOp, h2]
      exact ops_wp hC hCW hc ord s a w K e s' h hr hQ
    · rw [Array.getElem?_toList] at h2
      simp only [pickL, List.filterMap_cons, h1, runOps] at hr
      rw [wpOps_cons]
      simp only [wpOp, h2]
      have h3' := h3
      simp only [chk1, Bool.and_eq_true, beq_iff_eq] at h3'
      obtain ⟨⟨⟨⟨⟨c1, c2⟩, _⟩, c3⟩, c4⟩, c5⟩ := h3'
      split at hr
      · simp at hr
      · rename_i hwant
        rw [guard_ok h.sim c5 hwant rfl]
        simp only [Bool.false_eq_true, if_false]
        have hI : Inv E K (putO s ao.dst (.tup [])) (a.put ao.dst undef) w N :=
          h.put h.sim h.wf (Up.refl _ _) rfl (by simp only [Rep, RepL]; exact ⟨#[], rfl, rfl⟩) (by simp [AV.refB, AV.refBs]) (fresh_of_not_own (by intro es e; cases e)) (fun d hd => by rw [hd] at c4; simp at c4; exact c4.1)
        rw [← c3]
        refine ops_wp hC hCW hc ord _ _ w K e s' hI hr fun ex a' w' K' h5 h6 h7 => hQ ex a' w' K' h5 h6 (by rwa [putO_rf] at h7)
      · rename_i hwant
        rw [guard_ok h.sim c5 hwant rfl]
        simp only [if_true]
        refine .inl ?_
        split at hr
        · rename_i v s1 hs
          refine step_wp hC hCW h h3 hs ?_
          intro a' w' K' h5 h6
          have hl := stepOp_len hCW hs h.wf c2
          refine ops_wp hC hCW hc ord _ _ w' K' e s' h5 hr fun ex a'' w'' K'' h7 h8 h9 => hQ ex a'' w'' K'' h7 h8 (h6.trans (h9.le ?_))
          rw [putO_rf]; exact hl
        · rename_i s1 hs
          refine step_wp hC hCW h h3 hs ?_
          intro a' w' K' h5 h6
          have hl := stepOp_len hCW hs h.wf c2
          exact ops_wp hC hCW hc ord _ _ w' K' e s' h5 hr fun ex a'' w'' K'' h7 h8 h9 => hQ ex a'' w'' K'' h7 h8 (h6.trans (h9.le hl))
        · rename_i v s1 hs
          refine step_wp hC hCW h h3 hs ?_
          intro a' pv ch w' K' h5 h6 h7 h8
          split at hr
          · simp only [Option.some.injEq, Prod.mk.injEq] at hr
            obtain ⟨rfl, rfl⟩ := hr
            exact hQ (.panic ch) a' w' K' ⟨pv, h6, h7⟩ h5 h8
          · simp at hr
        · simp at hr

end
end Go.Ab
