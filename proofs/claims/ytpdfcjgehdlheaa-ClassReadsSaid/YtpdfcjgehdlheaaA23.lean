/- Functions that are put off, and what ends a panic. -/
import Derived.Test.YtpdfcjgehdlheaaA22
set_option linter.all false
namespace Go.Ab

def chk1R (P : Program) (N : Nat) (ops : Array Oper) (ao : AOp) (o : Oper) : Bool :=
  chk1 P N ops ao o || (ao.op.isRec && chkOp P ao.op o && ao.dst == o.dst && (match ao.dst with | some d => decide (d < N) | none => true) && chkGuard ops ao.guard o.guard)

def chkLR (P : Program) (N : Nat) (ops : Array Oper) : List AOp → List Oper → Bool
  | [], [] => true
  | x :: l, o :: m => chk1R P N ops x o && chkLR P N ops l m
  | _, _ => false

/-- code in which a panic may be ended -/
def chkS (P : Program) (N : Nat) : AC → Code → Bool
  | .trim _ b, x => chkS P N b x
  | .seq a b, .seq x y => chkS P N a x && chkS P N b y
  | .cond c t e, .cond c' x y => chkO c c' && chkS P N t x && chkS P N e y
  | .ops l, .region _ ops false => chkLR P N ops l ops.toList
  | c, x => chkC P N c x

theorem chkLR_get {P : Program} {N : Nat} {ops : Array Oper} : ∀ {l : List AOp} {m : List Oper}, chkLR P N ops l m = true → ∀ i : Nat, (l[i]? = none ∧ m[i]? = none) ∨ ∃ x o, l[i]? = some x ∧ m[i]? = some o ∧ chk1R P N ops x o = true
  | [], [], _, i => .inl ⟨by simp, by simp⟩
  | [], _ :: _, h, i => by simp [chkLR] at h
  | _ :: _, [], h, i => by simp [chkLR] at h
  | x :: l, o :: m, h, i => by
    simp only [chkLR, Bool.and_eq_true] at h
    cases i with
    | zero => exact .inr ⟨x, o, by simp, by simp, h.1⟩
    | succ i => simpa using chkLR_get h.2 i

theorem chkLR_length {P : Program} {N : Nat} {ops : Array Oper} : ∀ {l : List AOp} {m : List Oper}, chkLR P N ops l m = true → l.length = m.length
  | [], [], _ => rfl
  | [], _ :: _, h => by simp [chkLR] at h
  | _ :: _, [], h => by simp [chkLR] at h
  | x :: l, o :: m, h => by
    simp only [chkLR, Bool.and_eq_true] at h
    simp [chkLR_length h.2]

theorem stepOp_pn {C : CallFn} {s : St} {o : AOpk} {d : Did} (h : stepOp C s o = some d) (ho : o.isRec = false) : d.st.pn = s.pn := by
  by_cases hp : o.plain = true
  · exact (stepOp_same h hp).2
  · cases o <;> simp [AOpk.plain, AOpk.isRec] at hp ho
    simp only [stepOp] at h
    split at h
    · simp only [Option.some.injEq] at h; subst h; rfl
    · simp at h

theorem putO_pn (s : St) (d : Option Nat) (v : AV) : (putO s d v).pn = s.pn := by cases d <;> rfl

theorem runOps_pn {P : Program} {N : Nat} {ops : Array Oper} {C : CallFn} : ∀ {l : List AOp} {m : List Oper} {s : St} {e : Ex} {s' : St}, chkL P N ops l m = true → runOps C l s = some (e, s') → s'.pn = s.pn
  | [], m, s, e, s', _, h => by
    simp only [runOps, Option.some.injEq, Prod.mk.injEq] at h
    rw [h.2]
  | o :: l, m, s, e, s', hc, h => by
    cases m with
    | nil => simp [chkL] at hc
    | cons x m =>
      simp only [chkL, Bool.and_eq_true] at hc
      have hn : o.op.isRec = false := by
        have := hc.1
        simp only [chk1, Bool.and_eq_true, Bool.not_eq_true'] at this
        exact this.1.1.1.2
      simp only [runOps] at h
      split at h
      · simp at h
      · rw [runOps_pn hc.2 h, putO_pn]
      · split at h
        · rename_i v s1 hs
          rw [runOps_pn hc.2 h, putO_pn]
          exact stepOp_pn hs hn
        · rename_i s1 hs
          rw [runOps_pn hc.2 h]
          exact stepOp_pn hs hn
        · rename_i v s1 hs
          split at h
          · simp only [Option.some.injEq, Prod.mk.injEq] at h
            rw [← h.2]
            exact stepOp_pn hs hn
          · simp at h
        · simp at h

theorem trimLoop_pn (s : St) (keep : List Nat) (n : Nat) : (s.trimLoop keep n).pn = s.pn := by
  unfold St.trimLoop
  simp only
  split <;> rfl

theorem run_pn {P : Program} {N : Nat} {C : CallFn} (kk : Nat) : ∀ (c : AC) (code : Code) (s : St) (e : Ex) (s' : St), chkC P N c code = true → run C kk c s = some (e, s') → s'.pn = s.pn
  | .skip, code, s, e, s', hc, h => by simp only [run, Option.some.injEq, Prod.mk.injEq] at h; rw [h.2]
  | .ops l, code, s, e, s', hc, h => by
    cases code <;> simp [chkC] at hc
    exact runOps_pn hc.1 h
  | .seq x y, code, s, e, s', hc, h => by
    cases code <;> simp [chkC] at hc
    simp only [run] at h
    split at h
    · rename_i s1 h1
      rw [run_pn kk y _ _ _ _ hc.2 h, run_pn kk x _ _ _ _ hc.1 h1]
    · exact run_pn kk x _ _ _ _ hc.1 h
  | .cond c t f, code, s, e, s', hc, h => by
    cases code <;> simp [chkC] at hc
    simp only [run] at h
    split at h
    · exact run_pn kk t _ _ _ _ hc.1.2 h
    · exact run_pn kk f _ _ _ _ hc.2 h
    · simp at h
  | .block i b, code, s, e, s', hc, h => by
    cases code <;> simp [chkC] at hc
    simp only [run] at h
    split at h
    · rename_i j s1 h1
      have := run_pn kk b _ _ _ _ hc.2 h1
      split at h <;> (simp only [Option.some.injEq, Prod.mk.injEq] at h; rw [← h.2]; exact this)
    · exact run_pn kk b _ _ _ _ hc.2 h
  | .loop keep b, code, s, e, s', hc, h => by
    cases code <;> simp [chkC] at hc
    simp only [run] at h
    have key : ∀ (m n : Nat) (s : St), runLoop (run C kk b) keep n m s = some (e, s') → s'.pn = s.pn := by
      intro m
      induction m with
      | zero => intro n s hr; simp [runLoop] at hr
      | succ m ih =>
        intro n s hr
        simp only [runLoop] at hr
        split at hr
        · rename_i s1 h1
          rw [ih _ _ hr, trimLoop_pn, run_pn kk b _ _ _ _ hc h1]
        · exact run_pn kk b _ _ _ _ hc hr
    rw [key _ _ _ h, trimLoop_pn]
  | .exit i, code, s, e, s', hc, h => by simp only [run, Option.some.injEq, Prod.mk.injEq] at h; rw [h.2]
  | .hole, code, s, e, s', hc, h => by simp [run] at h
  | .label, code, s, e, s', hc, h => by simp only [run, Option.some.injEq, Prod.mk.injEq] at h; rw [h.2]
  | .goto i, code, s, e, s', hc, h => by simp only [run, Option.some.injEq, Prod.mk.injEq] at h; rw [h.2]
  | .scope l b r, code, s, e, s', hc, h => by
    cases code <;> simp [chkC] at hc
    obtain ⟨hc1, hc2⟩ := hc
    split at hc2
    · simp only [run] at h
      split at h
      · rename_i i s1 h1
        split at h
        · split at h
          · cases h
          · rw [run_pn kk r _ _ _ _ hc2 h, run_pn kk b _ _ _ _ hc1 h1]
        · cases h
      · exact run_pn kk b _ _ _ _ hc1 h
    · cases hc2
  | .ret, code, s, e, s', hc, h => by simp only [run, Option.some.injEq, Prod.mk.injEq] at h; rw [h.2]
  | .trim keep b, code, s, e, s', hc, h => by
    simp only [chkC] at hc
    simp only [run] at h
    split at h
    · rename_i s1 h1
      simp only [Option.some.injEq, Prod.mk.injEq] at h
      rw [← h.2]
      show s1.pn = s.pn
      exact run_pn kk b _ _ _ _ hc h1
    · exact run_pn kk b _ _ _ _ hc h

def PnR (E : Env) : Option (Option AV) → FrameMode → Prop
  | some (some v), u => ∃ ch pv, u = .panicking ch ∧ Rep E.K0 v pv ∧ v.refB ≤ E.rf0.length ∧ Chain pv ch
  | some none, u => u = .returning ∨ ∃ pv older, u = .panicking ({ v := pv, recovered := true } :: older) ∧ ∀ e ∈ older, e.goexit = false
  | none, _ => False

section
variable {P : Program} {E : Env} {K : Ctx} {s : St} {a : Act} {w : World} {C : CallFn} {N : Nat} {ops : Array Oper} {c₀ : Frame} {cs : List Frame}

theorem Sim.ofK0 {tm : Array Value} (h : Sim E K s tm w) {v : AV} {pv : Value} (hb : v.refB ≤ E.rf0.length) (hr : Rep E.K0 v pv) : Rep K v pv :=
  Rep.mono h.gle (fun r hr => (h.rho r hr).symm) _ _ hb hr

theorem opsS_wp {Q : Exit → Act → List Frame → World → Prop} (hC : CallSound P C) (hCW : CallWF C) {l : List AOp} (hc : chkLR P N ops l ops.toList = true) : ∀ (ord : List Nat) (s : St) (a : Act) (u : FrameMode) (w : World) (K : Ctx) (e : Ex) (s' : St),
    Inv E K s a w N → PnR E s.pn u → runOps C (pickL l ord) s = some (e, s') → (∀ ex a' u' w' K', ExR K' e ex → Inv E K' s' a' w' N → PnR E s'.pn u' → Q ex a' ({ c₀ with mode := u' } :: cs) w') →
    wpOpsS P ops Q ord a ({ c₀ with mode := u } :: cs) w
  | [], s, a, u, w, K, e, s', h, hu, hr, hQ => by
    simp only [pickL, List.filterMap_nil, runOps, Option.some.injEq, Prod.mk.injEq] at hr
    obtain ⟨rfl, rfl⟩ := hr
    exact hQ .normal a u w K trivial h hu
  | i :: ord, s, a, u, w, K, e, s', h, hu, hr, hQ => by
    rcases chkLR_get hc i with ⟨h1, h2⟩ | ⟨ao, o, h1, h2, h3⟩
    · rw [Array.getElem?_toList] at h2
      simp only [pickL, List.filterMap_cons, h1] at hr
      simp only [wpOpsS, h2]
      exact opsS_wp hC hCW hc ord s a u w K e s' h hu hr hQ
    · rw [Array.getElem?_toList] at h2
      simp only [pickL, List.filterMap_cons, h1, runOps] at hr
      simp only [wpOpsS, h2]
      have hall : ao.dst = o.dst ∧ (∀ d, ao.dst = some d → d < N) ∧ chkGuard ops ao.guard o.guard = true ∧ (ao.op.isRec = false → chk1 P N ops ao o = true) ∧ (ao.op.isRec = true → chkOp P ao.op o = true) := by
        simp only [chk1R, Bool.or_eq_true] at h3
        rcases h3 with h3 | h3
        · have h3' := h3
          simp only [chk1, Bool.and_eq_true, beq_iff_eq, Bool.not_eq_true'] at h3'
          obtain ⟨⟨⟨⟨⟨c1, c2⟩, c0⟩, c3⟩, c4⟩, c5⟩ := h3'
          refine ⟨c3, fun d hd => ?_, c5, fun _ => h3, fun hr => (by rw [c0] at hr; cases hr)⟩
          rw [hd] at c4
          simp at c4
          exact c4.1
        · simp only [Bool.and_eq_true, beq_iff_eq] at h3
          obtain ⟨⟨⟨⟨c0, c1⟩, c3⟩, c4⟩, c5⟩ := h3
          refine ⟨c3, fun d hd => ?_, c5, fun hr => (by rw [c0] at hr; cases hr), fun _ => c1⟩
          rw [hd] at c4
          simpa using c4
      obtain ⟨c3, c4, c5, cN, cR⟩ := hall
      split at hr
      · simp at hr
      · rename_i hwant
        rw [guard_ok h.sim c5 hwant rfl]
        simp only [Bool.false_eq_true, if_false]
        have hI : Inv E K (putO s ao.dst (.tup [])) (a.put ao.dst undef) w N :=
          h.put h.sim h.wf (Up.refl _ _) rfl (by simp only [Rep, RepL]; exact ⟨#[], rfl, rfl⟩) (by simp [AV.refB, AV.refBs]) (fresh_of_not_own (by intro es e; cases e)) c4
        rw [← c3]
        exact opsS_wp hC hCW hc ord _ _ u w K e s' hI (by rw [putO_pn]; exact hu) hr hQ
      · rename_i hwant
        rw [guard_ok h.sim c5 hwant rfl]
        simp only [if_true]
        cases hrec : ao.op.isRec with
        | true =>
          have c1 := cR hrec
          obtain ⟨dst, op, gd, may⟩ := ao
          simp only at *
          cases op <;> simp only [AOpk.isRec, Bool.false_eq_true] at hrec
          have hrun : (execOp a.eval o).run P w = .ok .recover w := by
            simp only [chkOp] at c1
            split at c1
            · rename_i c ho
              cases hcl : c.callee with
              | builtin b =>
                rw [hcl] at c1
                cases b <;> simp at c1
                simp [execOp, ho, resolve, hcl, invoke, builtin]
              | value g => rw [hcl] at c1; simp at c1
              | invoke r m => rw [hcl] at c1; simp at c1
            · simp at c1
          rw [hrun]
          simp only [stepOp] at hr
          cases hpn : s.pn with
          | none => rw [hpn] at hu; exact hu.elim
          | some pn =>
            rw [hpn] at hr hu
            cases pn with
            | some v =>
              obtain ⟨ch, pv, rfl, h5, h6, older, rfl, h7⟩ := hu
              simp only [recoverD]
              have hI : Inv E K (putO { s with pn := some none } dst v.strip) (a.put dst pv) w N := by
                have hsim : Sim E K { s with pn := some none } a.tmps w := by
                  have := h.sim
                  exact ⟨this.size, this.os, this.tape, this.output, this.keep, this.gle, this.rho, this.cells, this.refs, this.refG, this.inj, this.rows, this.slots, this.own, this.uniq, this.tO, this.tR⟩
                have hwf : WF E.rf0 { s with pn := some none } := ⟨h.wf.nb, h.wf.le, h.wf.sb, h.wf.rb, h.wf.bd, h.wf.db, fun v e => by simp at e⟩
                exact h.put hsim hwf (Up.refl _ _) rfl (Rep.strip _ _ (h.sim.ofK0 h6 h5)) (by rw [refB_strip]; exact Nat.le_trans h6 h.wf.le) (fresh_of_not_own (strip_not_own v)) c4
              rw [← c3]
              exact opsS_wp hC hCW hc ord _ _ _ w K e s' hI (by rw [putO_pn]; exact .inr ⟨pv, older, rfl, h7⟩) hr hQ
            | none =>
              have hrc : recoverD ({ c₀ with mode := u } :: cs) = none := by
                rcases hu with rfl | ⟨pv, older, rfl, _⟩ <;> simp [recoverD]
              simp only [hrc]
              have hI : Inv E K (putO s dst (.d .nilI)) (a.put dst .nilIface) w N :=
                h.put h.sim h.wf (Up.refl _ _) rfl (by simp [Rep, RepD]) (by simp [AV.refB]) (fresh_of_not_own (by intro es e; cases e)) c4
              rw [← c3]
              exact opsS_wp hC hCW hc ord _ _ u w K e s' hI (by rw [putO_pn, hpn]; exact hu) hr hQ
        | false =>
          have hchk := cN hrec
          have c2 : ao.op.cok = true := by
            have := hchk
            simp only [chk1, Bool.and_eq_true] at this
            exact this.1.1.1.1.2
          have hdone : o.wp P a w (fun a' w' => wpOpsS P ops Q ord a' ({ c₀ with mode := u } :: cs) w') (fun e a' w' => Q e a' ({ c₀ with mode := u } :: cs) w') := by
            split at hr
            · rename_i v s1 hs
              refine step_wp hC hCW h hchk hs ?_
              intro a' w' K' h5 h6
              have hp := stepOp_pn hs hrec
              simp only [Did.st] at hp
              exact opsS_wp hC hCW hc ord _ _ u w' K' e s' h5 (by rw [putO_pn, hp]; exact hu) hr hQ
            · rename_i s1 hs
              refine step_wp hC hCW h hchk hs ?_
              intro a' w' K' h5 h6
              have hp := stepOp_pn hs hrec
              simp only [Did.st] at hp
              exact opsS_wp hC hCW hc ord _ _ u w' K' e s' h5 (by rw [hp]; exact hu) hr hQ
            · rename_i v s1 hs
              refine step_wp hC hCW h hchk hs ?_
              intro a' pv ch w' K' h5 h6 h7 h8
              have hp := stepOp_pn hs hrec
              simp only [Did.st] at hp
              split at hr
              · simp only [Option.some.injEq, Prod.mk.injEq] at hr
                obtain ⟨rfl, rfl⟩ := hr
                exact hQ (.panic ch) a' u w' K' ⟨pv, h6, h7⟩ h5 (by rw [hp]; exact hu)
              · simp at hr
            · simp at hr
          unfold Oper.wp at hdone
          generalize (execOp a.eval o).run P w = r at hdone
          split
          · rename_i w'
            exact hdone.elim
          · exact hdone

end
end Go.Ab
