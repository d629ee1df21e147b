/- Code within a round of a range over a function: the run, in the layer of fences (here: fences that let everything in). -/
import Derived.Test.YtpdfcjgehdlheaaA27
import Derived.RangeFuncIn
import Derived.LoopNIn
set_option linter.all false
namespace Go.Ab

/-- the fence that lets everything in, of frames that are a loop's round, or none's -/
def FW (r : Option Nat) : Fence := { Fence.wide with round := r }

theorem callsIn_FW {r : Option Nat} {nn : Nat} {P : Program} {f : FuncId} {args : Array Value} {w : World} {R : Ending → World → Prop} (h : Calls P f args w R) : CallsIn (FW r) nn P f args w R :=
  callsIn_wide.2 h

theorem rowsIn_FW {r : Option Nat} {nn : Nat} {P : Program} {row : String} {args : Array Value} {w : World} {R : Value → World → Prop} (h : Rows P row args w R) : RowsIn (FW r) nn P row args w R :=
  fun c cs _ => let ⟨v, w', hr, s⟩ := h c cs; ⟨v, w', hr, stepsIn_wide.2 s⟩

section
variable {P : Program} {E : Env} {K : Ctx} {s : St} {a : Act} {w : World} {next : Act → World → Prop} {Q : Exit → Act → World → Prop} {C : CallFn} {N : Nat} {ops : Array Oper} {r : Option Nat} {nn : Nat}

theorem wpIn_of_wp {o : Oper} (hd : o.semAt r a.eval = execOp a.eval o) (h : o.wp P a w next Q) : o.wpIn (FW r) nn P a w next Q := by
  refine ⟨fun f _ => trivial, ?_⟩
  have hr : (FW r).round = r := rfl
  rw [hr, hd]
  unfold Oper.wp at h
  generalize (execOp a.eval o).run P w = x at h
  unfold Oper.upon at h
  split at h
  · exact h
  · exact h
  · exact h
  · exact ⟨fun hh => by simp [FW, Fence.wide] at hh, callsIn_FW h⟩
  · exact ⟨fun hh => by simp [FW, Fence.wide] at hh, rowsIn_FW h⟩
  · exact h
  · exact h.elim


def AOpk.isDefer : AOpk → Bool
  | .defer _ _ => true
  | _ => false

def AC.noDefer : AC → Bool
  | .ops l => l.all fun o => !o.op.isDefer
  | .seq a b => a.noDefer && b.noDefer
  | .cond _ t e => t.noDefer && e.noDefer
  | .block _ b => b.noDefer
  | .loop _ b => b.noDefer
  | .trim _ b => b.noDefer
  | _ => true

def AC.flat : AC → Bool
  | .seq a b => a.flat && b.flat
  | .cond _ t e => t.flat && e.flat
  | .block _ b => b.flat
  | .loop _ b => b.flat
  | .trim _ b => b.flat
  | .scope _ _ _ => false
  | .label => false
  | .goto _ => false
  | _ => true

set_option maxHeartbeats 1000000 in
theorem not_defer {x : AOpk} {o : Oper} (h : chkOp P x o = true) (hx : x.isDefer = false) : ∀ c, o.op ≠ .defer c := by
  intro c hc
  cases x <;> simp only [AOpk.isDefer, Bool.true_eq_false] at hx <;> simp [chkOp, hc] at h

theorem opsIn_wp (hC : CallSound P C) (hCW : CallWF C) {l : List AOp} (hc : chkL P N ops l ops.toList = true) (hnd : r = none ∨ ∀ o, o ∈ l → o.op.isDefer = false) : ∀ (ord : List Nat) (s : St) (a : Act) (w : World) (K : Ctx) (e : Ex) (s' : St),
    Inv E K s a w N → runOps C (pickL l ord) s = some (e, s') → (∀ ex a' w' K', ExR K' e ex → Inv E K' s' a' w' N → Up s.rf.length K K' → Q ex a' w') → wpOpsIn (FW r) nn P ops Q ord a w
  | [], s, a, w, K, e, s', h, hr, hQ => by
    simp only [pickL, List.filterMap_nil, runOps, Option.some.injEq, Prod.mk.injEq] at hr
    obtain ⟨rfl, rfl⟩ := hr
    exact hQ .normal a w K trivial h (Up.refl _ _)
  | i :: ord, s, a, w, K, e, s', h, hr, hQ => by
    rcases chkL_get hc i with ⟨h1, h2⟩ | ⟨ao, o, h1, h2, h3⟩
    · rw [Array.getElem?_toList] at h2
      simp only [pickL, List.filterMap_cons, h1] at hr
      simp only [wpOpsIn, h2]
      exact opsIn_wp hC hCW hc hnd ord s a w K e s' h hr hQ
    · rw [Array.getElem?_toList] at h2
      simp only [pickL, List.filterMap_cons, h1, runOps] at hr
      simp only [wpOpsIn, h2]
      have h3' := h3
      simp only [chk1, Bool.and_eq_true, beq_iff_eq] at h3'
      obtain ⟨⟨⟨⟨⟨c1, c2⟩, _⟩, c3⟩, c4⟩, c5⟩ := h3'
      split at hr
      · simp at hr
      · rename_i hwant
        rw [guard_ok h.sim c5 hwant rfl]
        simp only [Bool.false_eq_true, if_false]
        refine ⟨fun _ _ => trivial, ?_⟩
        have hI : Inv E K (putO s ao.dst (.tup [])) (a.put ao.dst undef) w N :=
          h.put h.sim h.wf (Up.refl _ _) rfl (by simp only [Rep, RepL]; exact ⟨#[], rfl, rfl⟩) (by simp [AV.refB, AV.refBs]) (fresh_of_not_own (by intro es e; cases e)) (fun d hd => by rw [hd] at c4; simp at c4; exact c4.1)
        rw [← c3]
        refine opsIn_wp hC hCW hc hnd ord _ _ w K e s' hI hr fun ex a' w' K' h5 h6 h7 => hQ ex a' w' K' h5 h6 (by rwa [putO_rf] at h7)
      · rename_i hwant
        rw [guard_ok h.sim c5 hwant rfl]
        simp only [if_true]
        have hsem : o.semAt r a.eval = execOp a.eval o := by
          rcases hnd with rfl | hnd
          · rfl
          · exact Oper.semAt_eq _ _ _ (not_defer c1 (hnd ao (List.mem_of_getElem? h1)))
        refine wpIn_of_wp hsem ?_
        split at hr
        · rename_i v s1 hs
          refine step_wp hC hCW h h3 hs ?_
          intro a' w' K' h5 h6
          have hl := stepOp_len hCW hs h.wf c2
          refine opsIn_wp hC hCW hc hnd ord _ _ w' K' e s' h5 hr fun ex a'' w'' K'' h7 h8 h9 => hQ ex a'' w'' K'' h7 h8 (h6.trans (h9.le ?_))
          rw [putO_rf]; exact hl
        · rename_i s1 hs
          refine step_wp hC hCW h h3 hs ?_
          intro a' w' K' h5 h6
          have hl := stepOp_len hCW hs h.wf c2
          exact opsIn_wp hC hCW hc hnd ord _ _ w' K' e s' h5 hr fun ex a'' w'' K'' h7 h8 h9 => hQ ex a'' w'' K'' h7 h8 (h6.trans (h9.le hl))
        · rename_i v s1 hs
          refine step_wp hC hCW h h3 hs ?_
          intro a' pv ch w' K' h5 h6 h7 h8
          split at hr
          · simp only [Option.some.injEq, Prod.mk.injEq] at hr
            obtain ⟨rfl, rfl⟩ := hr
            exact hQ (.panic ch) a' w' K' ⟨pv, h6, h7⟩ h5 h8
          · simp at hr
        · simp at hr

theorem runIn_wp (hC : CallSound P C) (hCW : CallWF C) (h0 : RB E.rf0.length E.rf0) (kk : Nat) : ∀ (c : AC) (code : Code) (s : St) (a : Act) (w : World) (K : Ctx) (Q : Exit → Act → World → Prop) (e : Ex) (s' : St),
    chkC P N c code = true → c.cok = true → c.flat = true → (r = none ∨ c.noDefer = true) → Inv E K s a w N → run C kk c s = some (e, s') → (∀ ex a' w' K', ExR K' e ex → Inv E K' s' a' w' N → Q ex a' w') → code.wpIn (FW r) nn P Q a w
  | .skip, code, s, a, w, K, Q, e, s', hc, _, hfl, _, h, hr, hQ => by
    cases code <;> simp [chkC] at hc
    simp only [run, Option.some.injEq, Prod.mk.injEq] at hr
    obtain ⟨rfl, rfl⟩ := hr
    exact wpIn_skip (hQ .normal a w K trivial h)
  | .ops l, code, s, a, w, K, Q, e, s', hc, hk, hfl, hnd, h, hr, hQ => by
    cases code <;> simp [chkC] at hc
    rename_i id ops draw
    simp only [run] at hr
    have hnd' : r = none ∨ ∀ o, o ∈ l → o.op.isDefer = false := hnd.imp (fun x => x) fun q o ho => by simpa using List.all_eq_true.1 q o ho
    have hlen : l.length = ops.size := by
      have : ∀ {l : List AOp} {m : List Oper}, chkL P N ops l m = true → l.length = m.length := fun {l m} => by
        induction l generalizing m with
        | nil => intro h; cases m <;> simp [chkL] at h ⊢
        | cons x l ih =>
          intro h
          cases m with
          | nil => simp [chkL] at h
          | cons o m =>
            simp only [chkL, Bool.and_eq_true] at h
            simp [ih h.2]
      simpa using this hc.1
    cases draw with
    | false =>
      refine wpIn_region ?_
      have hp := pickL_range l ops.size 0 (by omega)
      rw [List.drop_zero, ← List.range_eq_range'] at hp
      exact opsIn_wp hC hCW hc.1 hnd' _ s a w K e s' h (by rw [hp]; exact hr) fun ex a' w' K' h1 h2 _ => hQ ex a' w' K' h1 h2
    | true =>
      refine wpIn_region_draw fun t => ?_
      have hd : P.follows .mixedOrders = true ∧ drawOK ops l = true := by
        rcases hc.2 with h | h
        · cases h
        · exact h
      rw [hd.1]
      obtain ⟨u', h1, h2⟩ := schedule_runs hlen hd.2 t hr
      have h' : Inv E K s a { w with drawn := w.drawn + 1 } N := ⟨h.sim.drew, h.wf, h.df, h.size⟩
      refine opsIn_wp hC hCW hc.1 hnd' _ s a _ K e u' h' h1 fun ex a' w' K' h3 h4 _ => hQ ex a' w' K' h3 (h4.alike ⟨fun t => (h2.1 t).symm, h2.2.symm⟩)
  | .seq x y, code, s, a, w, K, Q, e, s', hc, hk, hfl, hnd, h, hr, hQ => by
    cases code <;> simp [chkC] at hc
    rename_i cx cy
    simp only [AC.cok, Bool.and_eq_true] at hk
    simp only [run] at hr
    refine wpIn_seq ?_
    split at hr
    · rename_i s1 hr1
      refine runIn_wp hC hCW h0 kk x cx s a w K _ _ s1 hc.1 hk.1 (Bool.and_eq_true_iff.1 hfl).1 (hnd.imp (fun x => x) fun q => (Bool.and_eq_true_iff.1 q).1) h hr1 fun ex a' w' K' h1 h2 => ?_
      cases ex <;> simp only [ExR] at h1
      exact runIn_wp hC hCW h0 kk y cy s1 a' w' K' Q e s' hc.2 hk.2 (Bool.and_eq_true_iff.1 hfl).2 (hnd.imp (fun x => x) fun q => (Bool.and_eq_true_iff.1 q).2) h2 hr hQ
    · rename_i hne
      refine runIn_wp hC hCW h0 kk x cx s a w K _ e s' hc.1 hk.1 (Bool.and_eq_true_iff.1 hfl).1 (hnd.imp (fun x => x) fun q => (Bool.and_eq_true_iff.1 q).1) h hr fun ex a' w' K' h1 h2 => ?_
      have hq := hQ ex a' w' K' h1 h2
      cases ex with
      | normal =>
        cases e <;> simp only [ExR] at h1
        exact absurd hr (hne s')
      | _ => exact hq
  | .cond c t f, code, s, a, w, K, Q, e, s', hc, hk, hfl, hnd, h, hr, hQ => by
    cases code <;> simp [chkC] at hc
    rename_i c' ct cf
    simp only [AC.cok, Bool.and_eq_true] at hk
    simp only [run] at hr
    split at hr
    · rename_i hg
      have := getO_rep h.sim hc.1.1 hg
      simp only [Rep, RepD] at this
      exact wpIn_cond_true this (runIn_wp hC hCW h0 kk t ct s a w K Q e s' hc.1.2 hk.1.2 (Bool.and_eq_true_iff.1 hfl).1 (hnd.imp (fun x => x) fun q => (Bool.and_eq_true_iff.1 q).1) h hr hQ)
    · rename_i hg
      have := getO_rep h.sim hc.1.1 hg
      simp only [Rep, RepD] at this
      exact wpIn_cond_false this (runIn_wp hC hCW h0 kk f cf s a w K Q e s' hc.2 hk.2 (Bool.and_eq_true_iff.1 hfl).2 (hnd.imp (fun x => x) fun q => (Bool.and_eq_true_iff.1 q).2) h hr hQ)
    · simp at hr
  | .block i b, code, s, a, w, K, Q, e, s', hc, hk, hfl, hnd, h, hr, hQ => by
    cases code <;> simp [chkC] at hc
    rename_i j cb
    obtain ⟨rfl, hc⟩ := hc
    simp only [AC.cok] at hk
    simp only [run] at hr
    refine wpIn_block ?_
    split at hr
    · rename_i j s1 hr1
      refine runIn_wp hC hCW h0 kk b cb s a w K _ _ s1 hc hk hfl hnd h hr1 fun ex a' w' K' h1 h2 => ?_
      cases ex <;> simp only [ExR] at h1
      subst h1
      simp only [Exit.inBlock]
      split at hr
      · rename_i hij
        simp only [Option.some.injEq, Prod.mk.injEq] at hr
        obtain ⟨rfl, rfl⟩ := hr
        rw [if_pos hij]
        exact hQ .normal a' w' K' trivial h2
      · rename_i hij
        simp only [Option.some.injEq, Prod.mk.injEq] at hr
        obtain ⟨rfl, rfl⟩ := hr
        rw [if_neg hij]
        exact hQ (.exit j) a' w' K' rfl h2
    · rename_i hne
      refine runIn_wp hC hCW h0 kk b cb s a w K _ e s' hc hk hfl hnd h hr fun ex a' w' K' h1 h2 => ?_
      have hq := hQ ex a' w' K' h1 h2
      cases ex with
      | exit j =>
        cases e <;> simp only [ExR] at h1
        subst h1
        exact absurd hr (hne _ s')
      | _ => exact hq
  | .loop keep b, code, s, a, w, K, Q, e, s', hc, hk, hfl, hnd, h, hr, hQ => by
    cases code <;> simp [chkC] at hc
    rename_i cb
    simp only [AC.cok] at hk
    simp only [run] at hr
    have key : ∀ (m : Nat) (n : Nat) (s : St) (a : Act) (w : World) (K : Ctx), E.rf0.length ≤ n → n ≤ s.rf.length → Inv E K s a w N → runLoop (run C kk b) keep n m s = some (e, s') → Code.roundsIn (FW r) nn P cb Q m a w := by
      intro m
      induction m with
      | zero => intro n s a w K _ _ _ hr; simp [runLoop] at hr
      | succ m ih =>
        intro n s a w K hn hn' h hr
        simp only [runLoop] at hr
        rw [roundsIn_succ]
        split at hr
        · rename_i s1 hr1
          have hlen := (run_wf hCW kk h0 hr1 hk h.wf).2.2
          refine runIn_wp hC hCW h0 kk b cb s a w K _ _ s1 hc hk hfl hnd h hr1 fun ex a' w' K' h1 h2 => ?_
          cases ex <;> simp only [ExR] at h1
          exact ih n (s1.trimLoop keep n) a' w' K' hn (trimLoop_len keep (by omega)) (h2.trimLoop h0 keep hn (by omega)) hr
        · rename_i hne
          refine runIn_wp hC hCW h0 kk b cb s a w K _ e s' hc hk hfl hnd h hr fun ex a' w' K' h1 h2 => ?_
          have hq := hQ ex a' w' K' h1 h2
          cases ex with
          | normal =>
            cases e <;> simp only [ExR] at h1
            exact absurd hr (hne s')
          | _ => exact hq
    refine wpIn_loop_rounds kk (key kk s.rf.length (s.trimLoop keep s.rf.length) a w K h.wf.le (trimLoop_len keep (Nat.le_refl _)) (h.trimLoop h0 keep h.wf.le (Nat.le_refl _)) hr)
  | .exit i, code, s, a, w, K, Q, e, s', hc, _, hfl, _, h, hr, hQ => by
    cases code <;> simp [chkC] at hc
    subst hc
    simp only [run, Option.some.injEq, Prod.mk.injEq] at hr
    obtain ⟨rfl, rfl⟩ := hr
    exact wpIn_exit (hQ (.exit i) a w K rfl h)
  | .ret, code, s, a, w, K, Q, e, s', hc, _, hfl, _, h, hr, hQ => by
    cases code <;> simp [chkC] at hc
    simp only [run, Option.some.injEq, Prod.mk.injEq] at hr
    obtain ⟨rfl, rfl⟩ := hr
    exact wpIn_ret (hQ .ret a w K trivial h)
  | .hole, code, s, a, w, K, Q, e, s', hc, _, hfl, _, h, hr, hQ => by simp [run] at hr
  | .label, code, s, a, w, K, Q, e, s', hc, _, hfl, _, h, hr, hQ => by simp [AC.flat] at hfl
  | .goto l, code, s, a, w, K, Q, e, s', hc, _, hfl, _, h, hr, hQ => by simp [AC.flat] at hfl
  | .scope l b r, code, s, a, w, K, Q, e, s', hc, _, hfl, _, h, hr, hQ => by simp [AC.flat] at hfl
  | .trim keep b, code, s, a, w, K, Q, e, s', hc, hk, hfl, hnd, h, hr, hQ => by
    simp only [chkC] at hc
    simp only [AC.cok] at hk
    simp only [run] at hr
    split at hr
    · rename_i s1 hr1
      simp only [Option.some.injEq, Prod.mk.injEq] at hr
      obtain ⟨rfl, rfl⟩ := hr
      exact runIn_wp hC hCW h0 kk b code s a w K Q _ s1 hc hk hfl hnd h hr1 fun ex a' w' K' h1 h2 => hQ ex a' w' K' h1 (h2.keep keep)
    · exact runIn_wp hC hCW h0 kk b code s a w K Q e s' hc hk hfl hnd h hr hQ

end
end Go.Ab
