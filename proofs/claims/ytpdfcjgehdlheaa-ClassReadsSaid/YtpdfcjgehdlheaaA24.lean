/- A table of simplified functions that fits the program: its calls are sound. -/
import Derived.Test.YtpdfcjgehdlheaaA23
set_option linter.all false
namespace Go.Ab

theorem chkLR_of {P : Program} {N : Nat} {ops : Array Oper} : ∀ {l : List AOp} {m : List Oper}, chkL P N ops l m = true → chkLR P N ops l m = true
  | [], [], _ => rfl
  | [], _ :: _, h => by simp [chkL] at h
  | _ :: _, [], h => by simp [chkL] at h
  | x :: l, o :: m, h => by
    simp only [chkL, Bool.and_eq_true] at h
    simp only [chkLR, chk1R, Bool.and_eq_true, Bool.or_eq_true]
    exact ⟨.inl h.1, chkLR_of h.2⟩

section
variable {P : Program} {E : Env} {C : CallFn} {N : Nat} {c₀ : Frame} {cs : List Frame}

theorem runS_wp (hC : CallSound P C) (hCW : CallWF C) (h0 : RB E.rf0.length E.rf0) (kk : Nat) : ∀ (c : AC) (code : Code) (s : St) (a : Act) (u : FrameMode) (w : World) (K : Ctx) (Q : Exit → Act → List Frame → World → Prop) (e : Ex) (s' : St),
    chkS P N c code = true → c.cok = true → Inv E K s a w N → PnR E s.pn u → run C kk c s = some (e, s') →
    (∀ ex a' u' w' K', ExR K' e ex → Inv E K' s' a' w' N → PnR E s'.pn u' → Q ex a' ({ c₀ with mode := u' } :: cs) w') → code.wpS P Q a ({ c₀ with mode := u } :: cs) w := by
  have plain : ∀ (c : AC) (code : Code) (s : St) (a : Act) (u : FrameMode) (w : World) (K : Ctx) (Q : Exit → Act → List Frame → World → Prop) (e : Ex) (s' : St),
    chkC P N c code = true → c.cok = true → Inv E K s a w N → PnR E s.pn u → run C kk c s = some (e, s') →
    (∀ ex a' u' w' K', ExR K' e ex → Inv E K' s' a' w' N → PnR E s'.pn u' → Q ex a' ({ c₀ with mode := u' } :: cs) w') → code.wpS P Q a ({ c₀ with mode := u } :: cs) w :=
    fun c code s a u w K Q e s' hc hk h hu hr hQ =>
      wpS_of_wp (run_wp hC hCW h0 kk c code s a w K _ e s' hc hk h hr fun ex a' w' K' h1 h2 => hQ ex a' u w' K' h1 h2 (by rw [run_pn kk c code s e s' hc hr]; exact hu))
  intro c
  induction c with
  | trim keep b ih =>
    intro code s a u w K Q e s' hc hk h hu hr hQ
    simp only [chkS] at hc
    simp only [AC.cok] at hk
    simp only [run] at hr
    split at hr
    · rename_i s1 hr1
      simp only [Option.some.injEq, Prod.mk.injEq] at hr
      obtain ⟨rfl, rfl⟩ := hr
      exact ih code s a u w K Q _ s1 hc hk h hu hr1 fun ex a' u' w' K' h1 h2 h3 => hQ ex a' u' w' K' h1 (h2.keep keep) h3
    · exact ih code s a u w K Q e s' hc hk h hu hr hQ
  | seq x y ihx ihy =>
    intro code s a u w K Q e s' hc hk h hu hr hQ
    cases code <;> simp only [chkS, chkC, Bool.false_eq_true, Bool.and_eq_true] at hc
    rename_i cx cy
    simp only [AC.cok, Bool.and_eq_true] at hk
    simp only [run] at hr
    refine wpS_seq ?_
    split at hr
    · rename_i s1 hr1
      refine ihx cx s a u w K _ _ s1 hc.1 hk.1 h hu hr1 fun ex a' u' w' K' h1 h2 h3 => ?_
      cases ex <;> simp only [ExR] at h1
      exact ihy cy s1 a' u' w' K' Q e s' hc.2 hk.2 h2 h3 hr hQ
    · rename_i hne
      refine ihx cx s a u w K _ e s' hc.1 hk.1 h hu hr fun ex a' u' w' K' h1 h2 h3 => ?_
      have hq := hQ ex a' u' w' K' h1 h2 h3
      cases ex with
      | normal =>
        cases e <;> simp only [ExR] at h1
        exact absurd hr (hne s')
      | _ => exact hq
  | cond c t f iht ihf =>
    intro code s a u w K Q e s' hc hk h hu hr hQ
    cases code <;> simp only [chkS, chkC, Bool.false_eq_true, Bool.and_eq_true] at hc
    rename_i c' ct cf
    simp only [AC.cok, Bool.and_eq_true] at hk
    simp only [run] at hr
    split at hr
    · rename_i hg
      have := getO_rep h.sim hc.1.1 hg
      simp only [Rep, RepD] at this
      refine wpS_cond (t := true) this ?_
      exact iht ct s a u w K Q e s' hc.1.2 hk.1.2 h hu hr hQ
    · rename_i hg
      have := getO_rep h.sim hc.1.1 hg
      simp only [Rep, RepD] at this
      refine wpS_cond (t := false) this ?_
      exact ihf cf s a u w K Q e s' hc.2 hk.2 h hu hr hQ
    · simp at hr
  | hole =>
    intro code s a u w K Q e s' hc hk h hu hr hQ
    simp [run] at hr
  | label =>
    intro code s a u w K Q e s' hc hk h hu hr hQ
    exact plain _ _ s a u w K Q e s' (by simpa only [chkS] using hc) hk h hu hr hQ
  | goto l =>
    intro code s a u w K Q e s' hc hk h hu hr hQ
    exact plain _ _ s a u w K Q e s' (by simpa only [chkS] using hc) hk h hu hr hQ
  | scope l b r =>
    intro code s a u w K Q e s' hc hk h hu hr hQ
    exact plain _ _ s a u w K Q e s' (by simpa only [chkS] using hc) hk h hu hr hQ
  | ops l =>
    intro code s a u w K Q e s' hc hk h hu hr hQ
    cases code
    case region id ops draw =>
      cases draw with
      | false =>
        simp only [chkS] at hc
        simp only [run] at hr
        refine wpS_region ?_
        have hlen : l.length = ops.size := by simpa using chkLR_length hc
        have hp := pickL_range l ops.size 0 (by omega)
        rw [List.drop_zero, ← List.range_eq_range'] at hp
        exact opsS_wp hC hCW hc _ s a u w K e s' h hu (by rw [hp]; exact hr) hQ
      | true =>
        simp only [chkS] at hc
        exact plain _ _ s a u w K Q e s' hc hk h hu hr hQ
    all_goals simp [chkS, chkC] at hc
  | skip =>
    intro code s a u w K Q e s' hc hk h hu hr hQ
    exact plain _ _ s a u w K Q e s' (by simpa only [chkS] using hc) hk h hu hr hQ
  | block i b _ =>
    intro code s a u w K Q e s' hc hk h hu hr hQ
    exact plain _ _ s a u w K Q e s' (by simpa only [chkS] using hc) hk h hu hr hQ
  | loop keep b _ =>
    intro code s a u w K Q e s' hc hk h hu hr hQ
    exact plain _ _ s a u w K Q e s' (by simpa only [chkS] using hc) hk h hu hr hQ
  | exit i =>
    intro code s a u w K Q e s' hc hk h hu hr hQ
    exact plain _ _ s a u w K Q e s' (by simpa only [chkS] using hc) hk h hu hr hQ
  | ret =>
    intro code s a u w K Q e s' hc hk h hu hr hQ
    exact plain _ _ s a u w K Q e s' (by simpa only [chkS] using hc) hk h hu hr hQ

end

/-- the function's text fits -/
structure Fits (P : Program) (f : FuncId) (af : AFn) (fn : Func) (code : Code) : Prop where
  get : P.funcs[f]? = some fn
  body : fn.body = some code
  cok : af.body.cok = true
  name : fn.name ≠ "runtime.NumGoroutine"

def FitN (P : Program) (tab : FuncId → Option AFn) : Prop := ∀ f af, tab f = some af → ∃ fn code, Fits P f af fn code ∧ chkC P fn.ntmps af.body code = true ∧ chkRes P af.res fn.results.toList = true ∧ af.keep = false
def FitD (P : Program) (tab : FuncId → Option AFn) : Prop := ∀ f af, tab f = some af → ∃ fn code, Fits P f af fn code ∧ chkS P fn.ntmps af.body code = true ∧ fn.results = #[]

theorem Fits.call {P : Program} {f : FuncId} {af : AFn} {fn : Func} {code : Code} (h : Fits P f af fn code) (args : Array Value) (w : World) : (callFunc f args).run P w = .ok (.enter f args) w := by
  simp [callFunc, h.get, h.body, h.name]

def ModeR (K : Ctx) (n : Nat) : Option AV → FrameMode → Prop
  | none, u => u = .returning
  | some v, u => ∃ ch pv, u = .panicking ch ∧ Rep K v pv ∧ v.refB ≤ n ∧ Chain pv ch

def DRes (K : Ctx) (n : Nat) (out : Out) (m' : Option AV) (u' : FrameMode) : Ending → Prop
  | .returned _ => (∃ v, out = .ret v) ∧ ModeR K n m' (settle u')
  | .panicked ch => ∃ av, out = .pan av ∧ ModeR K n (some av) (raised u' ch)
  | .outgrown => False

def CallDSound (P : Program) (CD : FuncId → List AV → Option AV → Refs → Option (Out × Option AV × Refs)) : Prop := ∀ f args m rf out m' rf', CD f args m rf = some (out, m', rf') →
  ∀ (E : Env) (K : Ctx) (s : St) (tm : Array Value) (w : World) (vs : Array Value) (u : FrameMode), s.rf = rf → Sim E K s tm w → WF E.rf0 s → AV.refBs args ≤ rf.length → (∀ x ∈ args, ∀ es, x ≠ .own es) → RepL K args vs.toList →
  ModeR K rf.length m u → (callFunc f vs).run P w = .ok (.enter f vs) w ∧ CallsD P f vs u w fun e u' w' => ∃ K', Sim E K' { s with rf := rf' } tm w' ∧ Up rf.length K K' ∧ DRes K' rf.length out m' u' e

theorem settle_chain {pv : Value} {ch : List PanicEntry} (h : Chain pv ch) : settle (.panicking ch) = .panicking ch := by
  obtain ⟨older, rfl, _⟩ := h
  rfl

theorem dropWhile_all {l : List PanicEntry} (h : ∀ e ∈ l, e.goexit = false) : l.dropWhile (!·.goexit) = [] := by
  induction l with
  | nil => rfl
  | cons x l ih =>
    rw [List.dropWhile_cons]
    simp only [h x (by simp), Bool.not_false, if_true]
    exact ih fun e he => h e (by simp [he])

theorem enter_inv {E : Env} {K : Ctx} {s : St} {tm : Array Value} {w : World} (h : Sim E K s tm w) (hw : WF E.rf0 s) {args : List AV} {vs : Array Value} (ha : AV.refBs args ≤ s.rf.length) (hno : ∀ x ∈ args, ∀ es, x ≠ .own es) (hr : RepL K args vs.toList)
    (pn : Option (Option AV)) (hpn : ∀ v, pn = some (some v) → v.refB ≤ s.rf.length) (N : Nat) :
    Inv (callEnv K s tm w) K { sl := enterS args 0, rf := s.rf, pn := pn, nb := s.rf.length } { tmps := vs ++ Array.replicate (N - vs.size) undef, defers := [] } w N :=
  ⟨h.enter hno hr _ [] pn, enter_wf hw.rb ha pn hpn, rfl, by simp; omega⟩

theorem callD_sound {P : Program} {tab : FuncId → Option AFn} (hf : FitD P tab) {C : CallFn} (hC : CallSound P C) (hCW : CallWF C) (k : Nat) : CallDSound P (callD tab C k) := by
  intro f args m rf out m' rf' hcall E K s tm w vs u hrf hsim hwf ha hno hr hm
  subst hrf
  unfold callD at hcall
  split at hcall
  · simp at hcall
  · rename_i af haf
    obtain ⟨fn, code, hfit, hchk, hres⟩ := hf f af haf
    refine ⟨hfit.call vs w, ?_⟩
    refine callsD_of_wpS hfit.get hfit.body fun c₀ cs hu => ?_
    have hc0 : ({ c₀ with mode := u } : Frame) = c₀ := by subst hu; rfl
    have hI := enter_inv hsim hwf ha hno hr (some m) (fun v e => by
      simp only [Option.some.injEq] at e
      subst e
      obtain ⟨ch, pv, _, _, h3, _⟩ := hm
      exact h3) fn.ntmps
    have hP : PnR (callEnv K s tm w) (some m) u := by
      cases m with
      | none => exact .inl hm
      | some v => exact hm
    have hback : ∀ {K' : Ctx} {s' : St} {a' : Act} {w' : World}, Inv (callEnv K s tm w) K' s' a' w' fn.ntmps → Sim E K' { s with rf := s'.rf.take s.rf.length } tm w' ∧ Up s.rf.length K K' := fun {K' s' a' w'} hI' =>
      hsim.back hwf hI'.sim rfl (by
        have h1 : s.rf.length ≤ s'.rf.length := hI'.wf.le
        simp only [List.length_take]; omega)
    have hmode : ∀ {K' : Ctx} {s' : St} {a' : Act} {w' : World} {u' : FrameMode}, Inv (callEnv K s tm w) K' s' a' w' fn.ntmps → PnR (callEnv K s tm w) s'.pn u' → ModeR K' s.rf.length (s'.pn.getD none) (settle u') := fun {K' s' a' w' u'} hI' hu' => by
      cases hpn : s'.pn with
      | none => rw [hpn] at hu'; exact hu'.elim
      | some p =>
        rw [hpn] at hu'
        cases p with
        | none =>
          rcases hu' with rfl | ⟨pv, older, rfl, ho⟩
          · rfl
          · show settle _ = .returning
            simp only [settle, dropWhile_all ho]
        | some v =>
          obtain ⟨ch, pv, rfl, h1, h2, h3⟩ := hu'
          exact ⟨ch, pv, settle_chain h3, hI'.sim.ofK0 h2 h1, h2, h3⟩
    have hresult : ∀ (tmps : Array Value) (w' : World), ∃ v, (results fn tmps).run P w' = .ok v w' := fun tmps w' => ⟨.tuple #[], by simp [results, hres]⟩
    rw [← hc0]
    split at hcall
    · rename_i s' hrun
      split at hcall
      · rename_i hdf
        simp only [Option.some.injEq, Prod.mk.injEq] at hcall
        obtain ⟨rfl, rfl, rfl⟩ := hcall
        refine runS_wp hC hCW hwf.rb k af.body code _ _ u w K _ _ s' hchk hfit.cok hI hP hrun fun ex a' u' w' K' h1 h2 h3 => ?_
        cases ex <;> simp only [ExR] at h1
        have hd : a'.defers = [] := by
          have := h2.df
          rw [List.isEmpty_iff.1 hdf] at this
          exact this
        obtain ⟨v, hv⟩ := hresult a'.tmps w'
        exact ⟨hd, u', rfl, v, hv, K', (hback h2).1, (hback h2).2, ⟨_, rfl⟩, hmode h2 h3⟩
      · simp at hcall
    · rename_i s' hrun
      split at hcall
      · rename_i hdf
        simp only [Option.some.injEq, Prod.mk.injEq] at hcall
        obtain ⟨rfl, rfl, rfl⟩ := hcall
        refine runS_wp hC hCW hwf.rb k af.body code _ _ u w K _ _ s' hchk hfit.cok hI hP hrun fun ex a' u' w' K' h1 h2 h3 => ?_
        cases ex <;> simp only [ExR] at h1
        have hd : a'.defers = [] := by
          have := h2.df
          rw [List.isEmpty_iff.1 hdf] at this
          exact this
        obtain ⟨v, hv⟩ := hresult a'.tmps w'
        exact ⟨hd, u', rfl, v, hv, K', (hback h2).1, (hback h2).2, ⟨_, rfl⟩, hmode h2 h3⟩
      · simp at hcall
    · rename_i v s' hrun
      split at hcall
      · rename_i hdf
        simp only [Option.some.injEq, Prod.mk.injEq] at hcall
        obtain ⟨rfl, rfl, rfl⟩ := hcall
        refine runS_wp hC hCW hwf.rb k af.body code _ _ u w K _ _ s' hchk hfit.cok hI hP hrun fun ex a' u' w' K' h1 h2 h3 => ?_
        cases ex <;> simp only [ExR] at h1
        obtain ⟨pv, h4, h5⟩ := h1
        have hd : a'.defers = [] := by
          have := h2.df
          rw [List.isEmpty_iff.1 hdf.1] at this
          exact this
        refine ⟨hd, u', rfl, K', (hback h2).1, (hback h2).2, _, rfl, ?_⟩
        rename_i ch
        obtain ⟨older, rfl, ho⟩ := h5
        have hold : ∃ more, raised u' ({ v := pv, recovered := false, goexit := false } :: older) = .panicking ({ v := pv, recovered := false, goexit := false } :: (older ++ more)) ∧ ∀ e ∈ more, e.goexit = false := by
          cases hpn : s'.pn with
          | none => rw [hpn] at h3; exact h3.elim
          | some p =>
            rw [hpn] at h3
            cases p with
            | none =>
              rcases h3 with rfl | ⟨pv', older', rfl, ho'⟩
              · exact ⟨[], by simp [raised], by simp⟩
              · exact ⟨_, rfl, by
                  intro e he
                  rcases List.mem_cons.1 he with rfl | he
                  · rfl
                  · exact ho' e he⟩
            | some v' =>
              obtain ⟨ch', pv', rfl, _, _, older', rfl, ho'⟩ := h3
              exact ⟨_, rfl, by
                intro e he
                rcases List.mem_cons.1 he with rfl | he
                · rfl
                · exact ho' e he⟩
        obtain ⟨more, h6, h7⟩ := hold
        refine ⟨_, pv, h6, Rep.bare _ _ h4, by rw [refB_bare]; exact hdf.2, older ++ more, rfl, fun e he => ?_⟩
        rcases List.mem_append.1 he with he | he
        · exact ho e he
        · exact h7 e he
      · simp at hcall
    · simp at hcall

theorem leave_sound {P : Program} {CD : FuncId → List AV → Option AV → Refs → Option (Out × Option AV × Refs)} (hCD : CallDSound P CD) (hCDW : CallDWF CD) {E : Env} {af : AFn} {fn : Func} (hk : af.keep = false) (hres : chkRes P af.res fn.results.toList = true) {a : Act}
    {out : Out} {rf' : Refs} {R : Ending → World → Prop} :
    ∀ (df : List (AV × List AV)) (ds : List Deferred) (m : Option AV) (u : FrameMode) (s : St) (w : World) (K : Ctx), leave CD af E.rf0.length df m s = some (out, rf') → Sim E K s a.tmps w → WF E.rf0 s →
      PutR K df ds → (∀ p, p ∈ df → p.1.refB ≤ s.rf.length ∧ AV.refBs p.2 ≤ s.rf.length) → ModeR K s.rf.length m u →
      (∀ e w' K' s'', Sim E K' s'' a.tmps w' → WF E.rf0 s'' → rf' = s''.rf.take E.rf0.length → CallRes K' out e → R e w') → Leaves P fn a.tmps R ds u w
  | [], ds, none, u, s, w, K, h, hs, hw, hd, _, hm, hR => by
    cases hd
    cases hm
    simp only [leave] at h
    split at h
    · rename_i v hv
      split at h
      · simp only [Option.some.injEq, Prod.mk.injEq] at h
        obtain ⟨rfl, rfl⟩ := h
        rw [hk] at hv
        obtain ⟨pv, h1, h2, h3⟩ := run_results (P := P) hs hres hv
        exact ⟨pv, h1, hR (.returned pv) w K s hs hw rfl ⟨v, rfl, h2, h3⟩⟩
      · simp at h
    · simp at h
  | [], ds, some v, u, s, w, K, h, hs, hw, hd, _, hm, hR => by
    cases hd
    obtain ⟨ch, pv, rfl, h1, h2, h3⟩ := hm
    simp only [leave] at h
    split at h
    · simp only [Option.some.injEq, Prod.mk.injEq] at h
      obtain ⟨rfl, rfl⟩ := h
      exact hR (.panicked ch) w K s hs hw rfl ⟨_, pv, rfl, Rep.bare _ _ h1, h3⟩
    · simp at h
  | (f, vs) :: r, ds, m, u, s, w, K, h, hs, hw, hd, hb, hm, hR => by
    obtain ⟨d, rest, rfl, ⟨id, first, cap, vs', cv, av, e1, rfl, h1, h2⟩, hrest⟩ := hd
    simp only [Prod.mk.injEq] at e1
    obtain ⟨rfl, rfl⟩ := e1
    have hf := hb _ (List.mem_cons_self)
    simp only [AV.refB] at hf
    have hargs : AV.refBs (AV.bares (first ++ vs ++ cap)) ≤ s.rf.length := by
      rw [refBs_bares]; exact refBs_append_le (refBs_append_le (by omega) hf.2) (by omega)
    have hrun : u ≠ .run := by
      cases m with
      | none => cases hm; simp
      | some v => obtain ⟨ch, pv, rfl, _⟩ := hm; simp
    have hrep : RepL K (AV.bares (first ++ vs ++ cap)) (av ++ cv).toList := by
      apply RepL.bares
      rw [Array.toList_append]
      exact RepL.append h2 h1
    simp only [leave] at h
    have key : ∀ (o : Out) (m' : Option AV) (rf1 : Refs) (m2 : Option AV), CD id (AV.bares (first ++ vs ++ cap)) m s.rf = some (o, m', rf1) → leave CD af E.rf0.length r m2 { s with rf := rf1 } = some (out, rf') →
        (match o with | .ret _ => m2 = m' | .pan v => m2 = some v) → Leaves P fn a.tmps R ({ target := .fn (.func id) cv, args := av } :: rest) u w := by
      intro o m' rf1 m2 hcall hl hm2
      obtain ⟨a1, b1, c1, d1, e1⟩ := hCDW _ _ _ _ _ _ _ hcall hw.rb hargs (fun v e => by
        subst e
        obtain ⟨_, _, _, _, h3, _⟩ := hm
        exact h3)
      obtain ⟨hi, hcd⟩ := hCD _ _ _ _ _ _ _ hcall E K s a.tmps w (av ++ cv) u rfl hs hw hargs (bares_not_own _) hrep hm
      refine leaves_cons hrun (by simpa [invoke] using hi) (CallsD.mono hcd fun e u' w' hR' => ?_)
      obtain ⟨K', h5, h6, h7⟩ := hR'
      have hw1 := hw.withRf a1 b1 e1
      have hrest' : PutR K' r rest := hrest.mono h6 fun p hp => hb p (List.mem_cons_of_mem _ hp)
      have hb' : ∀ p, p ∈ r → p.1.refB ≤ ({ s with rf := rf1 } : St).rf.length ∧ AV.refBs p.2 ≤ ({ s with rf := rf1 } : St).rf.length := fun p hp => by simp only [a1]; exact hb p (List.mem_cons_of_mem _ hp)
      cases e with
      | returned v =>
        obtain ⟨⟨v', rfl⟩, h8⟩ := h7
        simp only at hm2
        subst hm2
        exact leave_sound hCD hCDW hk hres r rest _ _ _ w' K' hl h5 hw1 hrest' hb' (by simpa only [a1] using h8) hR
      | panicked ch =>
        obtain ⟨av', rfl, h8⟩ := h7
        simp only at hm2
        subst hm2
        exact leave_sound hCD hCDW hk hres r rest _ _ _ w' K' hl h5 hw1 hrest' hb' (by simpa only [a1] using h8) hR
      | outgrown => exact h7.elim
    split at h
    · rename_i v m' rf1 hcall
      exact key _ _ _ _ hcall h rfl
    · rename_i v m' rf1 hcall
      exact key _ _ _ _ hcall h rfl
    · simp at h

/-- what the oracle says, the machine does, and nothing that was there is touched -/
def OrcOK (P : Program) (orc : FuncId → List AV → Option AV) : Prop := ∀ f args v, orc f args = some v → v.refB = 0 ∧ (∀ es, v ≠ .own es) ∧
  ∀ (E : Env) (K : Ctx) (s : St) (tm : Array Value) (w : World) (vs : Array Value), Sim E K s tm w → WF E.rf0 s → RepL K args vs.toList →
    Does P f vs w fun e w' => ∃ K' pv, Sim E K' s tm w' ∧ Up s.rf.length K K' ∧ e = .returned pv ∧ Rep K' v pv

theorem Does.mono {P : Program} {f : FuncId} {args : Array Value} {w : World} {R R' : Ending → World → Prop} (h : Does P f args w R) (hr : ∀ e w', R e w' → R' e w') : Does P f args w R' := by
  unfold Does at h ⊢
  split at h
  · exact Calls.mono h hr
  · exact hr _ _ h
  · exact Rows.mono h fun v w' => hr _ _
  · exact h.elim

theorem call_sound {P : Program} {tab tabD : FuncId → Option AFn} {orc : FuncId → List AV → Option AV} (hN : FitN P tab) (hD : FitD P tabD) (hO : OrcOK P orc) : ∀ k, CallSound P (call tab tabD orc k)
  | 0 => fun f args rf out rf' h => by simp [call] at h
  | k + 1 => fun f args rf out rf' hcall E K s tm w vs hrf hsim hwf ha hno hr => by
    have hC := call_sound hN hD hO k
    have hTN : TabOK tab := fun f af h => let ⟨_, _, hf, _⟩ := hN f af h; hf.cok
    have hTD : TabOK tabD := fun f af h => let ⟨_, _, hf, _⟩ := hD f af h; hf.cok
    have hCW : CallWF (call tab tabD orc k) := call_wf hTN hTD (fun f args v h => (hO f args v h).1) k
    subst hrf
    simp only [call] at hcall
    split at hcall
    · rename_i v hv
      simp only [Option.some.injEq, Prod.mk.injEq] at hcall
      obtain ⟨rfl, rfl⟩ := hcall
      obtain ⟨_, h2, h3⟩ := hO _ _ _ hv
      refine (h3 E K s tm w vs hsim hwf hr).mono fun e w' hR => ?_
      obtain ⟨K', pv, h4, h5, rfl, h6⟩ := hR
      exact ⟨K', h4, h5, v, rfl, h6, h2⟩
    · split at hcall
      · simp at hcall
      · rename_i af haf
        obtain ⟨fn, code, hfit, hchk, hres, hkeep⟩ := hN f af haf
        unfold Does
        rw [hfit.call vs w]
        simp only
        have hI := enter_inv hsim hwf ha hno hr none (fun v e => by simp at e) fn.ntmps
        have hl : ∀ {m : Option AV} {s1 : St} {K1 : Ctx} {a1 : Act} {w1 : World} {u : FrameMode}, leave (callD tabD (call tab tabD orc k) k) af s.rf.length s1.df m s1 = some (out, rf') → Inv (callEnv K s tm w) K1 s1 a1 w1 fn.ntmps → ModeR K1 s1.rf.length m u →
            Leaves P fn a1.tmps (fun e w' => ∃ K', Sim E K' { s with rf := rf' } tm w' ∧ Up s.rf.length K K' ∧ CallRes K' out e) a1.defers u w1 := fun {m s1 K1 a1 w1 u} hl hI1 hm =>
          leave_sound (callD_sound hD hC hCW k) (callD_wf hTD hCW k) hkeep hres s1.df a1.defers m u s1 w1 K1 hl hI1.sim hI1.wf hI1.df hI1.wf.db hm fun e w' K' s'' h1 h2 h3 h4 => by
            have h5 : s.rf.length ≤ s''.rf.length := h2.le
            have := hsim.back hwf h1 h3 (by rw [h3]; simp only [List.length_take]; show min s.rf.length _ = _; omega)
            exact ⟨K', this.1, this.2, h4⟩
        refine calls_of_wp_defers hfit.get hfit.body ?_
        split at hcall
        · rename_i s1 hrun
          refine run_wp hC hCW hwf.rb k af.body code _ _ w K _ _ s1 hchk hfit.cok hI hrun fun ex a' w' K' h1 h2 => ?_
          cases ex <;> simp only [ExR] at h1
          exact hl hcall h2 rfl
        · rename_i s1 hrun
          refine run_wp hC hCW hwf.rb k af.body code _ _ w K _ _ s1 hchk hfit.cok hI hrun fun ex a' w' K' h1 h2 => ?_
          cases ex <;> simp only [ExR] at h1
          exact hl hcall h2 rfl
        · rename_i v s1 hrun
          have hvb := (run_wf hCW k hwf.rb hrun hfit.cok hI.wf).2.1
          refine run_wp hC hCW hwf.rb k af.body code _ _ w K _ _ s1 hchk hfit.cok hI hrun fun ex a' w' K' h1 h2 => ?_
          cases ex <;> simp only [ExR] at h1
          obtain ⟨pv, h4, h5⟩ := h1
          exact hl hcall h2 ⟨_, pv, rfl, h4, hvb, h5⟩
        · simp at hcall

end Go.Ab
