/- A part of the proof: tools. No condition. -/
import Derived.Test.YtghchmemjjpcbaaL1
import Derived.Lib.Bytealg
import Derived.ProofKit
import Derived.Below
set_option linter.all false
namespace Go.Ab
variable [Glb]
theorem chkLR_of {P : Program} {N : Nat} {ops : Array Oper} : ∀ {l : List AOp} {m : List Oper}, chkL P N ops l m = true → chkLR P N ops l m = true
 | [], [], _ => rfl
 | [], _ :: _, h => by simp [chkL] at h
 | _ :: _, [], h => by simp [chkL] at h
 | x :: l, o :: m, h => by
   simp only [chkL, Bool.and_eq_true] at h
   simp only [chkLR, chk1R, Bool.and_eq_true, Bool.or_eq_true]
   exact ⟨.inl h.1, chkLR_of h.2⟩
section
variable {P : Program} {E : Env} {C : CallFn} {N : Nat} {c₀ : Frame} {cs : List Frame}
theorem runS_wp (hC : CallSound P C) (hCW : CallWF C) (h0 : RB E.rf0.length E.rf0) (kk : Nat) : ∀ (c : AC) (code : Code) (s : St) (a : Act) (u : FrameMode) (w : World) (K : Ctx) (Q : Exit → Act → List Frame → World → Prop) (e : Ex) (s' : St),
  chkS P N c code = true → c.cok = true → Inv E K s a w N → PnR E s.pn u → run C kk c s = some (e, s') →
  (∀ ex a' u' w' K', ExR K' e ex → Inv E K' s' a' w' N → PnR E s'.pn u' → Q ex a' ({ c₀ with mode := u' } :: cs) w') → code.wpS P Q a ({ c₀ with mode := u } :: cs) w := by
 have plain : ∀ (c : AC) (code : Code) (s : St) (a : Act) (u : FrameMode) (w : World) (K : Ctx) (Q : Exit → Act → List Frame → World → Prop) (e : Ex) (s' : St),
  chkC P N c code = true → c.cok = true → Inv E K s a w N → PnR E s.pn u → run C kk c s = some (e, s') →
  (∀ ex a' u' w' K', ExR K' e ex → Inv E K' s' a' w' N → PnR E s'.pn u' → Q ex a' ({ c₀ with mode := u' } :: cs) w') → code.wpS P Q a ({ c₀ with mode := u } :: cs) w :=
  fun c code s a u w K Q e s' hc hk h hu hr hQ =>
   wpS_of_wp (run_wp hC hCW h0 kk c code s a w K _ e s' hc hk h hr fun ex a' w' K' h1 h2 => hQ ex a' u w' K' h1 h2 (by rw [run_pn kk c code s e s' hc hr]; exact hu))
 intro c
 induction c with
 | trim keep b ih =>
   intro code s a u w K Q e s' hc hk h hu hr hQ
   simp only [chkS] at hc
   simp only [AC.cok] at hk
   simp only [run] at hr
   split at hr
   ·rename_i s1 hr1
    simp only [Option.some.injEq, Prod.mk.injEq] at hr
    obtain ⟨rfl, rfl⟩ := hr
    exact ih code s a u w K Q _ s1 hc hk h hu hr1 fun ex a' u' w' K' h1 h2 h3 => hQ ex a' u' w' K' h1 (h2.keep keep) h3
   ·exact ih code s a u w K Q e s' hc hk h hu hr hQ
 | seq x y ihx ihy =>
   intro code s a u w K Q e s' hc hk h hu hr hQ
   cases code <;> simp only [chkS, chkC, Bool.false_eq_true, Bool.and_eq_true] at hc
   rename_i cx cy
   simp only [AC.cok, Bool.and_eq_true] at hk
   simp only [run] at hr
   refine wpS_seq ?_
   split at hr
   ·rename_i s1 hr1
    refine ihx cx s a u w K _ _ s1 hc.1 hk.1 h hu hr1 fun ex a' u' w' K' h1 h2 h3 => ?_
    cases ex <;> simp only [ExR] at h1
    exact ihy cy s1 a' u' w' K' Q e s' hc.2 hk.2 h2 h3 hr hQ
   ·rename_i hne
    refine ihx cx s a u w K _ e s' hc.1 hk.1 h hu hr fun ex a' u' w' K' h1 h2 h3 => ?_
    have hq := hQ ex a' u' w' K' h1 h2 h3
    cases ex with
    | normal =>
      cases e <;> simp only [ExR] at h1
      exact absurd hr (hne s')
    | _ => exact hq
 | cond c t f iht ihf =>
   intro code s a u w K Q e s' hc hk h hu hr hQ
   cases code <;> simp only [chkS, chkC, Bool.false_eq_true, Bool.and_eq_true] at hc
   rename_i c' ct cf
   simp only [AC.cok, Bool.and_eq_true] at hk
   simp only [run] at hr
   split at hr
   ·rename_i hg
    have := getO_rep h.sim hc.1.1 hg
    simp only [Rep, RepD] at this
    refine wpS_cond (t := true) this ?_
    exact iht ct s a u w K Q e s' hc.1.2 hk.1.2 h hu hr hQ
   ·rename_i hg
    have := getO_rep h.sim hc.1.1 hg
    simp only [Rep, RepD] at this
    refine wpS_cond (t := false) this ?_
    exact ihf cf s a u w K Q e s' hc.2 hk.2 h hu hr hQ
   ·simp at hr
 | hole =>
   intro code s a u w K Q e s' hc hk h hu hr hQ
   simp [run] at hr
 | label =>
   intro code s a u w K Q e s' hc hk h hu hr hQ
   exact plain _ _ s a u w K Q e s' (by simpa only [chkS] using hc) hk h hu hr hQ
 | goto l =>
   intro code s a u w K Q e s' hc hk h hu hr hQ
   exact plain _ _ s a u w K Q e s' (by simpa only [chkS] using hc) hk h hu hr hQ
 | scope l b r =>
   intro code s a u w K Q e s' hc hk h hu hr hQ
   exact plain _ _ s a u w K Q e s' (by simpa only [chkS] using hc) hk h hu hr hQ
 | ops l =>
   intro code s a u w K Q e s' hc hk h hu hr hQ
   cases code
   case region id ops draw =>
    cases draw with
    | false =>
      simp only [chkS] at hc
      simp only [run] at hr
      refine wpS_region ?_
      have hlen : l.length = ops.size := by simpa using chkLR_length hc
      have hp := pickL_range l ops.size 0 (by omega)
      rw [List.drop_zero, ← List.range_eq_range'] at hp
      exact opsS_wp hC hCW hc _ s a u w K e s' h hu (by rw [hp]; exact hr) hQ
    | true =>
      simp only [chkS] at hc
      exact plain _ _ s a u w K Q e s' hc hk h hu hr hQ
   all_goals simp [chkS, chkC] at hc
 | skip =>
   intro code s a u w K Q e s' hc hk h hu hr hQ
   exact plain _ _ s a u w K Q e s' (by simpa only [chkS] using hc) hk h hu hr hQ
 | block i b _ =>
   intro code s a u w K Q e s' hc hk h hu hr hQ
   exact plain _ _ s a u w K Q e s' (by simpa only [chkS] using hc) hk h hu hr hQ
 | loop keep b _ =>
   intro code s a u w K Q e s' hc hk h hu hr hQ
   exact plain _ _ s a u w K Q e s' (by simpa only [chkS] using hc) hk h hu hr hQ
 | exit i =>
   intro code s a u w K Q e s' hc hk h hu hr hQ
   exact plain _ _ s a u w K Q e s' (by simpa only [chkS] using hc) hk h hu hr hQ
 | ret =>
   intro code s a u w K Q e s' hc hk h hu hr hQ
   exact plain _ _ s a u w K Q e s' (by simpa only [chkS] using hc) hk h hu hr hQ
end
structure Fits (P : Program) (f : FuncId) (af : AFn) (fn : Func) (code : Code) : Prop where
 get : P.funcs[f]? = some fn
 body : fn.body = some code
 cok : af.body.cok = true
 name : fn.name ≠ "runtime.NumGoroutine"
def FitN (P : Program) (tab : FuncId → Option AFn) : Prop := ∀ f af, tab f = some af → ∃ fn code, Fits P f af fn code ∧ chkC P fn.ntmps af.body code = true ∧ chkRes P af.res fn.results.toList = true ∧ af.keep = false
def FitD (P : Program) (tab : FuncId → Option AFn) : Prop := ∀ f af, tab f = some af → ∃ fn code, Fits P f af fn code ∧ chkS P fn.ntmps af.body code = true ∧ fn.results = #[]
theorem Fits.call {P : Program} {f : FuncId} {af : AFn} {fn : Func} {code : Code} (h : Fits P f af fn code) (args : Array Value) (w : World) : (callFunc f args).run P w = .ok (.enter f args) w := by
 simp [callFunc, h.get, h.body, h.name]
def ModeR (K : Ctx) (n : Nat) : Option AV → FrameMode → Prop
 | none, u => u = .returning
 | some v, u => ∃ ch pv, u = .panicking ch ∧ Rep K v pv ∧ v.refB ≤ n ∧ Chain pv ch
def DRes (K : Ctx) (n : Nat) (out : Out) (m' : Option AV) (u' : FrameMode) : Ending → Prop
 | .returned _ => (∃ v, out = .ret v) ∧ ModeR K n m' (settle u')
 | .panicked ch => ∃ av, out = .pan av ∧ ModeR K n (some av) (raised u' ch)
 | .outgrown => False
def CallDSound (P : Program) (CD : FuncId → List AV → Option AV → Refs → Option (Out × Option AV × Refs)) : Prop := ∀ f args m rf out m' rf', CD f args m rf = some (out, m', rf') →
 ∀ (E : Env) (K : Ctx) (s : St) (tm : Array Value) (w : World) (vs : Array Value) (u : FrameMode), s.rf = rf → Sim E K s tm w → WF E.rf0 s → AV.refBs args ≤ rf.length → (∀ x ∈ args, ∀ es, x ≠ .own es) → RepL K args vs.toList →
 ModeR K rf.length m u → (callFunc f vs).run P w = .ok (.enter f vs) w ∧ CallsD P f vs u w fun e u' w' => ∃ K', Sim E K' { s with rf := rf' } tm w' ∧ Up rf.length K K' ∧ DRes K' rf.length out m' u' e
theorem settle_chain {pv : Value} {ch : List PanicEntry} (h : Chain pv ch) : settle (.panicking ch) = .panicking ch := by
 obtain ⟨older, rfl, _⟩ := h
 rfl
theorem dropWhile_all {l : List PanicEntry} (h : ∀ e ∈ l, e.goexit = false) : l.dropWhile (!·.goexit) = [] := by
 induction l with
 | nil => rfl
 | cons x l ih =>
   rw [List.dropWhile_cons]
   simp only [h x (by simp), Bool.not_false, if_true]
   exact ih fun e he => h e (by simp [he])
theorem enter_inv {E : Env} {K : Ctx} {s : St} {tm : Array Value} {w : World} (h : Sim E K s tm w) (hw : WF E.rf0 s) {args : List AV} {vs : Array Value} (ha : AV.refBs args ≤ s.rf.length) (hno : ∀ x ∈ args, ∀ es, x ≠ .own es) (hr : RepL K args vs.toList)
  (pn : Option (Option AV)) (hpn : ∀ v, pn = some (some v) → v.refB ≤ s.rf.length) (N : Nat) :
  Inv (callEnv K s tm w) K { sl := enterS args 0, rf := s.rf, pn := pn, nb := s.rf.length } { tmps := vs ++ Array.replicate (N - vs.size) undef, defers := [] } w N :=
 ⟨h.enter hno hr _ [] pn, enter_wf hw.rb ha pn hpn, rfl, by simp; omega⟩
theorem callD_sound {P : Program} {tab : FuncId → Option AFn} (hf : FitD P tab) {C : CallFn} (hC : CallSound P C) (hCW : CallWF C) (k : Nat) : CallDSound P (callD tab C k) := by
 intro f args m rf out m' rf' hcall E K s tm w vs u hrf hsim hwf ha hno hr hm
 subst hrf
 unfold callD at hcall
 split at hcall
 ·simp at hcall
 ·rename_i af haf
  obtain ⟨fn, code, hfit, hchk, hres⟩ := hf f af haf
  refine ⟨hfit.call vs w, ?_⟩
  refine callsD_of_wpS hfit.get hfit.body fun c₀ cs hu => ?_
  have hc0 : ({ c₀ with mode := u } : Frame) = c₀ := by subst hu; rfl
  have hI := enter_inv hsim hwf ha hno hr (some m) (fun v e => by
   simp only [Option.some.injEq] at e
   subst e
   obtain ⟨ch, pv, _, _, h3, _⟩ := hm
   exact h3) fn.ntmps
  have hP : PnR (callEnv K s tm w) (some m) u := by
   cases m with
   | none => exact .inl hm
   | some v => exact hm
  have hback : ∀ {K' : Ctx} {s' : St} {a' : Act} {w' : World}, Inv (callEnv K s tm w) K' s' a' w' fn.ntmps → Sim E K' { s with rf := s'.rf.take s.rf.length } tm w' ∧ Up s.rf.length K K' := fun {K' s' a' w'} hI' =>
   hsim.back hwf hI'.sim rfl (by
    have h1 : s.rf.length ≤ s'.rf.length := hI'.wf.le
    simp only [List.length_take]; omega)
  have hmode : ∀ {K' : Ctx} {s' : St} {a' : Act} {w' : World} {u' : FrameMode}, Inv (callEnv K s tm w) K' s' a' w' fn.ntmps → PnR (callEnv K s tm w) s'.pn u' → ModeR K' s.rf.length (s'.pn.getD none) (settle u') := fun {K' s' a' w' u'} hI' hu' => by
   cases hpn : s'.pn with
   | none => rw [hpn] at hu'; exact hu'.elim
   | some p =>
     rw [hpn] at hu'
     cases p with
     | none =>
       rcases hu' with rfl | ⟨pv, older, rfl, ho⟩
       ·rfl
       ·show settle _ = .returning
        simp only [settle, dropWhile_all ho]
     | some v =>
       obtain ⟨ch, pv, rfl, h1, h2, h3⟩ := hu'
       exact ⟨ch, pv, settle_chain h3, hI'.sim.ofK0 h2 h1, h2, h3⟩
  have hresult : ∀ (tmps : Array Value) (w' : World), ∃ v, (results fn tmps).run P w' = .ok v w' := fun tmps w' => ⟨.tuple #[], by simp [results, hres]⟩
  rw [← hc0]
  split at hcall
  ·rename_i s' hrun
   split at hcall
   ·rename_i hdf
    simp only [Option.some.injEq, Prod.mk.injEq] at hcall
    obtain ⟨rfl, rfl, rfl⟩ := hcall
    refine runS_wp hC hCW hwf.rb k af.body code _ _ u w K _ _ s' hchk hfit.cok hI hP hrun fun ex a' u' w' K' h1 h2 h3 => ?_
    cases ex <;> simp only [ExR] at h1
    have hd : a'.defers = [] := by
     have := h2.df
     rw [List.isEmpty_iff.1 hdf] at this
     exact this
    obtain ⟨v, hv⟩ := hresult a'.tmps w'
    exact ⟨hd, u', rfl, v, hv, K', (hback h2).1, (hback h2).2, ⟨_, rfl⟩, hmode h2 h3⟩
   ·simp at hcall
  ·rename_i s' hrun
   split at hcall
   ·rename_i hdf
    simp only [Option.some.injEq, Prod.mk.injEq] at hcall
    obtain ⟨rfl, rfl, rfl⟩ := hcall
    refine runS_wp hC hCW hwf.rb k af.body code _ _ u w K _ _ s' hchk hfit.cok hI hP hrun fun ex a' u' w' K' h1 h2 h3 => ?_
    cases ex <;> simp only [ExR] at h1
    have hd : a'.defers = [] := by
     have := h2.df
     rw [List.isEmpty_iff.1 hdf] at this
     exact this
    obtain ⟨v, hv⟩ := hresult a'.tmps w'
    exact ⟨hd, u', rfl, v, hv, K', (hback h2).1, (hback h2).2, ⟨_, rfl⟩, hmode h2 h3⟩
   ·simp at hcall
  ·rename_i v s' hrun
   split at hcall
   ·rename_i hdf
    simp only [Option.some.injEq, Prod.mk.injEq] at hcall
    obtain ⟨rfl, rfl, rfl⟩ := hcall
    refine runS_wp hC hCW hwf.rb k af.body code _ _ u w K _ _ s' hchk hfit.cok hI hP hrun fun ex a' u' w' K' h1 h2 h3 => ?_
    cases ex <;> simp only [ExR] at h1
    obtain ⟨pv, h4, h5⟩ := h1
    have hd : a'.defers = [] := by
     have := h2.df
     rw [List.isEmpty_iff.1 hdf.1] at this
     exact this
    refine ⟨hd, u', rfl, K', (hback h2).1, (hback h2).2, _, rfl, ?_⟩
    rename_i ch
    obtain ⟨older, rfl, ho⟩ := h5
    have hold : ∃ more, raised u' ({ v := pv, recovered := false, goexit := false } :: older) = .panicking ({ v := pv, recovered := false, goexit := false } :: (older ++ more)) ∧ ∀ e ∈ more, e.goexit = false := by
     cases hpn : s'.pn with
     | none => rw [hpn] at h3; exact h3.elim
     | some p =>
       rw [hpn] at h3
       cases p with
       | none =>
         rcases h3 with rfl | ⟨pv', older', rfl, ho'⟩
         ·exact ⟨[], by simp [raised], by simp⟩
         ·exact ⟨_, rfl, by
           intro e he
           rcases List.mem_cons.1 he with rfl | he
           ·rfl
           ·exact ho' e he⟩
       | some v' =>
         obtain ⟨ch', pv', rfl, _, _, older', rfl, ho'⟩ := h3
         exact ⟨_, rfl, by
          intro e he
          rcases List.mem_cons.1 he with rfl | he
          ·rfl
          ·exact ho' e he⟩
    obtain ⟨more, h6, h7⟩ := hold
    refine ⟨_, pv, h6, Rep.bare _ _ h4, by rw [refB_bare]; exact hdf.2, older ++ more, rfl, fun e he => ?_⟩
    rcases List.mem_append.1 he with he | he
    ·exact ho e he
    ·exact h7 e he
   ·simp at hcall
  ·simp at hcall
theorem leave_sound {P : Program} {CD : FuncId → List AV → Option AV → Refs → Option (Out × Option AV × Refs)} (hCD : CallDSound P CD) (hCDW : CallDWF CD) {E : Env} {af : AFn} {fn : Func} (hk : af.keep = false) (hres : chkRes P af.res fn.results.toList = true) {a : Act}
  {out : Out} {rf' : Refs} {R : Ending → World → Prop} :
  ∀ (df : List (AV × List AV)) (ds : List Deferred) (m : Option AV) (u : FrameMode) (s : St) (w : World) (K : Ctx), leave CD af E.rf0.length df m s = some (out, rf') → Sim E K s a.tmps w → WF E.rf0 s →
   PutR K df ds → (∀ p, p ∈ df → p.1.refB ≤ s.rf.length ∧ AV.refBs p.2 ≤ s.rf.length) → ModeR K s.rf.length m u →
   (∀ e w' K' s'', Sim E K' s'' a.tmps w' → WF E.rf0 s'' → rf' = s''.rf.take E.rf0.length → CallRes K' out e → R e w') → Leaves P fn a.tmps R ds u w
 | [], ds, none, u, s, w, K, h, hs, hw, hd, _, hm, hR => by
   cases hd
   cases hm
   simp only [leave] at h
   split at h
   ·rename_i v hv
    split at h
    ·simp only [Option.some.injEq, Prod.mk.injEq] at h
     obtain ⟨rfl, rfl⟩ := h
     rw [hk] at hv
     obtain ⟨pv, h1, h2, h3⟩ := run_results (P := P) hs hres hv
     exact ⟨pv, h1, hR (.returned pv) w K s hs hw rfl ⟨v, rfl, h2, h3⟩⟩
    ·simp at h
   ·simp at h
 | [], ds, some v, u, s, w, K, h, hs, hw, hd, _, hm, hR => by
   cases hd
   obtain ⟨ch, pv, rfl, h1, h2, h3⟩ := hm
   simp only [leave] at h
   split at h
   ·simp only [Option.some.injEq, Prod.mk.injEq] at h
    obtain ⟨rfl, rfl⟩ := h
    exact hR (.panicked ch) w K s hs hw rfl ⟨_, pv, rfl, Rep.bare _ _ h1, h3⟩
   ·simp at h
 | (f, vs) :: r, ds, m, u, s, w, K, h, hs, hw, hd, hb, hm, hR => by
   obtain ⟨d, rest, rfl, ⟨id, first, cap, vs', cv, av, e1, rfl, h1, h2⟩, hrest⟩ := hd
   simp only [Prod.mk.injEq] at e1
   obtain ⟨rfl, rfl⟩ := e1
   have hf := hb _ (List.mem_cons_self)
   simp only [AV.refB] at hf
   have hargs : AV.refBs (AV.bargs (first ++ vs ++ cap)) ≤ s.rf.length := by
    rw [refBs_bargs]; exact refBs_append_le (refBs_append_le (by omega) hf.2) (by omega)
   have hrun : u ≠ .run := by
    cases m with
    | none => cases hm; simp
    | some v => obtain ⟨ch, pv, rfl, _⟩ := hm; simp
   have hrep : RepL K (AV.bargs (first ++ vs ++ cap)) (av ++ cv).toList := by
    apply RepL.bargs
    rw [Array.toList_append]
    exact RepL.append h2 h1
   simp only [leave] at h
   have key : ∀ (o : Out) (m' : Option AV) (rf1 : Refs) (m2 : Option AV), CD id (AV.bargs (first ++ vs ++ cap)) m s.rf = some (o, m', rf1) → leave CD af E.rf0.length r m2 { s with rf := rf1 } = some (out, rf') →
     (match o with | .ret _ => m2 = m' | .pan v => m2 = some v) → Leaves P fn a.tmps R ({ target := .fn (.func id) cv, args := av } :: rest) u w := by
    intro o m' rf1 m2 hcall hl hm2
    obtain ⟨a1, b1, c1, d1, e1⟩ := hCDW _ _ _ _ _ _ _ hcall hw.rb hargs (fun v e => by
     subst e
     obtain ⟨_, _, _, _, h3, _⟩ := hm
     exact h3)
    obtain ⟨hi, hcd⟩ := hCD _ _ _ _ _ _ _ hcall E K s a.tmps w (av ++ cv) u rfl hs hw hargs (bargs_not_own _) hrep hm
    refine leaves_cons hrun (by simpa [invoke] using hi) (CallsD.mono hcd fun e u' w' hR' => ?_)
    obtain ⟨K', h5, h6, h7⟩ := hR'
    have hw1 := hw.withRf a1 b1 e1
    have hrest' : PutR K' r rest := hrest.mono h6 fun p hp => hb p (List.mem_cons_of_mem _ hp)
    have hb' : ∀ p, p ∈ r → p.1.refB ≤ ({ s with rf := rf1 } : St).rf.length ∧ AV.refBs p.2 ≤ ({ s with rf := rf1 } : St).rf.length := fun p hp => by simp only [a1]; exact hb p (List.mem_cons_of_mem _ hp)
    cases e with
    | returned v =>
      obtain ⟨⟨v', rfl⟩, h8⟩ := h7
      simp only at hm2
      subst hm2
      exact leave_sound hCD hCDW hk hres r rest _ _ _ w' K' hl h5 hw1 hrest' hb' (by simpa only [a1] using h8) hR
    | panicked ch =>
      obtain ⟨av', rfl, h8⟩ := h7
      simp only at hm2
      subst hm2
      exact leave_sound hCD hCDW hk hres r rest _ _ _ w' K' hl h5 hw1 hrest' hb' (by simpa only [a1] using h8) hR
    | outgrown => exact h7.elim
   split at h
   ·rename_i v m' rf1 hcall
    exact key _ _ _ _ hcall h rfl
   ·rename_i v m' rf1 hcall
    exact key _ _ _ _ hcall h rfl
   ·simp at h
def OrcOK (P : Program) (orc : FuncId → List AV → Option AV) : Prop := ∀ f args v, orc f args = some v → v.refB = 0 ∧ (∀ es, v ≠ .own es) ∧
 ∀ (E : Env) (K : Ctx) (s : St) (tm : Array Value) (w : World) (vs : Array Value), Sim E K s tm w → WF E.rf0 s → RepL K args vs.toList →
  Does P f vs w fun e w' => ∃ K' pv, Sim E K' s tm w' ∧ Up s.rf.length K K' ∧ e = .returned pv ∧ Rep K' v pv
theorem Does.mono {P : Program} {f : FuncId} {args : Array Value} {w : World} {R R' : Ending → World → Prop} (h : Does P f args w R) (hr : ∀ e w', R e w' → R' e w') : Does P f args w R' := by
 unfold Does at h ⊢
 split at h
 ·exact Calls.mono h hr
 ·exact hr _ _ h
 ·exact Rows.mono h fun v w' => hr _ _
 ·exact h.elim
theorem call_sound {P : Program} {tab tabD : FuncId → Option AFn} {orc : FuncId → List AV → Option AV} (hN : FitN P tab) (hD : FitD P tabD) (hO : OrcOK P orc) : ∀ k, CallSound P (call tab tabD orc k)
 | 0 => fun f args rf out rf' h => by simp [call] at h
 | k + 1 => fun f args rf out rf' hcall E K s tm w vs hrf hsim hwf ha hno hr => by
   have hC := call_sound hN hD hO k
   have hTN : TabOK tab := fun f af h => let ⟨_, _, hf, _⟩ := hN f af h; hf.cok
   have hTD : TabOK tabD := fun f af h => let ⟨_, _, hf, _⟩ := hD f af h; hf.cok
   have hCW : CallWF (call tab tabD orc k) := call_wf hTN hTD (fun f args v h => (hO f args v h).1) k
   subst hrf
   simp only [call] at hcall
   split at hcall
   ·rename_i v hv
    simp only [Option.some.injEq, Prod.mk.injEq] at hcall
    obtain ⟨rfl, rfl⟩ := hcall
    obtain ⟨_, h2, h3⟩ := hO _ _ _ hv
    refine (h3 E K s tm w vs hsim hwf hr).mono fun e w' hR => ?_
    obtain ⟨K', pv, h4, h5, rfl, h6⟩ := hR
    exact ⟨K', h4, h5, v, rfl, h6, h2⟩
   ·split at hcall
    ·simp at hcall
    ·rename_i af haf
     obtain ⟨fn, code, hfit, hchk, hres, hkeep⟩ := hN f af haf
     unfold Does
     rw [hfit.call vs w]
     simp only
     have hI := enter_inv hsim hwf ha hno hr none (fun v e => by simp at e) fn.ntmps
     have hl : ∀ {m : Option AV} {s1 : St} {K1 : Ctx} {a1 : Act} {w1 : World} {u : FrameMode}, leave (callD tabD (call tab tabD orc k) k) af s.rf.length s1.df m s1 = some (out, rf') → Inv (callEnv K s tm w) K1 s1 a1 w1 fn.ntmps → ModeR K1 s1.rf.length m u →
       Leaves P fn a1.tmps (fun e w' => ∃ K', Sim E K' { s with rf := rf' } tm w' ∧ Up s.rf.length K K' ∧ CallRes K' out e) a1.defers u w1 := fun {m s1 K1 a1 w1 u} hl hI1 hm =>
      leave_sound (callD_sound hD hC hCW k) (callD_wf hTD hCW k) hkeep hres s1.df a1.defers m u s1 w1 K1 hl hI1.sim hI1.wf hI1.df hI1.wf.db hm fun e w' K' s'' h1 h2 h3 h4 => by
       have h5 : s.rf.length ≤ s''.rf.length := h2.le
       have := hsim.back hwf h1 h3 (by rw [h3]; simp only [List.length_take]; show min s.rf.length _ = _; omega)
       exact ⟨K', this.1, this.2, h4⟩
     refine calls_of_wp_defers hfit.get hfit.body ?_
     split at hcall
     ·rename_i s1 hrun
      refine run_wp hC hCW hwf.rb k af.body code _ _ w K _ _ s1 hchk hfit.cok hI hrun fun ex a' w' K' h1 h2 => ?_
      cases ex <;> simp only [ExR] at h1
      exact hl hcall h2 rfl
     ·rename_i s1 hrun
      refine run_wp hC hCW hwf.rb k af.body code _ _ w K _ _ s1 hchk hfit.cok hI hrun fun ex a' w' K' h1 h2 => ?_
      cases ex <;> simp only [ExR] at h1
      exact hl hcall h2 rfl
     ·rename_i v s1 hrun
      have hvb := (run_wf hCW k hwf.rb hrun hfit.cok hI.wf).2.1
      refine run_wp hC hCW hwf.rb k af.body code _ _ w K _ _ s1 hchk hfit.cok hI hrun fun ex a' w' K' h1 h2 => ?_
      cases ex <;> simp only [ExR] at h1
      obtain ⟨pv, h4, h5⟩ := h1
      exact hl hcall h2 ⟨_, pv, rfl, h4, hvb, h5⟩
     ·simp at hcall
end Go.Ab
namespace Go.Ab
def lookupF : List (Nat × AFn) → Nat → Option AFn
 | [], _ => none
 | (k, v) :: r, n => if k = n then some v else lookupF r n
def chkFn (P : Program) (dfr : Bool) (f : Nat) (af : AFn) : Bool :=
 match P.funcs[f]? with
 | none => false
 | some fn => match fn.body with
   | none => false
   | some code => af.body.cok && (fn.name != "runtime.NumGoroutine") &&
     (if dfr then chkS P fn.ntmps af.body code && fn.results.size == 0 else chkC P fn.ntmps af.body code && chkRes P af.res fn.results.toList && !af.keep)
def chkTab (P : Program) (dfr : Bool) : List (Nat × AFn) → Bool
 | [] => true
 | (f, af) :: r => chkFn P dfr f af && chkTab P dfr r
theorem chkTab_get {P : Program} {dfr : Bool} : ∀ {l : List (Nat × AFn)} {f : Nat} {af : AFn}, chkTab P dfr l = true → lookupF l f = some af → chkFn P dfr f af = true
 | [], f, af, _, h => by simp [lookupF] at h
 | (k, v) :: r, f, af, hc, h => by
   simp only [chkTab, Bool.and_eq_true] at hc
   simp only [lookupF] at h
   split at h
   ·rename_i hk
    subst hk
    simp only [Option.some.injEq] at h
    subst h
    exact hc.1
   ·exact chkTab_get hc.2 h
theorem fitN_of {P : Program} {l : List (Nat × AFn)} (h : chkTab P false l = true) : FitN P (lookupF l) := fun f af haf => by
 have := chkTab_get h haf
 unfold chkFn at this
 split at this
 ·cases this
 ·rename_i fn hfn
  split at this
  ·cases this
  ·rename_i code hcode
   simp only [Bool.and_eq_true, bne_iff_ne, ne_eq, Bool.not_eq_true', Bool.false_eq_true, if_false] at this
   exact ⟨fn, code, ⟨hfn, hcode, this.1.1, this.1.2⟩, this.2.1.1, this.2.1.2, this.2.2⟩
theorem fitD_of {P : Program} {l : List (Nat × AFn)} (h : chkTab P true l = true) : FitD P (lookupF l) := fun f af haf => by
 have := chkTab_get h haf
 unfold chkFn at this
 split at this
 ·cases this
 ·rename_i fn hfn
  split at this
  ·cases this
  ·rename_i code hcode
   simp only [Bool.and_eq_true, bne_iff_ne, ne_eq, if_true, beq_iff_eq] at this
   exact ⟨fn, code, ⟨hfn, hcode, this.1.1, this.1.2⟩, this.2.1, Array.eq_empty_of_size_eq_zero this.2.2⟩
end Go.Ab
namespace Go.Ab
variable [Glb]
def OrcAt (P : Program) (f : FuncId) (o : List AV → Option AV) : Prop := ∀ args v, o args = some v → v.refB = 0 ∧ (∀ es, v ≠ .own es) ∧
 ∀ (E : Env) (K : Ctx) (s : St) (tm : Array Value) (w : World) (vs : Array Value), Sim E K s tm w → WF E.rf0 s → RepL K args vs.toList →
  Does P f vs w fun e w' => ∃ K' pv, Sim E K' s tm w' ∧ Up s.rf.length K K' ∧ e = .returned pv ∧ Rep K' v pv
def orcOf : List (Nat × (List AV → Option AV)) → FuncId → List AV → Option AV
 | [], _, _ => none
 | (k, o) :: r, f, args => if k = f then o args else orcOf r f args
theorem orcOf_none {f : FuncId} {args : List AV} : ∀ {l : List (Nat × (List AV → Option AV))}, (∀ p, p ∈ l → p.1 ≠ f) → orcOf l f args = none
 | [], _ => rfl
 | (k, o) :: r, h => by
   simp only [orcOf]
   rw [if_neg (h (k, o) (by simp))]
   exact orcOf_none (fun p hp => h p (by simp [hp]))
theorem orcOK_of {P : Program} : ∀ {l : List (Nat × (List AV → Option AV))}, (∀ p, p ∈ l → OrcAt P p.1 p.2) → OrcOK P (orcOf l)
 | [], _ => fun f args v h => by simp [orcOf] at h
 | (k, o) :: r, hl => fun f args v h => by
   simp only [orcOf] at h
   split at h
   ·rename_i hk
    subst hk
    exact hl (k, o) (by simp) args v h
   ·exact orcOK_of (fun p hp => hl p (by simp [hp])) f args v h
theorem callFunc_extern {P : Program} {f : FuncId} {fn : Func} {e : Array Value → Sem Value} (hf : P.funcs[f]? = some fn) (hname : (fn.name == "runtime.NumGoroutine") = false) (hb : fn.body.isNone = true)
  (hn : Extern.findNext fn = none) (he : Extern.find fn = some e) {args : Array Value} {v : Value} {w : World} (hr : (e args).run P w = .ok v w) : (callFunc f args).run P w = .ok (.value v) w := by
 have hname' : fn.name ≠ "runtime.NumGoroutine" := by simpa using hname
 have hb' : fn.body = none := by simpa using hb
 simp [callFunc, hf, hname', hb', hn, he, hr]
def idxByte : List AV → Option AV
 | [.d (.str s), .d (.int .u8 c)] => some (.d (.int .i64 (Lib.indexByte s c.toNat.toUInt8)))
 | _ => none
theorem idxByte_ok {P : Program} {f : FuncId} {fn : Func} (hf : P.funcs[f]? = some fn) (hname : (fn.name == "runtime.NumGoroutine") = false) (hb : fn.body.isNone = true)
  (hn : Extern.findNext fn = none) (he : Extern.find fn = some Extern.BytealgIndexByte.indexByte) : OrcAt P f idxByte := by
 intro args v h
 unfold idxByte at h
 split at h
 ·rename_i s c
  simp only [Option.some.injEq] at h
  subst h
  refine ⟨rfl, fun es e => (by cases e), fun E K st tm w vs hs _ hr => ?_⟩
  simp only [RepL, Rep, RepD] at hr
  obtain ⟨v1, r1, e1, rfl, v2, r2, rfl, rfl, rfl⟩ := hr
  have hvs : vs = #[.string ⟨s.toArray⟩, .int .u8 c] := by
   apply Array.toList_inj.1
   rw [e1]
  subst hvs
  unfold Does
  rw [callFunc_extern hf hname hb hn he (Lib.run_indexByteString _ _ w)]
  simp only
  exact ⟨K, _, hs, Up.refl _ _, rfl, by simp [Rep, RepD]⟩
 ·cases h
end Go.Ab
namespace Go.Ab
variable [Glb]
open Go.RowKit
def K0 : Ctx := ⟨Glb.G0, fun _ => none, fun _ => none⟩
def GlbIn (w : World) : Prop := ∀ b o v, Glb.G0 b o = some v → w.cell? ⟨b, o, none⟩ = some v
theorem sim_start {w : World} (hg : GlbIn w) : Sim ⟨w, K0, [], fun _ => False⟩ K0 St.blank #[] w := by
 have hno : ∀ ℓ es v, ¬ holds K0 St.blank #[] w ℓ (.own es) v := fun ℓ es v hh => by
  cases ℓ with
  | sl t => simp [holds, St.blank, Slots.get] at hh
  | rf r i => simp [holds, St.blank] at hh
 exact ⟨Nat.le_refl _, rfl, rfl, rfl, fun b _ _ => ⟨rfl, rfl, fun _ => rfl⟩, ⟨Le.refl _, Le.refl _⟩, fun r hr => by simp at hr, hg, fun r cs hr => by simp [St.blank] at hr, fun r b hr => by simp [St.blank] at hr,
  fun r r' b hr => by simp [St.blank] at hr, fun b f h => by simp [K0] at h, fun t av ht => by simp [St.blank, Slots.get] at ht, fun ℓ es v hh => absurd hh (hno _ _ _), fun ℓ _ es _ v _ b hh => absurd hh (hno _ _ _),
  fun ℓ es v b hh => absurd hh (hno _ _ _), fun r b hr => by simp [St.blank] at hr⟩
theorem true_of_run {P : Program} {tab tabD : FuncId → Option AFn} {orc : FuncId → List AV → Option AV} (hN : FitN P tab) (hD : FitD P tabD) (hO : OrcOK P orc) {k : Nat} {f : FuncId} {args : List AV} {rf : Refs}
  (hrun : call tab tabD orc k f args [] = some (.ret (.d (.bool true)), rf)) (hf : ∃ af, tab f = some af) (ha : AV.refBs args = 0) (hno : ∀ x ∈ args, ∀ es, x ≠ .own es) {vs : Array Value} (hr : RepL K0 args vs.toList) (W : World) (hg : GlbIn W) :
  Calls P f vs W fun e W' => e = .returned (.bool true) ∧ Below W.heap.size W W' := by
 have hTN : TabOK tab := fun f af h => let ⟨_, _, hf, _⟩ := hN f af h; hf.cok
 have hTD : TabOK tabD := fun f af h => let ⟨_, _, hf, _⟩ := hD f af h; hf.cok
 have hCW : CallWF (call tab tabD orc k) := call_wf hTN hTD (fun f args v h => (hO f args v h).1) k
 have hd := call_sound hN hD hO k f args [] _ rf hrun ⟨W, K0, [], fun _ => False⟩ K0 St.blank #[] W vs rfl (sim_start hg) blank_wf (by rw [ha]; exact Nat.le_refl _) hno hr
 obtain ⟨af, haf⟩ := hf
 obtain ⟨fn, code, hfit, _⟩ := hN f af haf
 unfold Does at hd
 rw [hfit.call vs W] at hd
 refine hd.mono fun e W' ⟨K', h1, _, h3⟩ => ?_
 cases e with
 | returned v =>
   obtain ⟨av, e1, h4, _⟩ := h3
   cases e1
   simp only [Rep, RepD] at h4
   exact ⟨by rw [h4], ⟨h1.os, h1.tape, h1.output, h1.size, fun b hb => (h1.keep b hb (fun hf => hf)).1⟩⟩
 | panicked ch => obtain ⟨av, pv, e1, _⟩ := h3; cases e1
 | outgrown => exact h3.elim
end Go.Ab
namespace Go.Ab
def CLe (C C' : CallFn) : Prop := ∀ f a rf r, C f a rf = some r → C' f a rf = some r
theorem stepOp_mono {C C' : CallFn} (h : CLe C C') {s : St} {o : AOpk} {d : Did} (hs : stepOp C s o = some d) : stepOp C' s o = some d := by
 cases o with
 | call f args =>
   simp only [stepOp] at hs ⊢
   split at hs
   ·rename_i id first cap vs h1 h2
    split at hs <;> rename_i hc
    ·rw [h _ _ _ _ hc]; exact hs
    ·rw [h _ _ _ _ hc]; exact hs
    ·cases hs
   ·cases hs
 | callZ f args =>
   simp only [stepOp] at hs ⊢
   split at hs
   ·rename_i id first cap vs h1 h2
    split at hs
    ·rename_i hz
     split at hs <;> rename_i hc
     ·rw [if_pos hz, h _ _ _ _ hc]; exact hs
     ·cases hs
    ·cases hs
   ·cases hs
 | callQ f args =>
   simp only [stepOp] at hs ⊢
   split at hs
   ·rename_i id first cap vs h1 h2
    split at hs <;> rename_i hc
    ·rw [h _ _ _ _ hc]; exact hs
    ·cases hs
   ·cases hs
 | _ => exact hs
theorem runOps_mono {C C' : CallFn} (h : CLe C C') : ∀ {l : List AOp} {s : St} {r : Ex × St}, runOps C l s = some r → runOps C' l s = some r
 | [], s, r, hr => hr
 | o :: l, s, r, hr => by
   simp only [runOps] at hr ⊢
   split at hr
   ·cases hr
   ·rename_i hw; exact runOps_mono h hr
   ·rename_i hw
    split at hr <;> rename_i hs
    ·rw [stepOp_mono h hs]; exact runOps_mono h hr
    ·rw [stepOp_mono h hs]; exact runOps_mono h hr
    ·rw [stepOp_mono h hs]; exact hr
    ·cases hr
theorem runLoop_mono {b b' : St → Option (Ex × St)} {keep : List Nat} {n : Nat} (hb : ∀ s r, b s = some r → b' s = some r) : ∀ {k k' : Nat} {s : St} {r : Ex × St}, k ≤ k' → runLoop b keep n k s = some r → runLoop b' keep n k' s = some r
 | 0, _, _, _, _, h => by simp [runLoop] at h
 | k + 1, 0, _, _, hk, _ => by omega
 | k + 1, k' + 1, s, r, hk, h => by
   simp only [runLoop] at h ⊢
   split at h
   ·rename_i s1 h1
    rw [hb _ _ h1]
    exact runLoop_mono hb (by omega) h
   ·rename_i hn
    rw [hb _ _ h]
    split
    ·rename_i s1 e
     cases e
     exact absurd h (hn s1)
    ·rfl
theorem run_mono {C C' : CallFn} (h : CLe C C') {k k' : Nat} (hk : k ≤ k') : ∀ {c : AC} {s : St} {r : Ex × St}, run C k c s = some r → run C' k' c s = some r
 | .skip, s, r, hr => hr
 | .ops l, s, r, hr => runOps_mono h hr
 | .seq a b, s, r, hr => by
   simp only [run] at hr ⊢
   split at hr
   ·rename_i s1 h1
    rw [run_mono h hk h1]; exact run_mono h hk hr
   ·rename_i hn
    rw [run_mono h hk hr]
    split
    ·rename_i s1 e
     cases e
     exact absurd hr (hn s1)
    ·rfl
 | .cond c t e, s, r, hr => by
   simp only [run] at hr ⊢
   split at hr <;> rename_i hg
   ·exact run_mono h hk hr
   ·exact run_mono h hk hr
   ·cases hr
 | .block i b, s, r, hr => by
   simp only [run] at hr ⊢
   split at hr
   ·rename_i j s1 h1
    rw [run_mono h hk h1]; exact hr
   ·rename_i hn
    rw [run_mono h hk hr]
    split
    ·rename_i j s1 e
     cases e
     exact absurd hr (hn j s1)
    ·rfl
 | .loop keep b, s, r, hr => by
   simp only [run] at hr ⊢
   exact runLoop_mono (fun s r => run_mono h hk) hk hr
 | .exit i, s, r, hr => hr
 | .ret, s, r, hr => hr
 | .hole, s, r, hr => by simp [run] at hr
 | .goto l, s, r, hr => hr
 | .label, s, r, hr => hr
 | .scope l b c, s, r, hr => by
   simp only [run] at hr ⊢
   split at hr
   ·rename_i i s1 h1
    rw [run_mono h hk h1]
    simp only
    split at hr
    ·rename_i hi
     rw [if_pos hi]
     split at hr
     ·cases hr
     ·rename_i hn
      rw [run_mono h hk hr]
      split
      ·rename_i j s2 e
       cases e
       exact absurd hr (hn _ _)
      ·rfl
    ·cases hr
   ·rename_i hn
    rw [run_mono h hk hr]
    split
    ·rename_i j s1 e
     cases e
     exact absurd hr (hn j s1)
    ·rfl
 | .trim keep b, s, r, hr => by
   simp only [run] at hr ⊢
   split at hr
   ·rename_i s1 h1
    rw [run_mono h hk h1]; exact hr
   ·rename_i hn
    rw [run_mono h hk hr]
    split
    ·rename_i s1 e
     cases e
     exact absurd hr (hn s1)
    ·rfl
theorem callD_mono {tab : FuncId → Option AFn} {C C' : CallFn} (h : CLe C C') {k k' : Nat} (hk : k ≤ k') {f : FuncId} {a : List AV} {m : Option AV} {rf : Refs} {r} (hr : callD tab C k f a m rf = some r) : callD tab C' k' f a m rf = some r := by
 unfold callD at hr ⊢
 split at hr
 ·cases hr
 ·split at hr <;> rename_i h1
  ·rw [run_mono h hk h1]; exact hr
  ·rw [run_mono h hk h1]; exact hr
  ·rw [run_mono h hk h1]; exact hr
  ·cases hr
theorem leave_mono {CD CD'} (h : ∀ f a m rf r, CD f a m rf = some r → CD' f a m rf = some r) {af : AFn} {n : Nat} : ∀ {l : List (AV × List AV)} {m : Option AV} {s : St} {r}, leave CD af n l m s = some r → leave CD' af n l m s = some r
 | [], some v, s, r, hr => by simpa only [leave] using hr
 | [], none, s, r, hr => by simpa only [leave] using hr
 | (f, vs) :: l, m, s, r, hr => by
   cases f with
   | fn f first cap =>
     cases f with
     | func id =>
       simp only [leave] at hr ⊢
       split at hr <;> rename_i h1
       ·rw [h _ _ _ _ _ h1]; exact leave_mono h hr
       ·rw [h _ _ _ _ _ h1]; exact leave_mono h hr
       ·cases hr
     | _ => simp [leave] at hr
   | _ => simp [leave] at hr
theorem call_mono {tab tabD : FuncId → Option AFn} {orc : FuncId → List AV → Option AV} : ∀ (k : Nat), CLe (call tab tabD orc k) (call tab tabD orc (k + 1))
 | 0 => fun f a rf r hr => by simp [call] at hr
 | k + 1 => fun f a rf r hr => by
   have ih := call_mono (tab := tab) (tabD := tabD) (orc := orc) k
   rw [call] at hr ⊢
   split at hr
   ·exact hr
   ·rename_i hv
    split at hr
    ·cases hr
    ·rename_i af haf
     have hD : ∀ f a m rf r, callD tabD (call tab tabD orc k) k f a m rf = some r → callD tabD (call tab tabD orc (k + 1)) (k + 1) f a m rf = some r := fun f a m rf r h => callD_mono ih (Nat.le_succ k) h
     split at hr <;> rename_i h1
     ·rw [run_mono ih (Nat.le_succ k) h1]; exact leave_mono hD hr
     ·rw [run_mono ih (Nat.le_succ k) h1]; exact leave_mono hD hr
     ·rw [run_mono ih (Nat.le_succ k) h1]; exact leave_mono hD hr
     ·cases hr
theorem call_le {tab tabD : FuncId → Option AFn} {orc : FuncId → List AV → Option AV} {k k' : Nat} (hk : k ≤ k') : CLe (call tab tabD orc k) (call tab tabD orc k') := by
 induction hk with
 | refl => exact fun f a rf r h => h
 | step _ ih => exact fun f a rf r h => call_mono _ f a rf r (ih f a rf r h)
end Go.Ab
namespace Go.Ab
structure Mv where
 n : Nat
 N : Nat
 g : Nat → Nat
 mono : ∀ i j, i < j → j < n → g i < g j
 lt : ∀ i, i < n → g i < N
def Mv.to (m : Mv) (i : Nat) : Nat := if i < m.n then m.g i else m.N + (i - m.n)
theorem Mv.to_lt (m : Mv) {i j : Nat} (h : i < j) : m.to i < m.to j := by
 unfold Mv.to
 by_cases hj : j < m.n
 ·rw [if_pos (by omega), if_pos hj]; exact m.mono i j h hj
 ·rw [if_neg hj]
  by_cases hi : i < m.n
  ·rw [if_pos hi]; have := m.lt i hi; omega
  ·rw [if_neg hi]; omega
theorem Mv.to_lt_iff (m : Mv) {i j : Nat} : m.to i < m.to j ↔ i < j := by
 rcases Nat.lt_trichotomy i j with h | h | h
 ·exact ⟨fun _ => h, fun _ => m.to_lt h⟩
 ·subst h; simp
 ·have := m.to_lt h; omega
theorem Mv.to_inj (m : Mv) {i j : Nat} : m.to i = m.to j ↔ i = j := by
 rcases Nat.lt_trichotomy i j with h | h | h
 ·have := m.to_lt h; omega
 ·subst h; simp
 ·have := m.to_lt h; omega
theorem Mv.to_ge (m : Mv) {i : Nat} (h : m.n ≤ i) : m.to i = m.N + (i - m.n) := by
 unfold Mv.to; rw [if_neg (by omega)]
mutual
def AV.mv (m : Mv) : AV → AV
 | .ptr r off => .ptr (m.to r) off
 | .sref r off n => .sref (m.to r) off n
 | .fn f a b => .fn f (AV.mvs m a) (AV.mvs m b)
 | .ifc t v => .ifc t (v.mv m)
 | .agg cs => .agg (AV.mvs m cs)
 | .tup vs => .tup (AV.mvs m vs)
 | .d x => .d x
 | .nil => .nil
 | .own es => .own es
 | .ept cs off => .ept cs off
def AV.mvs (m : Mv) : List AV → List AV
 | [] => []
 | v :: r => v.mv m :: AV.mvs m r
end
section
variable (m : Mv)
theorem mvs_map : ∀ l : List AV, AV.mvs m l = l.map (AV.mv m)
 | [] => rfl
 | v :: r => by simp [AV.mvs, mvs_map r]
theorem mvs_length (l : List AV) : (AV.mvs m l).length = l.length := by simp [mvs_map]
theorem mvs_append (a b : List AV) : AV.mvs m (a ++ b) = AV.mvs m a ++ AV.mvs m b := by simp [mvs_map]
theorem mvs_get (l : List AV) (i : Nat) : (AV.mvs m l)[i]? = (l[i]?).map (AV.mv m) := by simp [mvs_map]
theorem mvs_take (l : List AV) (i : Nat) : AV.mvs m (l.take i) = (AV.mvs m l).take i := by simp [mvs_map]
theorem mvs_drop (l : List AV) (i : Nat) : AV.mvs m (l.drop i) = (AV.mvs m l).drop i := by simp [mvs_map]
theorem mvs_set (l : List AV) (i : Nat) (v : AV) : AV.mvs m (l.set i v) = (AV.mvs m l).set i (v.mv m) := by simp [mvs_map, List.map_set]
mutual
theorem mv_strip : ∀ v : AV, (v.mv m).strip = v.strip.mv m
 | .d x => rfl
 | .nil => rfl
 | .own es => rfl
 | .ptr r off => rfl
 | .ept cs off => rfl
 | .sref r off n => rfl
 | .fn f a b => rfl
 | .ifc t v => by simp only [AV.mv, AV.strip, mv_strip v]
 | .agg cs => by simp only [AV.mv, AV.strip, mvs_strips cs]
 | .tup vs => by simp only [AV.mv, AV.strip, mvs_strips vs]
theorem mvs_strips : ∀ l : List AV, AV.strips (AV.mvs m l) = AV.mvs m (AV.strips l)
 | [] => rfl
 | v :: r => by simp only [AV.mvs, AV.strips, mv_strip v, mvs_strips r]
end
mutual
theorem mv_bare : ∀ v : AV, (v.mv m).bare = v.bare.mv m
 | .d x => rfl
 | .nil => rfl
 | .own es => rfl
 | .ptr r off => rfl
 | .ept cs off => rfl
 | .sref r off n => rfl
 | .fn f a b => rfl
 | .ifc t v => by simp only [AV.mv, AV.bare, mv_bare v]
 | .agg cs => by simp only [AV.mv, AV.bare, mvs_bares cs]
 | .tup vs => rfl
theorem mvs_bares : ∀ l : List AV, AV.bares (AV.mvs m l) = AV.mvs m (AV.bares l)
 | [] => rfl
 | v :: r => by simp only [AV.mvs, AV.bares, mv_bare v, mvs_bares r]
end
theorem mv_barg (v : AV) : (v.mv m).barg = v.barg.mv m := by
 cases v <;> first | rfl | exact mv_bare m _
theorem mvs_bargs : ∀ l : List AV, AV.bargs (AV.mvs m l) = AV.mvs m (AV.bargs l)
 | [] => rfl
 | v :: r => by simp only [AV.mvs, AV.bargs, mv_barg m v, mvs_bargs r]
theorem mv_toD (v : AV) : (v.mv m).toD = v.toD := by cases v <;> rfl
theorem mvs_toDs : ∀ l : List AV, toDs (AV.mvs m l) = toDs l
 | [] => rfl
 | v :: r => by simp only [AV.mvs, toDs, mv_toD, mvs_toDs r]
theorem mv_cells (v : AV) : (v.mv m).cells = AV.mvs m v.cells := by cases v <;> rfl
theorem mv_cellsO (v : AV) : (v.mv m).cellsO = AV.mvs m v.cellsO := by
 cases v <;> simp [AV.mv, AV.cellsO, AV.mvs, mvs_strips]
theorem mv_solid (v : AV) : (v.mv m).solid = v.solid := by cases v <;> rfl
theorem mv_one (v : AV) : (v.mv m).one = v.one := by cases v <;> rfl
theorem mvs_allOne (l : List AV) : (AV.mvs m l).all AV.one = l.all AV.one := by
 induction l with
 | nil => rfl
 | cons v r ih => simp [AV.mvs, mv_one, ih]
theorem mv_list (v : AV) : (v.mv m).list? = v.list? := by cases v <;> rfl
theorem mv_elems (v : AV) : (v.mv m).elems? = v.elems? := by
 cases v with
 | d x => rfl
 | _ => rfl
def Mv.b (k : Nat) : Nat := match k with | 0 => 0 | k + 1 => m.to k + 1
theorem Mv.b_le {a b : Nat} : m.b a ≤ m.b b ↔ a ≤ b := by
 cases a with
 | zero => simp [Mv.b]
 | succ a =>
   cases b with
   | zero => simp [Mv.b]
   | succ b =>
     simp only [Mv.b, Nat.add_le_add_iff_right]
     have := m.to_lt_iff (i := b) (j := a)
     omega
theorem Mv.b_max (a b : Nat) : m.b (max a b) = max (m.b a) (m.b b) := by
 have h1 := m.b_le (a := a) (b := b)
 have h2 := m.b_le (a := b) (b := a)
 rcases Nat.le_total a b with h | h
 ·rw [Nat.max_eq_right h, Nat.max_eq_right (h1.2 h)]
 ·rw [Nat.max_eq_left h, Nat.max_eq_left (h2.2 h)]
theorem Mv.b_to {a r : Nat} : m.b a ≤ m.to r ↔ a ≤ r := by
 cases a with
 | zero => simp [Mv.b]
 | succ a =>
   simp only [Mv.b]
   have := m.to_lt_iff (i := a) (j := r)
   omega
theorem Mv.b_to1 {a r : Nat} : m.b a ≤ m.to r + 1 ↔ a ≤ r + 1 := m.b_le (a := a) (b := r + 1)
mutual
theorem mv_refB : ∀ v : AV, (v.mv m).refB = m.b v.refB
 | .d x => rfl
 | .nil => rfl
 | .own es => rfl
 | .ptr r off => rfl
 | .ept cs off => rfl
 | .sref r off n => rfl
 | .fn f a b => by simp only [AV.mv, AV.refB, mvs_refBs a, mvs_refBs b, m.b_max]
 | .ifc t v => by simp only [AV.mv, AV.refB, mv_refB v]
 | .agg cs => by simp only [AV.mv, AV.refB, mvs_refBs cs]
 | .tup vs => by simp only [AV.mv, AV.refB, mvs_refBs vs]
theorem mvs_refBs : ∀ l : List AV, AV.refBs (AV.mvs m l) = m.b (AV.refBs l)
 | [] => rfl
 | v :: r => by simp only [AV.mvs, AV.refBs, mv_refB v, mvs_refBs r, m.b_max]
end
mutual
theorem mv_clean : ∀ {v : AV}, v.refB = 0 → v.mv m = v
 | .d x, _ => rfl
 | .nil, _ => rfl
 | .own es, _ => rfl
 | .ptr r off, h => by simp [AV.refB] at h
 | .ept cs off, _ => rfl
 | .sref r off n, h => by simp [AV.refB] at h
 | .fn f a b, h => by
   simp only [AV.refB] at h
   simp only [AV.mv]
   rw [mvs_clean (by omega), mvs_clean (by omega)]
 | .ifc t v, h => by simp only [AV.refB] at h; simp only [AV.mv]; rw [mv_clean h]
 | .agg cs, h => by simp only [AV.refB] at h; simp only [AV.mv]; rw [mvs_clean h]
 | .tup vs, h => by simp only [AV.refB] at h; simp only [AV.mv]; rw [mvs_clean h]
theorem mvs_clean : ∀ {l : List AV}, AV.refBs l = 0 → AV.mvs m l = l
 | [], _ => rfl
 | v :: r, h => by
   simp only [AV.refBs] at h
   simp only [AV.mvs]
   rw [mv_clean (by omega), mvs_clean (by omega)]
end
mutual
theorem D.same_refl : ∀ a : D, D.same a a = true
 | .int k n => by simp [D.same]
 | .bool a => by simp [D.same]
 | .str a => by simp [D.same]
 | .lst a => by simp [D.same, sameR_refl a]
 | .nilp => rfl
 | .nilI => rfl
 | .nilF => rfl
theorem sameR_refl : ∀ a : List (List D), sameR a a = true
 | [] => rfl
 | a :: r => by simp [sameR, sameD_refl a, sameR_refl r]
theorem sameD_refl : ∀ a : List D, sameD a a = true
 | [] => rfl
 | a :: r => by simp [sameD, D.same_refl a, sameD_refl r]
end
mutual
theorem AV.same_refl : ∀ a : AV, AV.same a a = true
 | .d a => by simp [AV.same, D.same_refl]
 | .nil => rfl
 | .own a => by simp [AV.same, sameR_refl]
 | .ptr a b => by simp [AV.same]
 | .ept a b => by simp [AV.same, sameD_refl]
 | .sref a b c => by simp [AV.same]
 | .fn a b c => by simp [AV.same, fnSame, sameV_refl b, sameV_refl c]
 | .ifc a b => by simp [AV.same, AV.same_refl b]
 | .agg a => by simp [AV.same, sameV_refl a]
 | .tup a => by simp [AV.same, sameV_refl a]
theorem sameV_refl : ∀ a : List AV, sameV a a = true
 | [] => rfl
 | a :: r => by simp [sameV, AV.same_refl a, sameV_refl r]
end
theorem sameRf_refl : ∀ a : Refs, sameRf a a = true
 | [] => rfl
 | a :: r => by simp [sameRf, sameV_refl a, sameRf_refl r]
def Slots.mv : Slots → Slots
 | [] => []
 | (k, v) :: r => (k, v.mv m) :: Slots.mv r
theorem mv_get : ∀ (s : Slots) (n : Nat), (s.mv m).get n = (s.get n).map (AV.mv m)
 | [], n => rfl
 | (k, v) :: r, n => by
   simp only [Slots.mv, Slots.get]
   split
   ·rfl
   ·exact mv_get r n
theorem mv_put (s : Slots) (n : Nat) (v : AV) : (s.put n v).mv m = (s.mv m).put n (v.mv m) := rfl
theorem mv_keep (s : Slots) : ∀ l : List Nat, (s.keep l).mv m = (s.mv m).keep l
 | [] => rfl
 | k :: ks => by
   simp only [Slots.keep, mv_get]
   cases s.get k with
   | none => simpa using mv_keep s ks
   | some v => simp [Slots.mv, mv_keep s ks]
theorem mv_vals : ∀ s : Slots, (s.mv m).map (·.2) = AV.mvs m (s.map (·.2))
 | [] => rfl
 | (k, v) :: r => by simp [Slots.mv, AV.mvs, mv_vals r]
structure Rl (B rf RF : Refs) : Prop where
 le : m.n ≤ rf.length
 len : RF.length = m.N + (rf.length - m.n)
 here : ∀ i, i < rf.length → RF[m.to i]? = (rf[i]?).map (AV.mvs m)
 there : ∀ j, j < m.N → (∀ i, i < m.n → m.g i ≠ j) → RF[j]? = B[j]?
variable {m} {B rf RF : Refs}
theorem Rl.to_len (h : Rl m B rf RF) : m.to rf.length = RF.length := by rw [m.to_ge h.le, h.len]
theorem Rl.get (h : Rl m B rf RF) {i : Nat} {cs : List AV} (hi : rf[i]? = some cs) : RF[m.to i]? = some (AV.mvs m cs) := by
 rw [h.here i (List.getElem?_eq_some_iff.1 hi).1, hi]; rfl
theorem Rl.lt_len (h : Rl m B rf RF) {i : Nat} (hi : i < rf.length) : m.to i < RF.length := by rw [← h.to_len]; exact m.to_lt hi
theorem Rl.push (h : Rl m B rf RF) (cs : List AV) : Rl m B (rf ++ [cs]) (RF ++ [AV.mvs m cs]) := by
 have hl := h.len; have hle := h.le; have ht := h.to_len
 refine ⟨by simp; omega, by simp; omega, fun i hi => ?_, fun j hj hn => ?_⟩
 ·simp only [List.length_append, List.length_cons, List.length_nil] at hi
  by_cases hi' : i < rf.length
  ·rw [List.getElem?_append_left (h.lt_len hi'), List.getElem?_append_left hi']; exact h.here i hi'
  ·have : i = rf.length := by omega
   subst this
   rw [ht]; simp
 ·rw [List.getElem?_append_left (by omega)]; exact h.there j hj hn
theorem Rl.set (h : Rl m B rf RF) {r : Nat} (hr : r < rf.length) (cs : List AV) : Rl m B (rf.set r cs) (RF.set (m.to r) (AV.mvs m cs)) := by
 refine ⟨by simpa using h.le, by simpa using h.len, fun i hi => ?_, fun j hj hn => ?_⟩
 ·simp only [List.length_set] at hi
  by_cases hir : r = i
  ·subst hir
   rw [List.getElem?_set_self (h.lt_len hi), List.getElem?_set_self hi]; rfl
  ·rw [List.getElem?_set_ne (fun e => hir (m.to_inj.1 e)), List.getElem?_set_ne hir]; exact h.here i hi
 ·rw [List.getElem?_set_ne]
  ·exact h.there j hj hn
  ·intro e
   by_cases hr' : r < m.n
   ·exact hn r hr' (by simpa [Mv.to, hr'] using e)
   ·rw [m.to_ge (by omega)] at e; omega
theorem Rl.take (h : Rl m B rf RF) {k : Nat} (hk : m.n ≤ k) : Rl m B (rf.take k) (RF.take (m.to k)) := by
 have hl := h.len
 have hle := h.le
 have ht := m.to_ge hk
 refine ⟨by rw [List.length_take]; omega, by rw [List.length_take, List.length_take]; omega, fun i hi => ?_, fun j hj hn => ?_⟩
 ·rw [List.length_take] at hi
  rw [List.getElem?_take_of_lt (m.to_lt (by omega)), List.getElem?_take_of_lt (by omega)]
  exact h.here i (by omega)
 ·rw [List.getElem?_take_of_lt (by omega)]; exact h.there j hj hn
theorem Rl.drop_take (h : Rl m B rf RF) {a k : Nat} (ha : m.n ≤ a) (hnk : m.n ≤ k) : (RF.take (m.to k)).drop (m.to a) = ((rf.take k).drop a).map (AV.mvs m) := by
 apply List.ext_getElem?
 intro i
 have hl := h.len
 have hle := h.le
 rw [List.getElem?_map, List.getElem?_drop, List.getElem?_drop, m.to_ge ha, m.to_ge hnk]
 by_cases hi : a + i < k
 ·rw [List.getElem?_take_of_lt (by omega), List.getElem?_take_of_lt (by omega)]
  by_cases hi' : a + i < rf.length
  ·rw [← h.here (a + i) (by omega), m.to_ge (by omega), show m.N + (a + i - m.n) = m.N + (a - m.n) + i by omega]
  ·rw [List.getElem?_eq_none (by omega), List.getElem?_eq_none (by omega)]; rfl
 ·rw [List.getElem?_take_eq_none (by omega), List.getElem?_take_eq_none (by omega)]; rfl
theorem Rl.uniq (h : Rl m B rf RF) {RF' : Refs} (h' : Rl m B rf RF') : RF' = RF := by
 apply List.ext_getElem?
 intro j
 by_cases hj : j < m.N
 ·by_cases he : ∃ i, i < m.n ∧ m.g i = j
  ·obtain ⟨i, hi, rfl⟩ := he
   have h1 := h.here i (by have := h.le; omega)
   have h2 := h'.here i (by have := h.le; omega)
   simp only [Mv.to, hi, if_true] at h1 h2
   rw [h1, h2]
  ·have hn : ∀ i, i < m.n → m.g i ≠ j := fun i hi e => he ⟨i, hi, e⟩
   rw [h.there j hj hn, h'.there j hj hn]
 ·by_cases hj' : j < RF.length
  ·have hl := h.len
   have h1 := h.here (m.n + (j - m.N)) (by omega)
   have h2 := h'.here (m.n + (j - m.N)) (by omega)
   rw [m.to_ge (by omega), show m.N + (m.n + (j - m.N) - m.n) = j by omega] at h1 h2
   rw [h1, h2]
  ·have l1 := h.len
   have l2 := h'.len
   rw [List.getElem?_eq_none (by omega), List.getElem?_eq_none (by omega)]
theorem Rl.cellsAt (h : Rl m B rf RF) {r off n : Nat} {cs : List AV} (hc : rf.cellsAt r off n = some cs) : RF.cellsAt (m.to r) off n = some (AV.mvs m cs) := by
 unfold Refs.cellsAt at hc ⊢
 split at hc
 ·rename_i ds hd
  rw [h.get hd]
  split at hc
  ·rename_i hle
   simp only [Option.some.injEq] at hc
   subst hc
   simp only [mvs_length, hle, if_true, mvs_take, mvs_drop]
  ·cases hc
 ·cases hc
theorem Rl.loadAt (h : Rl m B rf RF) {agg : Option Nat} {p v : AV} (hc : loadAt rf agg p = some v) : loadAt RF agg (p.mv m) = some (v.mv m) := by
 cases p with
 | ptr r off =>
   cases agg with
   | some n =>
     simp only [Ab.loadAt, AV.mv, Option.map_eq_some_iff] at hc ⊢
     obtain ⟨cs, h1, rfl⟩ := hc
     exact ⟨_, h.cellsAt h1, rfl⟩
   | none =>
     simp only [Ab.loadAt, AV.mv] at hc ⊢
     split at hc
     ·rename_i cs hcs
      rw [h.get hcs]
      simp only [mvs_get, hc, Option.map_some]
     ·cases hc
 | ept cs off =>
   cases agg with
   | some n =>
     simp only [Ab.loadAt, AV.mv] at hc ⊢
     split at hc
     ·rename_i hle
      simp only [Option.some.injEq] at hc
      subst hc
      simp only [hle, if_true, AV.mv, mvs_map, List.map_map, Option.some.injEq, AV.agg.injEq]
      apply List.map_congr_left
      intro x _; rfl
     ·cases hc
   | none =>
     simp only [Ab.loadAt, AV.mv, Option.map_eq_some_iff] at hc ⊢
     obtain ⟨x, h1, rfl⟩ := hc
     exact ⟨x, h1, rfl⟩
 | _ => simp [Ab.loadAt] at hc
theorem mvs_setRange : ∀ (l cs : List AV) (off : Nat), AV.mvs m (setRange cs off l) = setRange (AV.mvs m cs) off (AV.mvs m l)
 | [], cs, off => rfl
 | v :: r, cs, off => by simp only [setRange, AV.mvs, mvs_setRange r, mvs_set]
theorem Rl.storeAt (h : Rl m B rf RF) {nb sz : Nat} {a v : AV} {rf' : Refs} (hs : storeAt rf nb sz a v = some rf') : ∃ RF', Rl m B rf' RF' ∧ storeAt RF (m.to nb) sz (a.mv m) (v.mv m) = some RF' := by
 cases a with
 | ptr r off =>
   simp only [Ab.storeAt, AV.mv] at hs ⊢
   split at hs
   ·cases hs
   ·rename_i hc
    split at hs
    ·rename_i cs hcs
     split at hs
     ·rename_i hle
      simp only [Option.some.injEq] at hs
      subst hs
      rw [mv_cellsO, mvs_length, mvs_allOne, if_neg hc, h.get hcs]
      refine ⟨_, h.set (List.getElem?_eq_some_iff.1 hcs).1 _, ?_⟩
      simp only [mvs_length, mvs_refBs, m.b_to1, mvs_setRange]
      rw [if_pos ⟨hle.1, hle.2.imp id fun q => Nat.not_lt.1 fun q' => absurd (m.to_lt_iff.1 q') (by omega)⟩]
     ·cases hs
    ·cases hs
 | _ => simp [Ab.storeAt] at hs
end
end Go.Ab
namespace Go.Ab
def mvDf (m : Mv) (l : List (AV × List AV)) : List (AV × List AV) := l.map fun p => (p.1.mv m, AV.mvs m p.2)
def St.mv (m : Mv) (s : St) (RF : Refs) : St := ⟨s.sl.mv m, RF, mvDf m s.df, s.pn.map (Option.map (AV.mv m)), m.to s.nb⟩
def Did.mv (m : Mv) (RF : Refs) : Did → Did
 | .val v s => .val (v.mv m) (s.mv m RF)
 | .none_ s => .none_ (s.mv m RF)
 | .pan v s => .pan (v.mv m) (s.mv m RF)
def Out.mv (m : Mv) : Out → Out
 | .ret v => .ret (v.mv m)
 | .pan v => .pan (v.mv m)
def CallMv (m : Mv) (B : Refs) (C : CallFn) : Prop := ∀ f a rf RF o rf', Rl m B rf RF → C f a rf = some (o, rf') → ∃ RF', Rl m B rf' RF' ∧ C f (AV.mvs m a) RF = some (o.mv m, RF')
def CallB (C : CallFn) : Prop := ∀ f a rf o rf', C f a rf = some (o, rf') → o.val.refB ≤ rf.length
section
variable {m : Mv} {B : Refs} {C : CallFn} {s : St} {RF : Refs} {d : Did}
theorem rawO_mv {x : Opd} (hx : x.cok = true) {sl : Slots} : rawO (sl.mv m) x = (rawO sl x).map (AV.mv m) := by
 cases x with
 | t n => exact mv_get m sl n
 | c v => simp only [Opd.cok, beq_iff_eq] at hx; simp [rawO, mv_clean m hx]
 | f id => rfl
theorem getO_mv {x : Opd} (hx : x.cok = true) {sl : Slots} : getO (sl.mv m) x = (getO sl x).map (AV.mv m) := by
 simp only [getO, rawO_mv hx]
 cases rawO sl x with
 | none => rfl
 | some v => simp [mv_strip]
theorem getOs_mv {sl : Slots} : ∀ {l : List Opd}, l.all Opd.cok = true → getOs (sl.mv m) l = (getOs sl l).map (AV.mvs m)
 | [], _ => rfl
 | x :: r, h => by
   simp only [List.all_cons, Bool.and_eq_true] at h
   simp only [getOs, getO_mv h.1, getOs_mv h.2]
   cases getO sl x <;> cases getOs sl r <;> rfl
theorem unOwn_mv (x : Opd) : (unOwn s x).mv m RF = unOwn (s.mv m RF) x := by
 cases x with
 | t n =>
   simp only [unOwn]
   have := mv_get m s.sl n
   simp only [St.mv] at this ⊢
   rw [this]
   cases h : s.sl.get n with
   | none => rfl
   | some v => cases v <;> rfl
 | _ => rfl
theorem unOwn_rf' (x : Opd) : (unOwn s x).rf = s.rf := by
 cases x with
 | t n =>
   simp only [unOwn]
   cases s.sl.get n with
   | none => rfl
   | some v => cases v <;> rfl
 | _ => rfl
theorem fillA_mv {sl : Slots} : ∀ {parts : List (Nat × Nat × Opd)} {cs r : List AV}, partsCok parts = true → fillA sl cs parts = some r → fillA (sl.mv m) (AV.mvs m cs) parts = some (AV.mvs m r)
 | [], cs, r, _, h => by simp only [fillA, Option.some.injEq] at h; subst h; rfl
 | (off, size, x) :: ps, cs, r, hc, h => by
   simp only [partsCok, Bool.and_eq_true] at hc
   simp only [fillA, getO_mv hc.1] at h ⊢
   cases hx : getO sl x with
   | none => rw [hx] at h; cases h
   | some v =>
     rw [hx] at h
     simp only [Option.map_some, mv_cells, mvs_length, mv_solid] at h ⊢
     split at h
     ·rename_i hq
      rw [if_pos hq, ← mvs_setRange]
      exact fillA_mv hc.2 h
     ·cases h
theorem partA_mv {agg : Option Nat} {cs : List AV} {off : Nat} : partA agg (AV.mvs m cs) off = (partA agg cs off).map (AV.mv m) := by
 cases agg with
 | none => simp only [partA, mvs_get]
 | some n =>
   simp only [partA, mvs_length]
   split
   ·simp only [Option.map_some, AV.mv, mvs_take, mvs_drop]
   ·rfl
theorem asIdx_mv {sl : Slots} {x : Option Opd} (hx : optCok x = true) {k : Nat} : asIdx (sl.mv m) x k = asIdx sl x k := by
 cases x with
 | none => rfl
 | some x =>
   simp only [asIdx, getO_mv (show x.cok = true from hx)]
   cases getO sl x with
   | none => rfl
   | some v =>
     cases v with
     | d y => rfl
     | _ => rfl
theorem intBin_d {op : BinOp} {k : IntKind} {x y : Int} {v : AV} (h : intBin op k x y = some v) : v.mv m = v := by
 cases op <;> simp only [intBin] at h <;> first
  | (split at h <;> first | (cases h; done) | (cases h; rfl))
  | (cases h; rfl)
  | (cases h; done)
theorem strBin_d {op : BinOp} {x y : List UInt8} {v : AV} (h : strBin op x y = some v) : v.mv m = v := by
 cases op <;> simp only [strBin] at h <;> first
  | (split at h <;> first | (cases h; done) | (cases h; rfl))
  | (cases h; rfl)
  | (cases h; done)
theorem binA_mv {op : BinOp} {x y v : AV} (h : binA op x y = some v) : binA op (x.mv m) (y.mv m) = some (v.mv m) := by
 cases x with
 | d a =>
   cases y with
   | d b =>
     simp only [AV.mv]
     rw [h]
     congr 1
     symm
     cases a <;> cases b <;> simp only [binA] at h <;> first
      | (cases h; done)
      | exact strBin_d h
      | (split at h <;> first
        | (split at h <;> first | (cases h; done) | (cases h; rfl) | exact intBin_d h)
        | exact intBin_d h)
   | _ => simp [binA] at h
 | _ => cases y <;> simp [binA] at h
theorem unA_mv {op : UnOp} {x v : AV} (h : unA op x = some v) : unA op (x.mv m) = some (v.mv m) := by
 cases x with
 | d a =>
   simp only [AV.mv]
   rw [h]
   congr 1
   symm
   cases op <;> cases a <;> simp only [unA] at h <;> first | (cases h; done) | (cases h; rfl)
 | _ => cases op <;> simp [unA] at h
theorem eqCells_mv : ∀ (ks : List PK) (a b : List AV) {t : Bool}, eqCells ks a b = some t → eqCells ks (AV.mvs m a) (AV.mvs m b) = some t
 | [], a, b, t, h => by cases a <;> cases b <;> simp [eqCells] at h; subst h; rfl
 | k :: ks, a, b, t, h => by
   cases a with
   | nil => simp [eqCells] at h
   | cons x a =>
     cases b with
     | nil => cases x <;> simp [eqCells] at h
     | cons y b =>
       cases x <;> cases y <;> simp only [eqCells] at h <;> try (cases h; done)
       rename_i x y
       simp only [AV.mvs, AV.mv, eqCells]
       split at h
       ·rename_i hq
        rw [if_pos hq]
        simp only [Option.map_eq_some_iff] at h ⊢
        obtain ⟨u, h1, h2⟩ := h
        exact ⟨u, eqCells_mv ks a b h1, h2⟩
       ·cases h
theorem eqNilA_mv {k : Nat} {x : AV} : eqNilA k (x.mv m) = eqNilA k x := by
 cases x with
 | d a => rfl
 | _ => rcases k with _ | _ | _ | _ | k <;> rfl
theorem appendA_mv {sz : Nat} {x y v : AV} (h : appendA sz x y = some v) : appendA sz (x.mv m) (y.mv m) = some (v.mv m) := by
 simp only [appendA] at h ⊢
 rw [mv_elems]
 split at h
 ·cases h
 ·cases x with
  | nil =>
    simp only [AV.mv] at h ⊢
    rw [h]
    congr 1
    split at h
    ·split at h <;> (cases h; rfl)
    ·cases h
  | own es =>
    simp only [AV.mv] at h ⊢
    rw [h]
    congr 1
    split at h
    ·cases h; rfl
    ·cases h
  | _ => simp at h
theorem apartB_mv {sl : Slots} {r : Nat} : ∀ {l : List Opd}, l.all Opd.cok = true → apartB (sl.mv m) (m.to r) l = apartB sl r l
 | [], _ => rfl
 | x :: l, h => by
   simp only [List.all_cons, Bool.and_eq_true] at h
   simp only [apartB, getO_mv h.1, apartB_mv h.2]
   congr 1
   cases getO sl x with
   | none => rfl
   | some v =>
     cases v with
     | ptr q off =>
       show (m.to q != m.to r) = (q != r)
       rw [Bool.eq_iff_iff]
       simp [m.to_inj]
     | _ => rfl
theorem vl_mv {v v' : Option AV} (hR : Rl m B s.rf RF) (h : vl s v = some d) (hv : ∀ w, v = some w → v' = some (w.mv m)) : ∃ RF', Rl m B d.st.rf RF' ∧ vl (s.mv m RF) v' = some (d.mv m RF') := by
 simp only [vl, Option.map_eq_some_iff] at h
 obtain ⟨w, rfl, rfl⟩ := h
 exact ⟨RF, hR, by simp only [vl, hv w rfl, Option.map_some]; rfl⟩
theorem bares_mv {a b c : List AV} : AV.bares (AV.mvs m a ++ AV.mvs m b ++ AV.mvs m c) = AV.mvs m (AV.bares (a ++ b ++ c)) := by
 rw [← mvs_append, ← mvs_append, mvs_bares]
theorem bargs_mv {a b c : List AV} : AV.bargs (AV.mvs m a ++ AV.mvs m b ++ AV.mvs m c) = AV.mvs m (AV.bargs (a ++ b ++ c)) := by
 rw [← mvs_append, ← mvs_append, mvs_bargs]
theorem mv_flat (l : List D) : AV.mvs m (l.map .d) = l.map .d := by
 rw [mvs_map, List.map_map]; rfl
end
end Go.Ab
namespace Go.Ab
section
variable {m : Mv} {B : Refs} {C : CallFn} {s : St} {RF : Refs} {d : Did}
theorem getOm {x : Opd} (hx : x.cok = true) {v : AV} (h : getO s.sl x = some v) : getO (s.mv m RF).sl x = some (v.mv m) := by
 show getO (s.sl.mv m) x = _
 rw [getO_mv hx, h]; rfl
theorem rawOm {x : Opd} (hx : x.cok = true) {v : AV} (h : rawO s.sl x = some v) : rawO (s.mv m RF).sl x = some (v.mv m) := by
 show rawO (s.sl.mv m) x = _
 rw [rawO_mv hx, h]; rfl
theorem getOsm {l : List Opd} (hx : l.all Opd.cok = true) {v : List AV} (h : getOs s.sl l = some v) : getOs (s.mv m RF).sl l = some (AV.mvs m v) := by
 show getOs (s.sl.mv m) l = _
 rw [getOs_mv hx, h]; rfl
theorem asIdxm {x : Option Opd} (hx : optCok x = true) {k : Nat} : asIdx (s.mv m RF).sl x k = asIdx s.sl x k := asIdx_mv hx
set_option maxHeartbeats 4000000 in
theorem stepOp_mv (hC : CallMv m B C) (hB : CallB C) {o : AOpk} (ho : o.cok = true) (hR : Rl m B s.rf RF) (h : stepOp C s o = some d) :
  ∃ RF', Rl m B d.st.rf RF' ∧ stepOp C (s.mv m RF) o = some (d.mv m RF') := by
 cases o <;> simp only [AOpk.cok, Bool.and_eq_true, beq_iff_eq] at ho <;> simp only [stepOp] at h ⊢
 case mov x => exact vl_mv hR h fun w hw => getOm ho hw
 case take t =>
  split at h
  ·rename_i v hv
   cases h
   refine ⟨RF, by simpa only [Did.st, unOwn_rf'] using hR, ?_⟩
   have : (s.mv m RF).sl.get t = some (v.mv m) := by show (s.sl.mv m).get t = _; rw [mv_get, hv]; rfl
   simp only [this, Did.mv, unOwn_mv]
  ·cases h
 case asg x =>
  split at h
  ·rename_i v hv
   cases h
   refine ⟨RF, by simpa only [Did.st, unOwn_rf'] using hR, ?_⟩
   simp only [rawOm ho hv, Did.mv, unOwn_mv]
  ·cases h
 case pick c a b =>
  split at h
  ·rename_i t ht
   rw [getOm ho.1.1 ht]
   simp only [AV.mv]
   refine vl_mv hR h fun w hw => ?_
   cases t with
   | true => exact getOm ho.1.2 hw
   | false => exact getOm ho.2 hw
  ·cases h
 case alloc cells =>
  cases h
  refine ⟨RF ++ [AV.mvs m cells], hR.push cells, ?_⟩
  simp only [Did.mv, AV.mv, hR.to_len, mvs_clean m ho, St.mv]
 case box x =>
  split at h
  ·rename_i v hv
   rw [getOm ho hv]
   simp only [mv_solid]
   split at h
   ·rename_i hsd
    cases h
    refine ⟨RF ++ [AV.mvs m v.cells], hR.push _, ?_⟩
    rw [if_pos hsd]
    simp only [Did.mv, AV.mv, hR.to_len, mv_cells, St.mv]
   ·cases h
  ·cases h
 case build zero parts =>
  refine vl_mv hR h fun w hw => ?_
  simp only [Option.map_eq_some_iff] at hw ⊢
  obtain ⟨cs, h1, rfl⟩ := hw
  have := fillA_mv (m := m) ho.2 h1
  rw [mvs_clean m ho.1] at this
  exact ⟨_, this, rfl⟩
 case mkls sz zero parts =>
  split at h
  ·rename_i cs h1
   have := fillA_mv (m := m) ho.2 h1
   rw [mvs_clean m ho.1] at this
   split at h
   ·rename_i ds h2
    split at h
    ·rename_i hq
     have e : fillA (s.mv m RF).sl zero parts = some (AV.mvs m cs) := this
     simp only [e, mvs_toDs, h2]
     rw [if_pos hq]
     exact vl_mv hR h fun w hw => by cases hw; rfl
    ·cases h
   ·cases h
  ·cases h
 case load agg a =>
  split at h
  ·rename_i p hp
   rw [getOm ho hp]
   refine vl_mv hR h fun w hw => ?_
   simp only [Option.map_eq_some_iff] at hw ⊢
   obtain ⟨v, h1, rfl⟩ := hw
   exact ⟨_, hR.loadAt h1, mv_strip m v⟩
  ·cases h
 case loadB agg a base =>
  split at h
  ·rename_i r off q x h1 h2
   rw [getOm ho.1 h1, getOm ho.2 h2]
   simp only [AV.mv]
   split at h
   ·rename_i hq
    subst hq
    rw [if_pos rfl]
    refine vl_mv hR h fun w hw => ?_
    simp only [Option.map_eq_some_iff] at hw ⊢
    obtain ⟨v, h1, rfl⟩ := hw
    exact ⟨_, hR.loadAt h1, mv_strip m v⟩
   ·cases h
  ·cases h
 case takeload a =>
  split at h
  ·rename_i r off h1
   rw [getOm ho h1]
   simp only [AV.mv]
   split at h
   ·rename_i v hv
    have e := hR.loadAt hv
    simp only [AV.mv] at e
    split at h
    ·rename_i cs hcs
     cases h
     have e2 : (s.mv m RF).rf = RF := rfl
     simp only [e2, e, hR.get hcs]
     refine ⟨_, hR.set (List.getElem?_eq_some_iff.1 hcs).1 _, ?_⟩
     simp only [Did.mv, St.mv, mvs_set, mv_strip]
    ·cases h
   ·cases h
  ·cases h
 case recheck => cases h
 case store sz a v =>
  split at h
  ·rename_i p x h1 h2
   rw [getOm ho.1 h1, rawOm ho.2 h2]
   split at h
   ·rename_i rf hrf
    cases h
    obtain ⟨RF', hR', e⟩ := hR.storeAt hrf
    have e2 : Ab.storeAt (s.mv m RF).rf (s.mv m RF).nb sz (p.mv m) (x.mv m) = some RF' := e
    simp only [e2]
    refine ⟨RF', by simpa only [Did.st, unOwn_rf'] using hR', ?_⟩
    simp only [Did.mv, unOwn_mv]; rfl
   ·cases h
  ·cases h
 case storeW sz a v ws =>
  split at h
  ·rename_i r off x h1 h2
   rw [getOm ho.1.1 h1, rawOm ho.1.2 h2]
   simp only [AV.mv]
   split at h
   ·rename_i hap
    have e0 : apartB (s.mv m RF).sl (m.to r) ws = true := by
     show apartB (s.sl.mv m) (m.to r) ws = true
     rw [apartB_mv ho.2]; exact hap
    rw [if_pos e0]
    split at h
    ·rename_i rf hrf
     cases h
     obtain ⟨RF', hR', e⟩ := hR.storeAt hrf
     have e2 : Ab.storeAt (s.mv m RF).rf (s.mv m RF).nb sz (.ptr (m.to r) off) (x.mv m) = some RF' := e
     simp only [e2]
     refine ⟨RF', by simpa only [Did.st, unOwn_rf'] using hR', ?_⟩
     simp only [Did.mv, unOwn_mv]; rfl
    ·cases h
   ·cases h
  ·cases h
 case nilchk x =>
  split at h
  ·rename_i r off h1
   rw [getOm ho h1]
   exact vl_mv hR h fun w hw => by cases hw; rfl
  ·rename_i cs off h1
   rw [getOm ho h1]
   exact vl_mv hR h fun w hw => by cases hw; rfl
  ·rename_i f a b h1
   rw [getOm ho h1]
   simp only [AV.mv]
   split at h
   ·exact vl_mv hR h fun w hw => by cases hw; rfl
   ·cases h
  ·cases h
 case bin op x y =>
  split at h
  ·rename_i a b h1 h2
   rw [getOm ho.1 h1, getOm ho.2 h2]
   exact vl_mv hR h fun w hw => binA_mv hw
  ·cases h
 case beq ne x y =>
  split at h
  ·rename_i a b h1 h2
   rw [getOm ho.1 h1, getOm ho.2 h2]
   exact vl_mv hR h fun w hw => by cases hw; rfl
  ·cases h
 case eqc ne ks x y =>
  split at h
  ·rename_i a b h1 h2
   rw [getOm ho.1 h1, getOm ho.2 h2]
   refine vl_mv hR h fun w hw => ?_
   simp only [Option.map_eq_some_iff] at hw ⊢
   obtain ⟨t, h3, rfl⟩ := hw
   exact ⟨t, eqCells_mv _ _ _ h3, rfl⟩
  ·cases h
 case eqnil nk ne x =>
  split at h
  ·rename_i a h1
   rw [getOm ho h1]
   refine vl_mv hR h fun w hw => ?_
   simp only [eqNilA_mv, hw]
   simp only [Option.map_eq_some_iff] at hw
   obtain ⟨t, h3, rfl⟩ := hw
   rfl
  ·cases h
 case un op x =>
  split at h
  ·rename_i a h1
   rw [getOm ho h1]
   exact vl_mv hR h fun w hw => unA_mv hw
  ·cases h
 case toInt k x =>
  split at h
  ·rename_i q n h1
   rw [getOm ho h1]
   exact vl_mv hR h fun w hw => by cases hw; rfl
  ·cases h
 case ident x =>
  split at h
  ·rename_i l h1
   rw [getOm ho h1]
   exact vl_mv hR h fun w hw => by cases hw; rfl
  ·cases h
 case same x =>
  split at h
  ·rename_i e es h1
   cases h
   rw [rawOm ho h1]
   refine ⟨RF, by simpa only [Did.st, unOwn_rf'] using hR, ?_⟩
   simp only [Did.mv, unOwn_mv, AV.mv]
  ·cases h
 case strBytes x =>
  split at h
  ·rename_i h1
   rw [getOm ho h1]
   exact vl_mv hR h fun w hw => by cases hw; rfl
  ·rename_i c l h1
   rw [getOm ho h1]
   exact vl_mv hR h fun w hw => by cases hw; rfl
  ·cases h
 case bytesStr x =>
  split at h
  ·rename_i v h1
   rw [getOm ho h1]
   simp only [mv_list]
   split at h
   ·refine vl_mv hR h fun w hw => ?_
    simp only [Option.map_eq_some_iff] at hw ⊢
    obtain ⟨l, h3, rfl⟩ := hw
    exact ⟨l, h3, rfl⟩
   ·cases h
  ·cases h
 case mkifc t x =>
  split at h
  ·rename_i v h1
   rw [getOm ho h1]
   exact vl_mv hR h fun w hw => by cases hw; rfl
  ·cases h
 case mkfn f first cap =>
  split at h
  ·rename_i a b h1 h2
   rw [getOsm ho.1 h1, getOsm ho.2 h2]
   exact vl_mv hR h fun w hw => by cases hw; rfl
  ·cases h
 case sliceS x lo hi =>
  split at h
  ·rename_i l h1
   rw [getOm ho.1.1 h1]
   simp only [AV.mv, asIdxm ho.1.2, asIdxm ho.2]
   split at h
   ·split at h
    ·rename_i hq
     rw [if_pos hq]
     exact vl_mv hR h fun w hw => by cases hw; rfl
    ·cases h
   ·cases h
  ·cases h
 case slice sz x lo hi =>
  split at h
  ·rename_i v h1
   rw [getOm ho.1.1 h1]
   simp only [mv_list, asIdxm ho.1.2, asIdxm ho.2]
   split at h
   ·split at h
    ·split at h
     ·rename_i hq
      rw [if_pos hq]
      exact vl_mv hR h fun w hw => by cases hw; rfl
     ·cases h
    ·cases h
   ·cases h
  ·cases h
 case slArr n x lo hi =>
  split at h
  ·rename_i r off h1
   rw [getOm ho.1.1 h1]
   simp only [AV.mv, asIdxm ho.1.2, asIdxm ho.2]
   split at h
   ·split at h
    ·rename_i hq
     rw [if_pos hq]
     exact vl_mv hR h fun w hw => by cases hw; rfl
    ·cases h
   ·cases h
  ·cases h
 case fldA off x =>
  split at h
  ·rename_i r o h1
   rw [getOm ho h1]
   exact vl_mv hR h fun w hw => by cases hw; rfl
  ·rename_i cs o h1
   rw [getOm ho h1]
   exact vl_mv hR h fun w hw => by cases hw; rfl
  ·cases h
 case fld off agg x =>
  split at h
  ·rename_i cs h1
   rw [getOm ho h1]
   refine vl_mv hR h fun w hw => ?_
   rw [partA_mv, hw]; rfl
  ·cases h
 case idxA arr sz x i =>
  split at h
  ·rename_i k n h1
   rw [getOm ho.2 h1]
   simp only [AV.mv]
   split at h
   ·cases h
   ·rename_i hn
    rw [if_neg hn]
    cases arr with
    | some mm =>
      cases hx : getO s.sl x with
      | none => rw [hx] at h; cases h
      | some v =>
        rw [hx] at h
        rw [getOm ho.1 hx]
        cases v <;> simp only [AV.mv] at h ⊢ <;> first
         | (cases h; done)
         | (split at h
            ·rename_i hq
             rw [if_pos hq]
             exact vl_mv hR h fun w hw => by cases hw; rfl
            ·cases h)
    | none =>
      cases hx : getO s.sl x with
      | none => rw [hx] at h; cases h
      | some v =>
        rw [hx] at h
        rw [getOm ho.1 hx]
        simp only at h
        simp only [mv_list]
        split at h
        ·split at h
         ·split at h
          ·rename_i hq
           rw [if_pos hq]
           exact vl_mv hR h fun w hw => by cases hw; rfl
          ·cases h
         ·cases h
        ·cases h
  ·cases h
 case idxS x i =>
  split at h
  ·rename_i l k n h1 h2
   rw [getOm ho.1 h1, getOm ho.2 h2]
   simp only [AV.mv]
   split at h
   ·cases h
   ·rename_i hn
    rw [if_neg hn]
    refine vl_mv hR h fun w hw => ?_
    simp only [Option.map_eq_some_iff] at hw ⊢
    obtain ⟨t, h3, rfl⟩ := hw
    exact ⟨t, h3, rfl⟩
  ·cases h
 case idxV n sz agg x i =>
  split at h
  ·rename_i cs k mm h1 h2
   rw [getOm ho.1 h1, getOm ho.2 h2]
   simp only [AV.mv]
   split at h
   ·cases h
   ·rename_i hn
    rw [if_neg hn]
    refine vl_mv hR h fun w hw => ?_
    rw [partA_mv, hw]; rfl
  ·cases h
 case assertT t zero x =>
  have hz : zero.mv m = zero := mv_clean m ho.2
  split at h
  ·rename_i t' v h1
   rw [getOm ho.1 h1]
   simp only [AV.mv]
   refine vl_mv hR h fun w hw => ?_
   cases hw
   split <;> simp [AV.mv, AV.mvs, hz]
  ·rename_i h1
   rw [getOm ho.1 h1]
   refine vl_mv hR h fun w hw => ?_
   cases hw
   simp [AV.mv, AV.mvs, hz]
  ·cases h
 case extr x i =>
  split at h
  ·rename_i vs h1
   rw [getOm ho h1]
   refine vl_mv hR h fun w hw => ?_
   rw [mvs_get, hw]; rfl
  ·cases h
 case call f args =>
  split at h
  ·rename_i id first cap vs h1 h2
   rw [getOm ho.1 h1, getOsm ho.2 h2]
   simp only [AV.mv, bargs_mv]
   split at h <;> rename_i hc
   ·obtain ⟨RF', hR', e⟩ := hC _ _ _ _ _ _ hR hc
    cases h
    have e2 : C id (AV.mvs m (AV.bargs (first ++ vs ++ cap))) (s.mv m RF).rf = _ := e
    rw [e2]
    exact ⟨RF', hR', rfl⟩
   ·obtain ⟨RF', hR', e⟩ := hC _ _ _ _ _ _ hR hc
    cases h
    have e2 : C id (AV.mvs m (AV.bargs (first ++ vs ++ cap))) (s.mv m RF).rf = _ := e
    rw [e2]
    exact ⟨RF', hR', rfl⟩
   ·cases h
  ·cases h
 case callZ f args =>
  split at h
  ·rename_i id first cap vs h1 h2
   rw [getOm ho.1 h1, getOsm ho.2 h2]
   simp only [AV.mv, bargs_mv]
   split at h
   ·rename_i hz
    rw [mvs_clean m hz, if_pos hz]
    split at h
    ·rename_i v rf hc
     cases h
     have : v.refB ≤ 0 := hB _ _ _ _ _ hc
     refine ⟨RF, hR, ?_⟩
     try rw [hc]
     simp only [Did.mv, mv_clean m (show v.refB = 0 by omega)]
    ·cases h
   ·cases h
  ·cases h
 case callQ f args =>
  split at h
  ·rename_i id first cap vs h1 h2
   rw [getOm ho.1 h1, getOsm ho.2 h2]
   simp only [AV.mv, bargs_mv]
   split at h
   ·rename_i v rf hc
    obtain ⟨RF', hR', e⟩ := hC _ _ _ _ _ _ hR hc
    split at h
    ·rename_i hq
     cases h
     have hrf := sameRf_eq _ _ hq
     subst hrf
     have e2 : C id (AV.mvs m (AV.bargs (first ++ vs ++ cap))) (s.mv m RF).rf = _ := e
     rw [e2]
     have e3 : RF' = RF := hR.uniq hR'
     subst e3
     have e4 : sameRf RF' (s.mv m RF').rf = true := sameRf_refl RF'
     simp only [Out.mv]
     rw [if_pos e4]
     exact ⟨RF', hR, rfl⟩
    ·cases h
   ·cases h
  ·cases h
 case lenS x =>
  split at h
  ·rename_i l h1
   rw [getOm ho h1]
   exact vl_mv hR h fun w hw => by cases hw; rfl
  ·cases h
 case len x =>
  split at h
  ·rename_i r o n h1
   rw [getOm ho h1]
   exact vl_mv hR h fun w hw => by cases hw; rfl
  ·rename_i v hne h1
   rw [getOm ho h1]
   cases v with
   | sref r o n => exact absurd rfl (hne r o n)
   | d x =>
     refine vl_mv hR h fun w hw => ?_
     simp only [AV.mv]
     rw [hw]
     simp only [Option.map_eq_some_iff] at hw
     obtain ⟨l, _, rfl⟩ := hw
     rfl
   | nil => exact vl_mv hR h fun w hw => by cases hw; rfl
   | own es => exact vl_mv hR h fun w hw => by cases hw; rfl
   | _ => simp [vl, AV.list?] at h
  ·cases h
 case lenArr n => exact vl_mv hR h fun w hw => by cases hw; rfl
 case append sz x y =>
  split at h
  ·rename_i a b h1 h2
   rw [rawOm ho.1 h1, getOm ho.2 h2]
   split at h
   ·rename_i r hr
    cases h
    simp only [appendA_mv hr]
    refine ⟨RF, by simpa only [Did.st, unOwn_rf'] using hR, ?_⟩
    simp only [Did.mv, unOwn_mv]
   ·cases h
  ·cases h
 case copy x y =>
  split at h
  ·rename_i r off n v h1 h2
   rw [getOm ho.1 h1, getOm ho.2 h2]
   simp only [AV.mv, mv_list]
   split at h
   ·rename_i es cs h3 h4
    have e2 : (s.mv m RF).rf = RF := rfl
    simp only [h3, e2, hR.get h4]
    split at h
    ·rename_i hq
     cases h
     simp only [mvs_length]
     rw [if_pos hq]
     refine ⟨_, hR.set (List.getElem?_eq_some_iff.1 h4).1 _, ?_⟩
     have e3 : ∀ l : List (List D), AV.mvs m (l.map fun e => AV.d (e.headD .nilp)) = l.map fun e => AV.d (e.headD .nilp) := fun l => by
      rw [mvs_map, List.map_map]; rfl
     simp only [Did.mv, St.mv, mvs_setRange, e3, AV.mv]
    ·cases h
   ·cases h
  ·cases h
 case min x y =>
  split at h
  ·rename_i k a k' b h1 h2
   rw [getOm ho.1 h1, getOm ho.2 h2]
   simp only [AV.mv]
   split at h
   ·rename_i hq
    rw [if_pos hq]
    exact vl_mv hR h fun w hw => by cases hw; rfl
   ·cases h
  ·cases h
 case max x y =>
  split at h
  ·rename_i k a k' b h1 h2
   rw [getOm ho.1 h1, getOm ho.2 h2]
   simp only [AV.mv]
   split at h
   ·rename_i hq
    rw [if_pos hq]
    exact vl_mv hR h fun w hw => by cases hw; rfl
   ·cases h
  ·cases h
 case recover =>
  split at h
  ·rename_i v hv
   cases h
   have : (s.mv m RF).pn = some (some (v.mv m)) := by simp only [St.mv, hv]; rfl
   rw [this]
   exact ⟨RF, hR, by simp only [Did.mv, mv_strip]; rfl⟩
  ·rename_i hv
   cases h
   have : (s.mv m RF).pn = some none := by simp only [St.mv, hv]; rfl
   rw [this]
   exact ⟨RF, hR, rfl⟩
  ·cases h
 case defer f args =>
  split at h
  ·rename_i id first cap vs h1 h2
   rw [getOm ho.1 h1, getOsm ho.2 h2]
   cases h
   refine ⟨RF, hR, ?_⟩
   simp only [AV.mv, Did.mv, St.mv, mvDf, List.map_cons, mvs_bares]
  ·cases h
 case panic x =>
  split at h
  ·rename_i t v h1
   rw [getOm ho h1]
   cases h
   exact ⟨RF, hR, rfl⟩
  ·cases h
end
end Go.Ab
namespace Go.Ab
def Ex.mv (m : Mv) : Ex → Ex
 | .pan v => .pan (v.mv m)
 | .nrm => .nrm
 | .exit i => .exit i
 | .goto i => .goto i
 | .ret => .ret
section
variable {m : Mv} {B : Refs} {C : CallFn}
theorem vl_nb {s : St} {v : Option AV} {d : Did} (h : vl s v = some d) : d.st.nb = s.nb := by
 simp only [vl, Option.map_eq_some_iff] at h
 obtain ⟨w, _, rfl⟩ := h
 rfl
theorem unOwn_nb {s : St} (x : Opd) : (unOwn s x).nb = s.nb := by
 cases x with
 | t n =>
   simp only [unOwn]
   cases s.sl.get n with
   | none => rfl
   | some v => cases v <;> rfl
 | _ => rfl
theorem stepOp_nb {s : St} {o : AOpk} {d : Did} (h : stepOp C s o = some d) : d.st.nb = s.nb := by
 cases o <;> simp only [stepOp] at h
 all_goals first
  | exact vl_nb h
  | (repeat' first
    | exact vl_nb h
    | (cases h; done)
    | (simp only [Option.some.injEq] at h; subst h; simp only [Did.st, unOwn_nb]; done)
    | split at h)
theorem wantedA_mv {s : St} {RF : Refs} (g : Option (Nat × Bool)) : wantedA (s.mv m RF) g = wantedA s g := by
 rcases g with _ | ⟨t, b⟩
 ·rfl
 ·have := mv_get m s.sl t
  simp only [wantedA, St.mv, this]
  cases s.sl.get t with
  | none => rfl
  | some v =>
    cases v with
    | d x => cases x <;> rfl
    | tup vs => cases vs <;> rfl
    | _ => rfl
theorem putO_mv {s : St} {RF : Refs} (d : Option Nat) (v : AV) : putO (s.mv m RF) d (v.mv m) = (putO s d v).mv m RF := by
 cases d <;> rfl
theorem putO_rf2 (s : St) (dst : Option Nat) (v : AV) : (putO s dst v).rf = s.rf := by cases dst <;> rfl
theorem putO_nb (s : St) (dst : Option Nat) (v : AV) : (putO s dst v).nb = s.nb := by cases dst <;> rfl
theorem runOps_mv (hC : CallMv m B C) (hB : CallB C) : ∀ {l : List AOp} {s : St} {RF : Refs} {e : Ex} {s' : St}, opsCok l = true → Rl m B s.rf RF → runOps C l s = some (e, s') →
  ∃ RF', Rl m B s'.rf RF' ∧ s'.nb = s.nb ∧ runOps C l (s.mv m RF) = some (e.mv m, s'.mv m RF')
 | [], s, RF, e, s', _, hR, h => by
   simp only [runOps, Option.some.injEq, Prod.mk.injEq] at h
   obtain ⟨rfl, rfl⟩ := h
   exact ⟨RF, hR, rfl, rfl⟩
 | o :: l, s, RF, e, s', ho, hR, h => by
   simp only [opsCok, Bool.and_eq_true] at ho
   simp only [runOps, wantedA_mv] at h ⊢
   split at h
   ·cases h
   ·obtain ⟨RF', h1, h2, h3⟩ := runOps_mv hC hB ho.2 (show Rl m B (putO s o.dst (.tup [])).rf RF by rw [putO_rf2]; exact hR) h
    exact ⟨RF', h1, h2.trans (putO_nb _ _ _), by rw [← putO_mv] at h3; exact h3⟩
   ·split at h <;> rename_i hs
    ·obtain ⟨RF1, hR1, e1⟩ := stepOp_mv hC hB ho.1 hR hs
     rw [e1]
     simp only [Did.mv]
     obtain ⟨RF', h1, h2, h3⟩ := runOps_mv hC hB ho.2 (by rw [putO_rf2]; exact hR1) h
     exact ⟨RF', h1, h2.trans ((putO_nb _ _ _).trans (stepOp_nb hs)), by rw [putO_mv]; exact h3⟩
    ·obtain ⟨RF1, hR1, e1⟩ := stepOp_mv hC hB ho.1 hR hs
     rw [e1]
     simp only [Did.mv]
     obtain ⟨RF', h1, h2, h3⟩ := runOps_mv hC hB ho.2 hR1 h
     exact ⟨RF', h1, h2.trans (stepOp_nb hs), h3⟩
    ·obtain ⟨RF1, hR1, e1⟩ := stepOp_mv hC hB ho.1 hR hs
     rw [e1]
     simp only [Did.mv]
     split at h
     ·rename_i hm
      simp only [Option.some.injEq, Prod.mk.injEq] at h
      obtain ⟨rfl, rfl⟩ := h
      exact ⟨RF1, hR1, stepOp_nb hs, by rw [if_pos hm]; rfl⟩
     ·cases h
    ·cases h
theorem refsB_mv (m : Mv) : ∀ l : Refs, refsB (l.map (AV.mvs m)) = m.b (refsB l)
 | [] => rfl
 | c :: l => by simp only [List.map_cons, refsB, mvs_refBs, refsB_mv m l, m.b_max]
theorem dfB_mv (m : Mv) : ∀ l : List (AV × List AV), dfB (mvDf m l) = m.b (dfB l)
 | [] => rfl
 | (f, vs) :: l => by
   have := dfB_mv m l
   simp only [mvDf] at this
   simp only [mvDf, List.map_cons, dfB, mvs_refBs, mv_refB, this, m.b_max]
theorem trimLoop_mv {s : St} {RF : Refs} (hR : Rl m B s.rf RF) (hnb : m.n ≤ s.nb) (keep : List Nat) {k : Nat} (hk : m.n ≤ k) :
  ∃ RF', Rl m B (s.trimLoop keep k).rf RF' ∧ (s.trimLoop keep k).nb = s.nb ∧ (s.mv m RF).trimLoop keep (m.to k) = (s.trimLoop keep k).mv m RF' := by
 have e1 : AV.refBs (((s.sl.mv m).keep keep).map (·.2)) ≤ m.to k ↔ AV.refBs ((s.sl.keep keep).map (·.2)) ≤ k := by
  rw [← mv_keep, mv_vals, mvs_refBs, m.b_to]
 have e2 : refsB ((RF.take (m.to k)).drop (m.to s.nb)) ≤ m.to k ↔ refsB ((s.rf.take k).drop s.nb) ≤ k := by
  rw [hR.drop_take hnb hk, refsB_mv, m.b_to]
 have e3 : dfB (mvDf m s.df) ≤ m.to k ↔ dfB s.df ≤ k := by rw [dfB_mv, m.b_to]
 by_cases hc : AV.refBs ((s.sl.keep keep).map (·.2)) ≤ k ∧ refsB ((s.rf.take k).drop s.nb) ≤ k ∧ dfB s.df ≤ k
 ·have ht : s.trimLoop keep k = { s with sl := s.sl.keep keep, rf := s.rf.take k } := if_pos hc
  rw [ht]
  refine ⟨_, hR.take hk, rfl, (if_pos ⟨e1.2 hc.1, e2.2 hc.2.1, e3.2 hc.2.2⟩).trans ?_⟩
  simp only [St.mv, mv_keep]
 ·have ht : s.trimLoop keep k = { s with sl := s.sl.keep keep } := if_neg hc
  rw [ht]
  refine ⟨RF, hR, rfl, (if_neg (fun q => hc ⟨e1.1 q.1, e2.1 q.2.1, e3.1 q.2.2⟩)).trans ?_⟩
  simp only [St.mv, mv_keep]
theorem runLoop_mv {body : St → Option (Ex × St)} {keep : List Nat} {n0 : Nat} (hn : m.n ≤ n0)
  (hb : ∀ s RF e s', m.n ≤ s.nb → Rl m B s.rf RF → body s = some (e, s') → ∃ RF', Rl m B s'.rf RF' ∧ s'.nb = s.nb ∧ body (s.mv m RF) = some (e.mv m, s'.mv m RF')) :
  ∀ (k : Nat) (s : St) (RF : Refs) (e : Ex) (s' : St), m.n ≤ s.nb → Rl m B s.rf RF → runLoop body keep n0 k s = some (e, s') →
   ∃ RF', Rl m B s'.rf RF' ∧ s'.nb = s.nb ∧ runLoop body keep (m.to n0) k (s.mv m RF) = some (e.mv m, s'.mv m RF')
 | 0, s, RF, e, s', _, _, h => by simp [runLoop] at h
 | k + 1, s, RF, e, s', hnb, hR, h => by
   simp only [runLoop] at h ⊢
   split at h
   ·rename_i s1 h1
    obtain ⟨RF1, hR1, hn1, e1⟩ := hb _ _ _ _ hnb hR h1
    rw [e1]
    simp only [Ex.mv]
    obtain ⟨RF2, hR2, hn2, e2⟩ := trimLoop_mv hR1 (by omega) keep hn
    rw [e2]
    obtain ⟨RF3, hR3, hn3, e3⟩ := runLoop_mv hn hb k _ _ _ _ (by omega) hR2 h
    exact ⟨RF3, hR3, by omega, e3⟩
   ·rename_i hne
    obtain ⟨RF1, hR1, hn1, e1⟩ := hb _ _ _ _ hnb hR h
    rw [e1]
    refine ⟨RF1, hR1, hn1, ?_⟩
    cases e with
    | nrm => exact absurd h (hne s')
    | _ => rfl
theorem run_mv (hC : CallMv m B C) (hB : CallB C) (k : Nat) : ∀ (c : AC) (s : St) (RF : Refs) (e : Ex) (s' : St), c.cok = true → m.n ≤ s.nb → Rl m B s.rf RF → run C k c s = some (e, s') →
  ∃ RF', Rl m B s'.rf RF' ∧ s'.nb = s.nb ∧ run C k c (s.mv m RF) = some (e.mv m, s'.mv m RF') := by
 intro c
 induction c with
 | skip =>
   intro s RF e s' _ _ hR h
   simp only [run, Option.some.injEq, Prod.mk.injEq] at h
   obtain ⟨rfl, rfl⟩ := h
   exact ⟨RF, hR, rfl, rfl⟩
 | ops l =>
   intro s RF e s' hc _ hR h
   simp only [run] at h ⊢
   exact runOps_mv hC hB hc hR h
 | seq a b iha ihb =>
   intro s RF e s' hc hnb hR h
   simp only [AC.cok, Bool.and_eq_true] at hc
   simp only [run] at h ⊢
   split at h
   ·rename_i s1 h1
    obtain ⟨RF1, hR1, hn1, e1⟩ := iha _ _ _ _ hc.1 hnb hR h1
    rw [e1]
    simp only [Ex.mv]
    obtain ⟨RF2, hR2, hn2, e2⟩ := ihb _ _ _ _ hc.2 (by omega) hR1 h
    exact ⟨RF2, hR2, by omega, e2⟩
   ·rename_i hne
    obtain ⟨RF1, hR1, hn1, e1⟩ := iha _ _ _ _ hc.1 hnb hR h
    rw [e1]
    refine ⟨RF1, hR1, hn1, ?_⟩
    cases e with
    | nrm => exact absurd h (hne s')
    | _ => rfl
 | cond c t f iht ihf =>
   intro s RF e s' hc hnb hR h
   simp only [AC.cok, Bool.and_eq_true] at hc
   simp only [run] at h ⊢
   split at h <;> rename_i hg
   ·rw [getOm hc.1.1 hg]; exact iht _ _ _ _ hc.1.2 hnb hR h
   ·rw [getOm hc.1.1 hg]; exact ihf _ _ _ _ hc.2 hnb hR h
   ·cases h
 | block i b ih =>
   intro s RF e s' hc hnb hR h
   simp only [AC.cok] at hc
   simp only [run] at h ⊢
   split at h
   ·rename_i j s1 h1
    obtain ⟨RF1, hR1, hn1, e1⟩ := ih _ _ _ _ hc hnb hR h1
    rw [e1]
    simp only [Ex.mv]
    split at h
    ·rename_i hj
     simp only [Option.some.injEq, Prod.mk.injEq] at h
     obtain ⟨rfl, rfl⟩ := h
     exact ⟨RF1, hR1, hn1, by rw [if_pos hj]; first | done | rfl⟩
    ·rename_i hj
     simp only [Option.some.injEq, Prod.mk.injEq] at h
     obtain ⟨rfl, rfl⟩ := h
     exact ⟨RF1, hR1, hn1, by rw [if_neg hj]; first | done | rfl⟩
   ·rename_i hne
    obtain ⟨RF1, hR1, hn1, e1⟩ := ih _ _ _ _ hc hnb hR h
    rw [e1]
    refine ⟨RF1, hR1, hn1, ?_⟩
    cases e with
    | exit j => exact absurd h (hne j s')
    | _ => rfl
 | loop keep b ih =>
   intro s RF e s' hc hnb hR h
   simp only [AC.cok] at hc
   simp only [run] at h ⊢
   obtain ⟨RF1, hR1, hn1, e1⟩ := trimLoop_mv hR hnb keep hR.le
   obtain ⟨RF2, hR2, hn2, e2⟩ := runLoop_mv (m := m) (B := B) hR.le (fun s RF e s' => ih s RF e s' hc) k _ _ _ _ (by omega) hR1 h
   refine ⟨RF2, hR2, by omega, ?_⟩
   have e3 : (s.mv m RF).rf.length = m.to s.rf.length := hR.to_len.symm
   rw [e3, e1, e2]
 | exit i =>
   intro s RF e s' _ _ hR h
   simp only [run, Option.some.injEq, Prod.mk.injEq] at h
   obtain ⟨rfl, rfl⟩ := h
   exact ⟨RF, hR, rfl, rfl⟩
 | ret =>
   intro s RF e s' _ _ hR h
   simp only [run, Option.some.injEq, Prod.mk.injEq] at h
   obtain ⟨rfl, rfl⟩ := h
   exact ⟨RF, hR, rfl, rfl⟩
 | trim keep b ih =>
   intro s RF e s' hc hnb hR h
   simp only [AC.cok] at hc
   simp only [run] at h ⊢
   split at h
   ·rename_i s1 h1
    obtain ⟨RF1, hR1, hn1, e1⟩ := ih _ _ _ _ hc hnb hR h1
    rw [e1]
    simp only [Option.some.injEq, Prod.mk.injEq] at h
    obtain ⟨rfl, rfl⟩ := h
    exact ⟨RF1, hR1, hn1, by simp only [Ex.mv, St.mv, mv_keep]⟩
   ·rename_i hne
    obtain ⟨RF1, hR1, hn1, e1⟩ := ih _ _ _ _ hc hnb hR h
    rw [e1]
    refine ⟨RF1, hR1, hn1, ?_⟩
    cases e with
    | nrm => exact absurd h (hne s')
    | _ => rfl
 | hole =>
   intro s RF e s' _ _ hR h
   simp [run] at h
 | label =>
   intro s RF e s' _ _ hR h
   simp only [run, Option.some.injEq, Prod.mk.injEq] at h
   obtain ⟨rfl, rfl⟩ := h
   exact ⟨RF, hR, rfl, rfl⟩
 | goto l =>
   intro s RF e s' _ _ hR h
   simp only [run, Option.some.injEq, Prod.mk.injEq] at h
   obtain ⟨rfl, rfl⟩ := h
   exact ⟨RF, hR, rfl, rfl⟩
 | scope l b r ihb ihr =>
   intro s RF e s' hc hnb hR h
   simp only [AC.cok, Bool.and_eq_true] at hc
   simp only [run] at h ⊢
   split at h
   ·rename_i i s1 h1
    obtain ⟨RF1, hR1, hn1, e1⟩ := ihb _ _ _ _ hc.1 hnb hR h1
    rw [e1]
    simp only [Ex.mv]
    split at h
    ·rename_i hi
     rw [if_pos hi]
     split at h
     ·cases h
     ·rename_i hne
      obtain ⟨RF2, hR2, hn2, e2⟩ := ihr _ _ _ _ hc.2 (by omega) hR1 h
      rw [e2]
      refine ⟨RF2, hR2, by omega, ?_⟩
      cases e with
      | goto j => exact absurd h (hne j s')
      | _ => rfl
    ·cases h
   ·rename_i hne
    obtain ⟨RF1, hR1, hn1, e1⟩ := ihb _ _ _ _ hc.1 hnb hR h
    rw [e1]
    refine ⟨RF1, hR1, hn1, ?_⟩
    cases e with
    | goto j => exact absurd h (hne j s')
    | _ => rfl
theorem enterS_mv : ∀ (args : List AV) (i : Nat), (enterS args i).mv m = enterS (AV.mvs m args) i
 | [], i => by simp [enterS, AV.mvs, Slots.mv]
 | v :: r, i => by simp only [enterS, AV.mvs, Slots.mv, enterS_mv r]
def CallDMv (m : Mv) (B : Refs) (CD : FuncId → List AV → Option AV → Refs → Option (Out × Option AV × Refs)) : Prop := ∀ f a p rf RF o p' rf', Rl m B rf RF → CD f a p rf = some (o, p', rf') →
 ∃ RF', Rl m B rf' RF' ∧ CD f (AV.mvs m a) (p.map (AV.mv m)) RF = some (o.mv m, p'.map (AV.mv m), RF')
theorem callD_mv {tab : FuncId → Option AFn} (ht : TabOK tab) (hC : CallMv m B C) (hB : CallB C) (k : Nat) : CallDMv m B (callD tab C k) := by
 intro f a p rf RF o p' rf' hR h
 unfold callD at h ⊢
 split at h
 ·cases h
 ·rename_i af haf
  have key : ∀ e s', run C k af.body { sl := enterS a 0, rf := rf, pn := some p, nb := rf.length } = some (e, s') →
    ∃ RF', Rl m B s'.rf RF' ∧ run C k af.body { sl := enterS (AV.mvs m a) 0, rf := RF, pn := some (p.map (AV.mv m)), nb := RF.length } = some (e.mv m, s'.mv m RF') := fun e s' h1 => by
   obtain ⟨RF1, hR1, _, e1⟩ := run_mv hC hB k _ _ RF _ _ (ht _ _ haf) (by exact hR.le) hR h1
   refine ⟨RF1, hR1, ?_⟩
   rw [← e1]
   simp only [St.mv, enterS_mv, hR.to_len]
   rfl
  have hg : ∀ s' : St, ∀ RF1, ((s'.mv m RF1).pn.getD none) = (s'.pn.getD none).map (AV.mv m) := fun s' RF1 => by
   simp only [St.mv]; cases s'.pn <;> rfl
  have hdf : ∀ s' : St, ∀ RF1, s'.df.isEmpty = true → (s'.mv m RF1).df.isEmpty = true := fun s' RF1 h => by
   simp only [St.mv, mvDf, List.isEmpty_iff, List.map_eq_nil_iff] at h ⊢; exact h
  split at h <;> rename_i h1
  ·obtain ⟨RF1, hR1, e1⟩ := key _ _ h1
   rw [e1]
   split at h
   ·rename_i hd
    simp only [Option.some.injEq, Prod.mk.injEq] at h
    obtain ⟨rfl, rfl, rfl⟩ := h
    have hd' := hdf _ RF1 hd
    refine ⟨_, hR1.take hR.le, ?_⟩
    simp only [Ex.mv]
    rw [if_pos hd', hg, hR.to_len]
    rfl
   ·cases h
  ·obtain ⟨RF1, hR1, e1⟩ := key _ _ h1
   rw [e1]
   split at h
   ·rename_i hd
    simp only [Option.some.injEq, Prod.mk.injEq] at h
    obtain ⟨rfl, rfl, rfl⟩ := h
    have hd' := hdf _ RF1 hd
    refine ⟨_, hR1.take hR.le, ?_⟩
    simp only [Ex.mv]
    rw [if_pos hd', hg, hR.to_len]
    rfl
   ·cases h
  ·obtain ⟨RF1, hR1, e1⟩ := key _ _ h1
   rw [e1]
   split at h
   ·rename_i hd
    simp only [Option.some.injEq, Prod.mk.injEq] at h
    obtain ⟨rfl, rfl, rfl⟩ := h
    have hd' := hdf _ RF1 hd.1
    refine ⟨_, hR1.take hR.le, ?_⟩
    simp only [Ex.mv]
    rw [if_pos ⟨hd', by rw [mv_refB, ← hR.to_len, m.b_to]; exact hd.2⟩, hg, hR.to_len, mv_bare]
    rfl
   ·cases h
  ·cases h
theorem resA_mv {s : St} {RF : Refs} (hR : Rl m B s.rf RF) {r : ResV} {v : AV} (h : resA s r = some v) : resA (s.mv m RF) r = some (v.mv m) := by
 cases r with
 | tmp t =>
   simp only [resA] at h ⊢
   show (s.sl.mv m).get t = _
   rw [mv_get, h]; rfl
 | cell a agg =>
   simp only [resA] at h ⊢
   have e : (s.mv m RF).sl.get a = (s.sl.get a).map (AV.mv m) := mv_get m s.sl a
   rw [e]
   split at h
   ·rename_i p hp
    rw [hp]
    exact hR.loadAt h
   ·cases h
theorem resAs_mv {s : St} {RF : Refs} (hR : Rl m B s.rf RF) : ∀ {l : List ResV} {vs : List AV}, resAs s l = some vs → resAs (s.mv m RF) l = some (AV.mvs m vs)
 | [], vs, h => by simp only [resAs, Option.some.injEq] at h; subst h; rfl
 | r :: l, vs, h => by
   simp only [resAs] at h ⊢
   split at h
   ·rename_i v us h1 h2
    cases h
    rw [resA_mv hR h1, resAs_mv hR h2]
    rfl
   ·cases h
theorem resOf_mv {s : St} {RF : Refs} (hR : Rl m B s.rf RF) {keep : Bool} {l : List ResV} {v : AV} (h : resOf s keep l = some v) : resOf (s.mv m RF) keep l = some (v.mv m) := by
 simp only [resOf] at h ⊢
 split at h
 ·rename_i u hu
  cases h
  rw [resAs_mv hR hu]
  cases keep
  ·simp [AV.mvs, mv_bare]
  ·rfl
 ·rename_i vs hne hu
  cases h
  rw [resAs_mv hR hu]
  split
  ·rename_i w hw
   simp only [Option.some.injEq] at hw
   cases vs with
   | nil => cases hw
   | cons a r =>
     cases r with
     | nil => exact absurd rfl (hne a)
     | cons b r => simp [AV.mvs] at hw
  ·rename_i ws _ hw
   cases hw
   simp only [AV.mv, mvs_bares]
  ·rename_i hw; cases hw
 ·cases h
theorem leave_mv {CD} (hD : CallDMv m B CD) {af : AFn} {n0 : Nat} (hn : m.n ≤ n0) : ∀ {l : List (AV × List AV)} {p : Option AV} {s : St} {RF : Refs} {o : Out} {rf' : Refs}, Rl m B s.rf RF → leave CD af n0 l p s = some (o, rf') →
  ∃ RF', Rl m B rf' RF' ∧ leave CD af (m.to n0) (mvDf m l) (p.map (AV.mv m)) (s.mv m RF) = some (o.mv m, RF')
 | [], some v, s, RF, o, rf', hR, h => by
   simp only [leave, mvDf, List.map_nil, Option.map_some] at h ⊢
   split at h
   ·rename_i hv
    simp only [Option.some.injEq, Prod.mk.injEq] at h
    obtain ⟨rfl, rfl⟩ := h
    rw [mv_refB, if_pos (m.b_to.2 hv)]
    exact ⟨_, hR.take hn, by rw [mv_bare]; rfl⟩
   ·cases h
 | [], none, s, RF, o, rf', hR, h => by
   simp only [leave, mvDf, List.map_nil, Option.map_none] at h ⊢
   split at h
   ·rename_i v hv
    rw [resOf_mv hR hv]
    simp only
    split at h
    ·rename_i hb
     simp only [Option.some.injEq, Prod.mk.injEq] at h
     obtain ⟨rfl, rfl⟩ := h
     rw [mv_refB, if_pos (m.b_to.2 hb)]
     exact ⟨_, hR.take hn, rfl⟩
    ·cases h
   ·cases h
 | (f, vs) :: l, p, s, RF, o, rf', hR, h => by
   cases f <;> try (simp [leave] at h; done)
   rename_i fn first cap
   cases fn <;> try (simp [leave] at h; done)
   rename_i id
   simp only [leave, mvDf, List.map_cons, AV.mv, bargs_mv] at h ⊢
   split at h
   ·rename_i v p' rf1 hc
    obtain ⟨RF1, hR1, e1⟩ := hD _ _ _ _ _ _ _ _ hR hc
    have e2 : CD id (AV.mvs m (AV.bargs (first ++ vs ++ cap))) (p.map (AV.mv m)) (s.mv m RF).rf = _ := e1
    rw [e2]
    obtain ⟨RF2, hR2, e3⟩ := leave_mv hD hn (s := { s with rf := rf1 }) hR1 h
    exact ⟨RF2, hR2, e3⟩
   ·rename_i v p' rf1 hc
    obtain ⟨RF1, hR1, e1⟩ := hD _ _ _ _ _ _ _ _ hR hc
    have e2 : CD id (AV.mvs m (AV.bargs (first ++ vs ++ cap))) (p.map (AV.mv m)) (s.mv m RF).rf = _ := e1
    rw [e2]
    obtain ⟨RF2, hR2, e3⟩ := leave_mv hD hn (s := { s with rf := rf1 }) hR1 h
    exact ⟨RF2, hR2, e3⟩
   ·cases h
def OrcPlain (orc : FuncId → List AV → Option AV) : Prop := ∀ f a v, orc f a = some v → v.refB = 0 ∧ AV.refBs a = 0
theorem leave_b {CD} {af : AFn} {n0 : Nat} : ∀ {l : List (AV × List AV)} {p : Option AV} {s : St} {o : Out} {rf' : Refs}, leave CD af n0 l p s = some (o, rf') → o.val.refB ≤ n0
 | [], some v, s, o, rf', h => by
   simp only [leave] at h
   split at h
   ·rename_i hb
    simp only [Option.some.injEq, Prod.mk.injEq] at h
    obtain ⟨rfl, rfl⟩ := h
    simpa only [Out.val, refB_bare] using hb
   ·cases h
 | [], none, s, o, rf', h => by
   simp only [leave] at h
   split at h
   ·split at h
    ·rename_i hb
     simp only [Option.some.injEq, Prod.mk.injEq] at h
     obtain ⟨rfl, rfl⟩ := h
     exact hb
    ·cases h
   ·cases h
 | (f, vs) :: l, p, s, o, rf', h => by
   cases f <;> try (simp [leave] at h; done)
   rename_i fn first cap
   cases fn <;> try (simp [leave] at h; done)
   simp only [leave] at h
   split at h
   ·exact leave_b h
   ·exact leave_b h
   ·cases h
theorem call_b {tab tabD : FuncId → Option AFn} {orc : FuncId → List AV → Option AV} (ho : OrcPlain orc) : ∀ k, CallB (call tab tabD orc k)
 | 0 => fun f a rf v rf' h => by simp [call] at h
 | k + 1 => fun f a rf v rf' h => by
   simp only [call] at h
   split at h
   ·rename_i u hu
    simp only [Option.some.injEq, Prod.mk.injEq] at h
    obtain ⟨rfl, rfl⟩ := h
    simp only [Out.val]
    rw [(ho _ _ _ hu).1]; exact Nat.zero_le _
   ·split at h
    ·cases h
    ·split at h
     ·exact leave_b h
     ·exact leave_b h
     ·exact leave_b h
     ·cases h
theorem call_mv {m : Mv} {B : Refs} {tab tabD : FuncId → Option AFn} {orc : FuncId → List AV → Option AV} (ht : TabOK tab) (htD : TabOK tabD) (ho : OrcPlain orc) : ∀ k, CallMv m B (call tab tabD orc k)
 | 0 => fun f a rf RF o rf' _ h => by simp [call] at h
 | k + 1 => fun f a rf RF o rf' hR h => by
   have hC := call_mv (m := m) (B := B) ht htD ho k
   have hB := call_b (tab := tab) (tabD := tabD) ho k
   simp only [call] at h ⊢
   split at h
   ·rename_i v hv
    simp only [Option.some.injEq, Prod.mk.injEq] at h
    obtain ⟨rfl, rfl⟩ := h
    have := ho _ _ _ hv
    rw [mvs_clean m this.2, hv]
    exact ⟨RF, hR, by simp only [Out.mv, mv_clean m this.1]⟩
   ·rename_i hv
    have hv' : orc f (AV.mvs m a) = none := by
     cases hq : orc f (AV.mvs m a) with
     | none => rfl
     | some w =>
       have h0 := (ho _ _ _ hq).2
       rw [mvs_refBs] at h0
       have h1 : AV.refBs a = 0 := by
        have := (m.b_le (a := AV.refBs a) (b := 0)).1 (by rw [h0]; exact Nat.zero_le _)
        omega
       rw [mvs_clean m h1, hv] at hq
       cases hq
    rw [hv']
    simp only
    split at h
    ·cases h
    ·rename_i af haf
     have key : ∀ e s', run (call tab tabD orc k) k af.body { sl := enterS a 0, rf := rf, nb := rf.length } = some (e, s') →
       ∃ RF', Rl m B s'.rf RF' ∧ run (call tab tabD orc k) k af.body { sl := enterS (AV.mvs m a) 0, rf := RF, nb := RF.length } = some (e.mv m, s'.mv m RF') := fun e s' h1 => by
      obtain ⟨RF1, hR1, _, e1⟩ := run_mv hC hB k _ _ RF _ _ (ht _ _ haf) (by exact hR.le) hR h1
      refine ⟨RF1, hR1, ?_⟩
      rw [← e1]
      simp only [St.mv, enterS_mv, hR.to_len]
      rfl
     have hDm := callD_mv (m := m) (B := B) htD hC hB k
     split at h <;> rename_i h1
     ·obtain ⟨RF1, hR1, e1⟩ := key _ _ h1
      rw [e1]
      obtain ⟨RF2, hR2, e2⟩ := leave_mv hDm hR.le hR1 h
      rw [hR.to_len] at e2
      exact ⟨RF2, hR2, e2⟩
     ·obtain ⟨RF1, hR1, e1⟩ := key _ _ h1
      rw [e1]
      obtain ⟨RF2, hR2, e2⟩ := leave_mv hDm hR.le hR1 h
      rw [hR.to_len] at e2
      exact ⟨RF2, hR2, e2⟩
     ·obtain ⟨RF1, hR1, e1⟩ := key _ _ h1
      rw [e1]
      obtain ⟨RF2, hR2, e2⟩ := leave_mv hDm hR.le hR1 h
      rw [hR.to_len] at e2
      exact ⟨RF2, hR2, e2⟩
     ·cases h
end
end Go.Ab
namespace Go.Ab
structure Tb where
 tab : FuncId → Option AFn
 tabD : FuncId → Option AFn
 orc : FuncId → List AV → Option AV
abbrev Tb.C (T : Tb) (k : Nat) : CallFn := call T.tab T.tabD T.orc k
inductive Ev (T : Tb) (f : FuncId) (args : List AV) (rf : Refs) (o : Out) (rf' : Refs) : Prop
 | mk (k : Nat) (h : T.C k f args rf = some (o, rf'))
def exN (N : St → Prop) (X : Ex → St → Prop) : Ex → St → Prop
 | .nrm, s => N s
 | e, s => X e s
inductive WP (T : Tb) (c : AC) (s : St) (N : St → Prop) (X : Ex → St → Prop) : Prop
 | mk (k : Nat) (e : Ex) (s' : St) (h : run (T.C k) k c s = some (e, s')) (h' : exN N X e s')
inductive OP (T : Tb) (l : List AOp) (s : St) (N : St → Prop) (X : Ex → St → Prop) : Prop
 | mk (k : Nat) (e : Ex) (s' : St) (h : runOps (T.C k) l s = some (e, s')) (h' : exN N X e s')
inductive LP (T : Tb) (keep : List Nat) (n : Nat) (b : AC) (s : St) (X : Ex → St → Prop) : Prop
 | mk (k : Nat) (e : Ex) (s' : St) (h : runLoop (run (T.C k) k b) keep n k s = some (e, s')) (h' : X e s')
section
variable {T : Tb} {s : St} {N : St → Prop} {X : Ex → St → Prop}
theorem WP.mono {c : AC} {N' : St → Prop} {X' : Ex → St → Prop} (h : WP T c s N X) (hN : ∀ s, N s → N' s) (hX : ∀ e s, X e s → X' e s) : WP T c s N' X' := by
 obtain ⟨k, e, s', h1, h2⟩ := h
 refine ⟨k, e, s', h1, ?_⟩
 cases e <;> first | exact hN _ h2 | exact hX _ _ h2
theorem OP.mono {l : List AOp} {N' : St → Prop} {X' : Ex → St → Prop} (h : OP T l s N X) (hN : ∀ s, N s → N' s) (hX : ∀ e s, X e s → X' e s) : OP T l s N' X' := by
 obtain ⟨k, e, s', h1, h2⟩ := h
 refine ⟨k, e, s', h1, ?_⟩
 cases e <;> first | exact hN _ h2 | exact hX _ _ h2
theorem Tb.le {k k' : Nat} {f : FuncId} {a : List AV} {rf : Refs} {r} (h : T.C k f a rf = some r) (hk : k ≤ k') : T.C k' f a rf = some r := call_le hk _ _ _ _ h
theorem runK {c : AC} {s : St} {r} {k k' : Nat} (h : run (T.C k) k c s = some r) (hk : k ≤ k') : run (T.C k') k' c s = some r := run_mono (call_le hk) hk h
theorem wp_skip (h : N s) : WP T .skip s N X := ⟨0, .nrm, s, rfl, h⟩
theorem wp_exit {i : Nat} (h : X (.exit i) s) : WP T (.exit i) s N X := ⟨0, .exit i, s, rfl, h⟩
theorem wp_ret (h : X .ret s) : WP T .ret s N X := ⟨0, .ret, s, rfl, h⟩
theorem wp_ops {l : List AOp} (h : OP T l s N X) : WP T (.ops l) s N X := by
 obtain ⟨k, e, s', h1, h2⟩ := h
 exact ⟨k, e, s', h1, h2⟩
theorem wp_seq {a b : AC} (h : WP T a s (fun s' => WP T b s' N X) X) : WP T (.seq a b) s N X := by
 obtain ⟨k, e, s', h1, h2⟩ := h
 cases e with
 | nrm =>
   obtain ⟨k', e', s'', h3, h4⟩ := h2
   refine ⟨max k k', e', s'', ?_, h4⟩
   simp only [run]
   rw [runK h1 (Nat.le_max_left _ _)]
   exact runK h3 (Nat.le_max_right _ _)
 | goto i => exact ⟨k, .goto i, s', by simp only [run]; rw [h1], h2⟩
 | exit i => exact ⟨k, .exit i, s', by simp only [run]; rw [h1], h2⟩
 | ret => exact ⟨k, .ret, s', by simp only [run]; rw [h1], h2⟩
 | pan v => exact ⟨k, .pan v, s', by simp only [run]; rw [h1], h2⟩
theorem wp_cond {c : Opd} {t e : AC} {b : Bool} (hc : getO s.sl c = some (.d (.bool b))) (h1 : b = true → WP T t s N X) (h2 : b = false → WP T e s N X) : WP T (.cond c t e) s N X := by
 cases b with
 | true =>
   obtain ⟨k, ex, s', h3, h4⟩ := h1 rfl
   exact ⟨k, ex, s', by simp only [run, hc]; exact h3, h4⟩
 | false =>
   obtain ⟨k, ex, s', h3, h4⟩ := h2 rfl
   exact ⟨k, ex, s', by simp only [run, hc]; exact h3, h4⟩
theorem wp_if {c : Opd} {t e : AC} {p : Prop} [Decidable p] (hc : getO s.sl c = some (.d (.bool (decide p)))) (h1 : p → WP T t s N X) (h2 : ¬ p → WP T e s N X) : WP T (.cond c t e) s N X :=
 wp_cond hc (fun h => h1 (of_decide_eq_true h)) (fun h => h2 (of_decide_eq_false h))
inductive BlockX (i : Nat) (N : St → Prop) (X : Ex → St → Prop) (e : Ex) (s : St) : Prop
 | mk (h : match e with | .exit j => if j = i then N s else X (.exit j) s | e => X e s)
theorem bx_here {i : Nat} (h : N s) : BlockX i N X (.exit i) s := ⟨by simpa using h⟩
theorem bx_exit {i j : Nat} (hj : (j == i) = false) (h : X (.exit j) s) : BlockX i N X (.exit j) s := ⟨by
 have : j ≠ i := by simpa using hj
 simpa [this] using h⟩
theorem bx_ret {i : Nat} (h : X .ret s) : BlockX i N X .ret s := ⟨h⟩
theorem bx_goto {i j : Nat} (h : X (.goto j) s) : BlockX i N X (.goto j) s := ⟨h⟩
theorem bx_pan {i : Nat} {v : AV} (h : X (.pan v) s) : BlockX i N X (.pan v) s := ⟨h⟩
theorem wp_block {i : Nat} {b : AC} (h : WP T b s N (BlockX i N X)) : WP T (.block i b) s N X := by
 obtain ⟨k, e, s', h1, h2⟩ := h
 cases e with
 | nrm => exact ⟨k, .nrm, s', by simp only [run]; rw [h1], h2⟩
 | exit j =>
   obtain ⟨h2⟩ := h2
   simp only at h2
   by_cases hj : j = i
   ·rw [if_pos hj] at h2
    exact ⟨k, .nrm, s', by simp only [run]; rw [h1]; simp only; rw [if_pos hj], h2⟩
   ·rw [if_neg hj] at h2
    exact ⟨k, .exit j, s', by simp only [run]; rw [h1]; simp only; rw [if_neg hj], h2⟩
 | goto i => exact ⟨k, .goto i, s', by simp only [run]; rw [h1], h2.1⟩
 | ret => exact ⟨k, .ret, s', by simp only [run]; rw [h1], h2.1⟩
 | pan v => exact ⟨k, .pan v, s', by simp only [run]; rw [h1], h2.1⟩
inductive ScopeX (l : Nat) (J : St → Prop) (X : Ex → St → Prop) (e : Ex) (s : St) : Prop
 | mk (h : match e with | .goto i => i = l ∧ J s | e => X e s)
theorem sx_goto {l : Nat} {J : St → Prop} (h : J s) : ScopeX l J X (.goto l) s := ⟨rfl, h⟩
theorem sx_exit {l i : Nat} {J : St → Prop} (h : X (.exit i) s) : ScopeX l J X (.exit i) s := ⟨h⟩
theorem sx_ret {l : Nat} {J : St → Prop} (h : X .ret s) : ScopeX l J X .ret s := ⟨h⟩
theorem sx_pan {l : Nat} {J : St → Prop} {v : AV} (h : X (.pan v) s) : ScopeX l J X (.pan v) s := ⟨h⟩
theorem wp_label' (h : N s) : WP T .label s N X := ⟨0, .nrm, s, rfl, h⟩
theorem wp_goto' {i : Nat} (h : X (.goto i) s) : WP T (.goto i) s N X := ⟨0, .goto i, s, rfl, h⟩
theorem wp_scope {l : Nat} {b r : AC} (h : WP T b s N (ScopeX l (fun s' => WP T r s' N (ScopeX l (fun _ => False) X)) X)) : WP T (.scope l b r) s N X := by
 obtain ⟨k, e, s', h1, h2⟩ := h
 cases e with
 | nrm => exact ⟨k, .nrm, s', by simp only [run]; rw [h1], h2⟩
 | exit i => exact ⟨k, .exit i, s', by simp only [run]; rw [h1], h2.1⟩
 | ret => exact ⟨k, .ret, s', by simp only [run]; rw [h1], h2.1⟩
 | pan v => exact ⟨k, .pan v, s', by simp only [run]; rw [h1], h2.1⟩
 | goto i =>
   obtain ⟨rfl, k', e', s'', h3, h4⟩ := h2.1
   cases e' with
   | goto j => exact absurd h4.1.2 id
   | nrm => exact ⟨max k k', .nrm, s'', by simp only [run]; rw [runK h1 (Nat.le_max_left _ _)]; simp only [if_true]; rw [runK h3 (Nat.le_max_right _ _)], h4⟩
   | exit j => exact ⟨max k k', .exit j, s'', by simp only [run]; rw [runK h1 (Nat.le_max_left _ _)]; simp only [if_true]; rw [runK h3 (Nat.le_max_right _ _)], h4.1⟩
   | ret => exact ⟨max k k', .ret, s'', by simp only [run]; rw [runK h1 (Nat.le_max_left _ _)]; simp only [if_true]; rw [runK h3 (Nat.le_max_right _ _)], h4.1⟩
   | pan v => exact ⟨max k k', .pan v, s'', by simp only [run]; rw [runK h1 (Nat.le_max_left _ _)]; simp only [if_true]; rw [runK h3 (Nat.le_max_right _ _)], h4.1⟩
theorem wp_trim {keep : List Nat} {b : AC} (h : WP T b s (fun s' => N { s' with sl := s'.sl.keep keep }) X) : WP T (.trim keep b) s N X := by
 obtain ⟨k, e, s', h1, h2⟩ := h
 cases e with
 | nrm => exact ⟨k, .nrm, _, by simp only [run]; rw [h1], h2⟩
 | goto i => exact ⟨k, .goto i, s', by simp only [run]; rw [h1], h2⟩
 | exit i => exact ⟨k, .exit i, s', by simp only [run]; rw [h1], h2⟩
 | ret => exact ⟨k, .ret, s', by simp only [run]; rw [h1], h2⟩
 | pan v => exact ⟨k, .pan v, s', by simp only [run]; rw [h1], h2⟩
theorem LP.step {keep : List Nat} {n : Nat} {b : AC} (h : WP T b s (fun s' => LP T keep n b (s'.trimLoop keep n) X) X) : LP T keep n b s X := by
 obtain ⟨k, e, s', h1, h2⟩ := h
 cases e with
 | nrm =>
   obtain ⟨k', e', s'', h3, h4⟩ := h2
   refine ⟨max k k' + 1, e', s'', ?_, h4⟩
   simp only [runLoop]
   rw [runK h1 (by omega)]
   exact runLoop_mono (fun s r => fun h => runK h (by omega)) (by omega) h3
 | exit i => exact ⟨k + 1, _, s', by simp only [runLoop]; rw [runK h1 (by omega)], h2⟩
 | goto i => exact ⟨k + 1, _, s', by simp only [runLoop]; rw [runK h1 (by omega)], h2⟩
 | ret => exact ⟨k + 1, _, s', by simp only [runLoop]; rw [runK h1 (by omega)], h2⟩
 | pan v => exact ⟨k + 1, _, s', by simp only [runLoop]; rw [runK h1 (by omega)], h2⟩
theorem wp_loop0 {keep : List Nat} {b : AC} (h : LP T keep s.rf.length b (s.trimLoop keep s.rf.length) (exN N X)) : WP T (.loop keep b) s N X := by
 obtain ⟨k, e, s', h1, h2⟩ := h
 exact ⟨k, e, s', h1, h2⟩
theorem trimLoop_same {s : St} {keep : List Nat} {n : Nat} (h : s.rf.length = n) : s.trimLoop keep n = { s with sl := s.sl.keep keep } := by
 unfold St.trimLoop
 simp only
 split
 ·rw [List.take_of_length_le (by omega)]
 ·rfl
theorem wp_loop {keep : List Nat} {b : AC} (Inv : Nat → St → Prop) {m : Nat} (h0 : Inv m { s with sl := s.sl.keep keep })
  (hstep : ∀ m s', Inv m s' → s'.rf.length = s.rf.length → WP T b s' (fun s'' => s''.rf.length = s.rf.length ∧ ∃ m', m' < m ∧ Inv m' { s'' with sl := s''.sl.keep keep }) (fun e s'' => match e with | .nrm => False | e => X e s'')) :
  WP T (.loop keep b) s N X := by
 refine wp_loop0 ?_
 rw [trimLoop_same rfl]
 have key : ∀ m s', Inv m s' → s'.rf.length = s.rf.length → LP T keep s.rf.length b s' (exN N X) := by
  intro m
  induction m using Nat.strongRecOn with
  | _ m ih =>
    intro s' h hl
    refine LP.step ((hstep m s' h hl).mono (fun s'' h2 => ?_) (fun e s'' h2 => ?_))
    ·obtain ⟨h3, m', h4, h5⟩ := h2
     rw [trimLoop_same h3]
     exact ih m' h4 _ h5 h3
    ·cases e <;> first | exact h2.elim | exact h2
 exact key m _ h0 rfl
/-! operations -/
def C0 : CallFn := fun _ _ _ => none
theorem C0_le (C : CallFn) : CLe C0 C := fun f a rf r h => by simp [C0] at h
theorem op_nil (h : N s) : OP T [] s N X := ⟨0, .nrm, s, rfl, h⟩
theorem op_val {d : Option Nat} {o : AOpk} {g : Option (Nat × Bool)} {may : Bool} {r : List AOp} {v : AV} {s' : St} (hg : wantedA s g = some true) (hs : stepOp C0 s o = some (.val v s')) (h : OP T r (putO s' d v) N X) :
  OP T (⟨d, o, g, may⟩ :: r) s N X := by
 obtain ⟨k, e, s', h1, h2⟩ := h
 refine ⟨k, e, s', ?_, h2⟩
 simp only [runOps, hg]
 rw [stepOp_mono (C0_le _) hs]
 exact h1
theorem op_none {d : Option Nat} {o : AOpk} {g : Option (Nat × Bool)} {may : Bool} {r : List AOp} {s' : St} (hg : wantedA s g = some true) (hs : stepOp C0 s o = some (.none_ s')) (h : OP T r s' N X) :
  OP T (⟨d, o, g, may⟩ :: r) s N X := by
 obtain ⟨k, e, s', h1, h2⟩ := h
 refine ⟨k, e, s', ?_, h2⟩
 simp only [runOps, hg]
 rw [stepOp_mono (C0_le _) hs]
 exact h1
theorem op_pan {d : Option Nat} {o : AOpk} {g : Option (Nat × Bool)} {r : List AOp} {v : AV} {s' : St} (hg : wantedA s g = some true) (hs : stepOp C0 s o = some (.pan v s')) (h : X (.pan v) s') :
  OP T (⟨d, o, g, true⟩ :: r) s N X := by
 refine ⟨0, .pan v, s', ?_, h⟩
 simp only [runOps, hg]
 rw [stepOp_mono (C0_le _) hs]
 rfl
theorem op_off {d : Option Nat} {o : AOpk} {g : Option (Nat × Bool)} {may : Bool} {r : List AOp} (hg : wantedA s g = some false) (h : OP T r (putO s d (.tup [])) N X) :
  OP T (⟨d, o, g, may⟩ :: r) s N X := by
 obtain ⟨k, e, s', h1, h2⟩ := h
 exact ⟨k, e, s', by simp only [runOps, hg]; exact h1, h2⟩
theorem opsK {l : List AOp} {s : St} {r} {k k' : Nat} (h : runOps (T.C k) l s = some r) (hk : k ≤ k') : runOps (T.C k') l s = some r := runOps_mono (call_le hk) h
theorem op_call {d : Option Nat} {f : Opd} {as : List Opd} {g : Option (Nat × Bool)} {may : Bool} {r : List AOp} {id : FuncId} {first cap vs : List AV} {v : AV} {rf' : Refs} (hg : wantedA s g = some true)
  (hf : getO s.sl f = some (.fn (.func id) first cap)) (ha : getOs s.sl as = some vs) (he : Ev T id (AV.bargs (first ++ vs ++ cap)) s.rf (.ret v) rf') (h : OP T r (putO { s with rf := rf' } d v) N X) :
  OP T (⟨d, .call f as, g, may⟩ :: r) s N X := by
 obtain ⟨k, e, s', h1, h2⟩ := h
 obtain ⟨k', h3⟩ := he
 refine ⟨max k k', e, s', ?_, h2⟩
 simp only [runOps, hg, stepOp, hf, ha]
 rw [Tb.le h3 (Nat.le_max_right k k')]
 exact opsK h1 (Nat.le_max_left _ _)
theorem op_callp {d : Option Nat} {f : Opd} {as : List Opd} {g : Option (Nat × Bool)} {r : List AOp} {id : FuncId} {first cap vs : List AV} {v : AV} {rf' : Refs} (hg : wantedA s g = some true)
  (hf : getO s.sl f = some (.fn (.func id) first cap)) (ha : getOs s.sl as = some vs) (he : Ev T id (AV.bargs (first ++ vs ++ cap)) s.rf (.pan v) rf') (h : X (.pan v) { s with rf := rf' }) :
  OP T (⟨d, .call f as, g, true⟩ :: r) s N X := by
 obtain ⟨k', h3⟩ := he
 refine ⟨k', .pan v, { s with rf := rf' }, ?_, h⟩
 simp only [runOps, hg, stepOp, hf, ha]
 rw [h3]
 rfl
theorem op_callZ {d : Option Nat} {f : Opd} {as : List Opd} {g : Option (Nat × Bool)} {may : Bool} {r : List AOp} {id : FuncId} {first cap vs : List AV} {v : AV} {rf' : Refs} (hg : wantedA s g = some true)
  (hf : getO s.sl f = some (.fn (.func id) first cap)) (ha : getOs s.sl as = some vs) (hz : AV.refBs (AV.bargs (first ++ vs ++ cap)) = 0) (he : Ev T id (AV.bargs (first ++ vs ++ cap)) [] (.ret v) rf') (h : OP T r (putO s d v) N X) :
  OP T (⟨d, .callZ f as, g, may⟩ :: r) s N X := by
 obtain ⟨k, e, s', h1, h2⟩ := h
 obtain ⟨k', h3⟩ := he
 refine ⟨max k k', e, s', ?_, h2⟩
 simp only [runOps, hg, stepOp, hf, ha]
 rw [if_pos hz, Tb.le h3 (Nat.le_max_right k k')]
 exact opsK h1 (Nat.le_max_left _ _)
theorem op_callQ {d : Option Nat} {f : Opd} {as : List Opd} {g : Option (Nat × Bool)} {may : Bool} {r : List AOp} {id : FuncId} {first cap vs : List AV} {v : AV} {rf' : Refs} (hg : wantedA s g = some true)
  (hf : getO s.sl f = some (.fn (.func id) first cap)) (ha : getOs s.sl as = some vs) (he : Ev T id (AV.bargs (first ++ vs ++ cap)) s.rf (.ret v) rf') (hz : sameRf rf' s.rf = true) (h : OP T r (putO s d v) N X) :
  OP T (⟨d, .callQ f as, g, may⟩ :: r) s N X := by
 obtain ⟨k, e, s', h1, h2⟩ := h
 obtain ⟨k', h3⟩ := he
 refine ⟨max k k', e, s', ?_, h2⟩
 simp only [runOps, hg, stepOp, hf, ha]
 rw [Tb.le h3 (Nat.le_max_right k k')]
 simp only [hz, if_true]
 exact opsK h1 (Nat.le_max_left _ _)
/-! calls -/
inductive EndX (af : AFn) (n : Nat) (o : Out) (rf' : Refs) : Ex → St → Prop
 | nrm {s : St} {v : AV} (hd : s.df = []) (hv : resOf s af.keep af.res = some v) (hb : v.refB ≤ n) (ho : o = .ret v) (hr : rf' = s.rf.take n) : EndX af n o rf' .nrm s
 | ret {s : St} {v : AV} (hd : s.df = []) (hv : resOf s af.keep af.res = some v) (hb : v.refB ≤ n) (ho : o = .ret v) (hr : rf' = s.rf.take n) : EndX af n o rf' .ret s
 | pan {s : St} {v : AV} (hd : s.df = []) (hb : v.refB ≤ n) (ho : o = .pan v.bare) (hr : rf' = s.rf.take n) : EndX af n o rf' (.pan v) s
theorem ev_call {f : FuncId} {args : List AV} {rf : Refs} {o : Out} {rf' : Refs} {af : AFn} (ho : T.orc f args = none) (hf : T.tab f = some af)
  (h : WP T af.body { sl := enterS args 0, rf := rf, nb := rf.length } (EndX af rf.length o rf' .nrm) (EndX af rf.length o rf')) : Ev T f args rf o rf' := by
 obtain ⟨k, e, s', h1, h2⟩ := h
 refine ⟨k + 1, ?_⟩
 simp only [Tb.C, call, ho, hf]
 rw [h1]
 cases e with
 | nrm =>
   cases h2 with | nrm h3 h4 h5 h6 h7 => subst h6 h7; simp only [h3, leave, h4]; rw [if_pos h5]
 | ret =>
   cases h2 with | ret h3 h4 h5 h6 h7 => subst h6 h7; simp only [h3, leave, h4]; rw [if_pos h5]
 | pan v =>
   cases h2 with | pan h3 h5 h6 h7 => subst h6 h7; simp only [h3, leave]; rw [if_pos h5]
 | exit i => cases h2
 | goto i => cases h2
theorem ev_orc {f : FuncId} {args : List AV} {rf : Refs} {v : AV} (ho : T.orc f args = some v) : Ev T f args rf (.ret v) rf := ⟨1, by simp only [Tb.C, call, ho]⟩
end
end Go.Ab
namespace Go.Ab
section
variable {T : Tb} {sl : Slots} {rf : Refs} {df : List (AV × List AV)} {pn : Option (Option AV)} {nb : Nat} {N : St → Prop} {X : Ex → St → Prop} {r : List AOp} {d : Nat} {g : Option (Nat × Bool)} {may : Bool}
def wantedL (sl : Slots) : Option (Nat × Bool) → Option Bool
 | none => some true
 | some (t, b) => match sl.get t with
   | some (.d (.bool x)) => some (x == b)
   | some (.tup []) => some false
   | _ => none
theorem wantedL_eq (s : St) : ∀ g, wantedA s g = wantedL s.sl g
 | none => rfl
 | some (_, _) => rfl
theorem o_off {o : AOpk} (hg : wantedL sl g = some false) (h : OP T r ⟨(d, .tup []) :: sl, rf, df, pn, nb⟩ N X) : OP T (⟨some d, o, g, may⟩ :: r) ⟨sl, rf, df, pn, nb⟩ N X :=
 op_off ((wantedL_eq _ _).trans hg) h
theorem o_offn {o : AOpk} (hg : wantedL sl g = some false) (h : OP T r ⟨sl, rf, df, pn, nb⟩ N X) : OP T (⟨none, o, g, may⟩ :: r) ⟨sl, rf, df, pn, nb⟩ N X :=
 op_off ((wantedL_eq _ _).trans hg) h
theorem o_pure {o : AOpk} {v : AV} (hg : wantedL sl g = some true) (hs : stepOp C0 ⟨sl, rf, df, pn, nb⟩ o = some (.val v ⟨sl, rf, df, pn, nb⟩)) (h : OP T r ⟨(d, v) :: sl, rf, df, pn, nb⟩ N X) : OP T (⟨some d, o, g, may⟩ :: r) ⟨sl, rf, df, pn, nb⟩ N X :=
 op_val ((wantedL_eq _ _).trans hg) hs h
theorem o_movd {x : Opd} {y : D} (hg : wantedL sl g = some true) (hx : getO sl x = some (.d y)) (h : OP T r ⟨(d, .d y) :: sl, rf, df, pn, nb⟩ N X) : OP T (⟨some d, .mov x, g, may⟩ :: r) ⟨sl, rf, df, pn, nb⟩ N X :=
 o_pure hg (by simp only [stepOp, hx]; rfl) h
theorem o_movp {x : Opd} {a b : Nat} (hg : wantedL sl g = some true) (hx : getO sl x = some (.ptr a b)) (h : OP T r ⟨(d, .ptr a b) :: sl, rf, df, pn, nb⟩ N X) : OP T (⟨some d, .mov x, g, may⟩ :: r) ⟨sl, rf, df, pn, nb⟩ N X :=
 o_pure hg (by simp only [stepOp, hx]; rfl) h
theorem o_mova {x : Opd} {y : List AV} (hg : wantedL sl g = some true) (hx : getO sl x = some (.agg y)) (h : OP T r ⟨(d, .agg y) :: sl, rf, df, pn, nb⟩ N X) : OP T (⟨some d, .mov x, g, may⟩ :: r) ⟨sl, rf, df, pn, nb⟩ N X :=
 o_pure hg (by simp only [stepOp, hx]; rfl) h
theorem o_mov {x : Opd} {v : AV} (hg : wantedL sl g = some true) (hx : getO sl x = some v) (h : OP T r ⟨(d, v) :: sl, rf, df, pn, nb⟩ N X) : OP T (⟨some d, .mov x, g, may⟩ :: r) ⟨sl, rf, df, pn, nb⟩ N X :=
 o_pure hg (by simp only [stepOp, hx]; rfl) h
theorem o_asgd {x : Opd} {y : D} (hg : wantedL sl g = some true) (hx : rawO sl x = some (.d y)) (h : OP T r ⟨(d, .d y) :: sl, rf, df, pn, nb⟩ N X) : OP T (⟨some d, .asg x, g, may⟩ :: r) ⟨sl, rf, df, pn, nb⟩ N X := by
 refine o_pure hg ?_ h
 simp only [stepOp, hx]
 cases x with
 | t n => simp only [rawO] at hx; simp only [unOwn, hx]
 | _ => rfl
theorem unOwn_ne {s : St} {x : Opd} {v : AV} (hx : rawO s.sl x = some v) (hv : ∀ es, v ≠ .own es) : unOwn s x = s := by
 cases x with
 | t n =>
   simp only [rawO] at hx
   simp only [unOwn, hx]
   split
   ·rename_i es e; cases e; exact absurd rfl (hv es)
   ·rfl
 | _ => rfl
theorem o_asg {x : Opd} {v : AV} (hg : wantedL sl g = some true) (hx : rawO sl x = some v) (hv : ∀ es, v ≠ .own es) (h : OP T r ⟨(d, v) :: sl, rf, df, pn, nb⟩ N X) : OP T (⟨some d, .asg x, g, may⟩ :: r) ⟨sl, rf, df, pn, nb⟩ N X := by
 refine o_pure hg ?_ h
 simp only [stepOp, hx]
 rw [unOwn_ne hx hv]
theorem o_asgo {t : Nat} {es : List (List D)} (hg : wantedL sl g = some true) (hx : sl.get t = some (.own es)) (h : OP T r ⟨(d, .own es) :: (t, .d (.lst es)) :: sl, rf, df, pn, nb⟩ N X) : OP T (⟨some d, .asg (.t t), g, may⟩ :: r) ⟨sl, rf, df, pn, nb⟩ N X := by
 refine op_val (v := .own es) (s' := ⟨(t, .d (.lst es)) :: sl, rf, df, pn, nb⟩) ((wantedL_eq _ _).trans hg) (by simp only [stepOp, rawO, hx, unOwn]; rfl) h
theorem o_take {t : Nat} {v : AV} (hg : wantedL sl g = some true) (hx : sl.get t = some v) (hv : ∀ es, v ≠ .own es) (h : OP T r ⟨(d, v) :: sl, rf, df, pn, nb⟩ N X) : OP T (⟨some d, .take t, g, may⟩ :: r) ⟨sl, rf, df, pn, nb⟩ N X := by
 refine o_pure hg ?_ h
 simp only [stepOp, hx]
 rw [unOwn_ne (v := v) (by simpa [rawO] using hx) hv]
theorem o_takeo {t : Nat} {es : List (List D)} (hg : wantedL sl g = some true) (hx : sl.get t = some (.own es)) (h : OP T r ⟨(d, .own es) :: (t, .d (.lst es)) :: sl, rf, df, pn, nb⟩ N X) : OP T (⟨some d, .take t, g, may⟩ :: r) ⟨sl, rf, df, pn, nb⟩ N X := by
 refine op_val (v := .own es) (s' := ⟨(t, .d (.lst es)) :: sl, rf, df, pn, nb⟩) ((wantedL_eq _ _).trans hg) (by simp only [stepOp, hx, unOwn]; rfl) h
theorem o_pickt {c a b : Opd} {v : AV} (hg : wantedL sl g = some true) (hc : getO sl c = some (.d (.bool true))) (hx : getO sl a = some v) (h : OP T r ⟨(d, v) :: sl, rf, df, pn, nb⟩ N X) : OP T (⟨some d, .pick c a b, g, may⟩ :: r) ⟨sl, rf, df, pn, nb⟩ N X :=
 o_pure hg (by simp only [stepOp, hc, if_true, hx]; rfl) h
theorem o_pickf {c a b : Opd} {v : AV} (hg : wantedL sl g = some true) (hc : getO sl c = some (.d (.bool false))) (hx : getO sl b = some v) (h : OP T r ⟨(d, v) :: sl, rf, df, pn, nb⟩ N X) : OP T (⟨some d, .pick c a b, g, may⟩ :: r) ⟨sl, rf, df, pn, nb⟩ N X :=
 o_pure hg (by simp only [stepOp, hc, hx]; rfl) h
theorem o_bin {op : BinOp} {x y : Opd} {a b v : AV} (hg : wantedL sl g = some true) (hx : getO sl x = some a) (hy : getO sl y = some b) (hv : binA op a b = some v) (h : OP T r ⟨(d, v) :: sl, rf, df, pn, nb⟩ N X) : OP T (⟨some d, .bin op x y, g, may⟩ :: r) ⟨sl, rf, df, pn, nb⟩ N X :=
 o_pure hg (by simp only [stepOp, hx, hy, hv]; rfl) h
theorem wrap_of {k : IntKind} {x : Int} (h1 : k.min ≤ x) (h2 : x ≤ k.max) : k.wrap x = x := by
 cases k <;> simp [IntKind.min, IntKind.max, IntKind.signed, IntKind.bits, IntKind.wrap] at * <;> (try split) <;> omega
theorem wrap64_of {x : Int} (h1 : -9223372036854775808 ≤ x) (h2 : x ≤ 9223372036854775807) : IntKind.i64.wrap x = x :=
 wrap_of (by simpa [IntKind.min, IntKind.signed, IntKind.bits] using h1) (by simpa [IntKind.max, IntKind.signed, IntKind.bits] using h2)
theorem wrap8_of {x : Int} (h1 : 0 ≤ x) (h2 : x ≤ 255) : IntKind.u8.wrap x = x :=
 wrap_of (by simpa [IntKind.min, IntKind.signed, IntKind.bits] using h1) (by simpa [IntKind.max, IntKind.signed, IntKind.bits] using h2)
theorem wrapU64_of {x : Int} (h1 : 0 ≤ x) (h2 : x ≤ 18446744073709551615) : IntKind.u64.wrap x = x :=
 wrap_of (by simpa [IntKind.min, IntKind.signed, IntKind.bits] using h1) (by simpa [IntKind.max, IntKind.signed, IntKind.bits] using h2)
theorem o_add {x y : Opd} {a b c : Int} (hg : wantedL sl g = some true) (hx : getO sl x = some (.d (.int .i64 a))) (hy : getO sl y = some (.d (.int .i64 b))) (hc : a + b = c) (h1 : -9223372036854775808 ≤ c) (h2 : c ≤ 9223372036854775807)
  (h : OP T r ⟨(d, .d (.int .i64 c)) :: sl, rf, df, pn, nb⟩ N X) : OP T (⟨some d, .bin .add x y, g, may⟩ :: r) ⟨sl, rf, df, pn, nb⟩ N X := by
 refine o_bin hg hx hy (v := .d (.int .i64 c)) ?_ h
 show some _ = _
 rw [hc, wrap64_of h1 h2]
theorem o_sub {x y : Opd} {a b c : Int} (hg : wantedL sl g = some true) (hx : getO sl x = some (.d (.int .i64 a))) (hy : getO sl y = some (.d (.int .i64 b))) (hc : a - b = c) (h1 : -9223372036854775808 ≤ c) (h2 : c ≤ 9223372036854775807)
  (h : OP T r ⟨(d, .d (.int .i64 c)) :: sl, rf, df, pn, nb⟩ N X) : OP T (⟨some d, .bin .sub x y, g, may⟩ :: r) ⟨sl, rf, df, pn, nb⟩ N X := by
 refine o_bin hg hx hy (v := .d (.int .i64 c)) ?_ h
 show some _ = _
 rw [hc, wrap64_of h1 h2]
theorem o_toInt {k k' : IntKind} {x : Opd} {a : Int} (hg : wantedL sl g = some true) (hx : getO sl x = some (.d (.int k' a))) (h1 : k.min ≤ a) (h2 : a ≤ k.max)
  (h : OP T r ⟨(d, .d (.int k a)) :: sl, rf, df, pn, nb⟩ N X) : OP T (⟨some d, .toInt k x, g, may⟩ :: r) ⟨sl, rf, df, pn, nb⟩ N X := by
 refine o_pure hg ?_ h
 simp only [stepOp, hx, vl, Option.map, wrap_of h1 h2]
theorem o_idxS {x i : Opd} {l : List UInt8} {k : IntKind} {n : Int} {m : Nat} {b : UInt8} (hg : wantedL sl g = some true) (hx : getO sl x = some (.d (.str l))) (hi : getO sl i = some (.d (.int k n))) (hn : n = (m : Int)) (hb : l[m]? = some b)
  (h : OP T r ⟨(d, .d (.int .u8 b.toNat)) :: sl, rf, df, pn, nb⟩ N X) : OP T (⟨some d, .idxS x i, g, may⟩ :: r) ⟨sl, rf, df, pn, nb⟩ N X := by
 refine o_pure hg ?_ h
 subst hn
 simp only [stepOp, hx, hi]
 rw [if_neg (by omega)]
 simp only [Int.toNat_natCast, hb, vl, Option.map]
theorem o_lenS {x : Opd} {l : List UInt8} (hg : wantedL sl g = some true) (hx : getO sl x = some (.d (.str l))) (h : OP T r ⟨(d, .d (.int .i64 l.length)) :: sl, rf, df, pn, nb⟩ N X) : OP T (⟨some d, .lenS x, g, may⟩ :: r) ⟨sl, rf, df, pn, nb⟩ N X :=
 o_pure hg (by simp only [stepOp, hx]; rfl) h
theorem o_sliceS {x : Opd} {lo hi : Option Opd} {l : List UInt8} {i j : Nat} (hg : wantedL sl g = some true) (hx : getO sl x = some (.d (.str l))) (hi' : asIdx sl lo 0 = some i) (hj : asIdx sl hi l.length = some j) (h1 : i ≤ j) (h2 : j ≤ l.length)
  (h : OP T r ⟨(d, .d (.str ((l.take j).drop i))) :: sl, rf, df, pn, nb⟩ N X) : OP T (⟨some d, .sliceS x lo hi, g, may⟩ :: r) ⟨sl, rf, df, pn, nb⟩ N X := by
 refine o_pure hg ?_ h
 simp only [stepOp, hx, hi', hj]
 rw [if_pos ⟨h1, h2⟩]
 rfl
theorem o_call {f : Opd} {as : List Opd} {id : FuncId} {vs : List AV} {v : AV} {rf' : Refs} (hg : wantedL sl g = some true) (hf : getO sl f = some (.fn (.func id) [] [])) (ha : (getOs sl as).map AV.bargs = some vs)
  (he : Ev T id vs rf (.ret v) rf') (h : OP T r ⟨(d, v) :: sl, rf', df, pn, nb⟩ N X) : OP T (⟨some d, .call f as, g, may⟩ :: r) ⟨sl, rf, df, pn, nb⟩ N X := by
 cases hh : getOs sl as with
 | none => rw [hh] at ha; cases ha
 | some us =>
   rw [hh] at ha
   cases ha
   exact op_call (s := ⟨sl, rf, df, pn, nb⟩) ((wantedL_eq _ _).trans hg) hf hh (by simpa using he) h
theorem o_calln {f : Opd} {as : List Opd} {id : FuncId} {vs : List AV} {v : AV} {rf' : Refs} (hg : wantedL sl g = some true) (hf : getO sl f = some (.fn (.func id) [] [])) (ha : (getOs sl as).map AV.bargs = some vs)
  (he : Ev T id vs rf (.ret v) rf') (h : OP T r ⟨sl, rf', df, pn, nb⟩ N X) : OP T (⟨none, .call f as, g, may⟩ :: r) ⟨sl, rf, df, pn, nb⟩ N X := by
 cases hh : getOs sl as with
 | none => rw [hh] at ha; cases ha
 | some us =>
   rw [hh] at ha
   cases ha
   exact op_call (s := ⟨sl, rf, df, pn, nb⟩) (d := none) ((wantedL_eq _ _).trans hg) hf hh (by simpa using he) h
theorem o_split {l : List AOp} {t : Nat} {b : Bool} (ht : sl.get t = some (.d (.bool b))) (h1 : b = true → OP T l ⟨sl, rf, df, pn, nb⟩ N X) (h2 : b = false → OP T l ⟨sl, rf, df, pn, nb⟩ N X) : OP T l ⟨sl, rf, df, pn, nb⟩ N X := by
 cases b
 ·exact h2 rfl
 ·exact h1 rfl
theorem end_ret {af : AFn} {n : Nat} {v : AV} {rf' : Refs} (hv : resOf ⟨sl, rf, df, pn, nb⟩ af.keep af.res = some v) (hd : df = []) (hb : v.refB ≤ n) (hr : rf.take n = rf') : EndX af n (.ret v) rf' .ret ⟨sl, rf, df, pn, nb⟩ :=
 .ret hd hv hb rfl hr.symm
theorem end_nrm {af : AFn} {n : Nat} {v : AV} {rf' : Refs} (hv : resOf ⟨sl, rf, df, pn, nb⟩ af.keep af.res = some v) (hd : df = []) (hb : v.refB ≤ n) (hr : rf.take n = rf') : EndX af n (.ret v) rf' .nrm ⟨sl, rf, df, pn, nb⟩ :=
 .nrm hd hv hb rfl hr.symm
/-! references -/
theorem o_box {x : Opd} {v : AV} {cs : List AV} (hg : wantedL sl g = some true) (hx : getO sl x = some v) (hs : v.solid = true) (hc : v.cells = cs) (h : OP T r ⟨(d, .ptr rf.length 0) :: sl, rf ++ [cs], df, pn, nb⟩ N X) : OP T (⟨some d, .box x, g, may⟩ :: r) ⟨sl, rf, df, pn, nb⟩ N X := by
 subst hc
 refine op_val (v := .ptr rf.length 0) (s' := ⟨sl, rf ++ [v.cells], df, pn, nb⟩) ((wantedL_eq _ _).trans hg) ?_ h
 simp only [stepOp, hx, hs, if_true]
theorem o_alloc {cs : List AV} (hg : wantedL sl g = some true) (h : OP T r ⟨(d, .ptr rf.length 0) :: sl, rf ++ [cs], df, pn, nb⟩ N X) : OP T (⟨some d, .alloc cs, g, may⟩ :: r) ⟨sl, rf, df, pn, nb⟩ N X :=
 op_val (v := .ptr rf.length 0) (s' := ⟨sl, rf ++ [cs], df, pn, nb⟩) ((wantedL_eq _ _).trans hg) rfl h
theorem o_load {a : Opd} {q off : Nat} {cs : List AV} {y : D} (hg : wantedL sl g = some true) (ha : getO sl a = some (.ptr q off)) (hr : rf[q]? = some cs) (hc : cs[off]? = some (.d y)) (h : OP T r ⟨(d, .d y) :: sl, rf, df, pn, nb⟩ N X) :
  OP T (⟨some d, .load none a, g, may⟩ :: r) ⟨sl, rf, df, pn, nb⟩ N X :=
 o_pure hg (by simp only [stepOp, ha, loadAt, hr, hc]; rfl) h
theorem o_loadv {a : Opd} {q off : Nat} {cs : List AV} {y z : AV} (hg : wantedL sl g = some true) (ha : getO sl a = some (.ptr q off)) (hr : rf[q]? = some cs) (hc : cs[off]? = some y) (hz : y.strip = z) (h : OP T r ⟨(d, z) :: sl, rf, df, pn, nb⟩ N X) :
  OP T (⟨some d, .load none a, g, may⟩ :: r) ⟨sl, rf, df, pn, nb⟩ N X :=
 o_pure hg (by subst hz; simp only [stepOp, ha, loadAt, hr, hc]; rfl) h
theorem o_loada {a : Opd} {q off n : Nat} {cs zs : List AV} (hg : wantedL sl g = some true) (ha : getO sl a = some (.ptr q off)) (hr : rf[q]? = some cs) (hn : off + n ≤ cs.length) (hz : AV.strips ((cs.drop off).take n) = zs) (h : OP T r ⟨(d, .agg zs) :: sl, rf, df, pn, nb⟩ N X) :
  OP T (⟨some d, .load (some n) a, g, may⟩ :: r) ⟨sl, rf, df, pn, nb⟩ N X :=
 o_pure hg (by subst hz; simp only [stepOp, ha, loadAt, Refs.cellsAt, hr, if_pos hn]; rfl) h
theorem o_loade {a : Opd} {off : Nat} {cs : List D} {y : D} (hg : wantedL sl g = some true) (ha : getO sl a = some (.ept cs off)) (hc : cs[off]? = some y) (h : OP T r ⟨(d, .d y) :: sl, rf, df, pn, nb⟩ N X) :
  OP T (⟨some d, .load none a, g, may⟩ :: r) ⟨sl, rf, df, pn, nb⟩ N X :=
 o_pure hg (by simp only [stepOp, ha, loadAt, hc]; rfl) h
theorem o_loadea {a : Opd} {off n : Nat} {cs : List D} {zs : List AV} (hg : wantedL sl g = some true) (ha : getO sl a = some (.ept cs off)) (hn : off + n ≤ cs.length) (hz : ((cs.drop off).take n).map AV.d = zs) (h : OP T r ⟨(d, .agg zs) :: sl, rf, df, pn, nb⟩ N X) :
  OP T (⟨some d, .load (some n) a, g, may⟩ :: r) ⟨sl, rf, df, pn, nb⟩ N X := by
 refine o_pure hg ?_ h
 subst hz
 have hst : ∀ l : List D, AV.strips (l.map AV.d) = l.map AV.d := fun l => by
  induction l with
  | nil => rfl
  | cons x l ih => simp only [List.map_cons, AV.strips, AV.strip, ih]
 simp only [stepOp, ha, loadAt, if_pos hn, vl, Option.map, AV.strip, hst]
theorem storeAt_of {rf : Refs} {nb sz q off : Nat} {v : AV} {cs zs us : List AV} (hz : v.cellsO = zs) (hl : zs.length = sz) (ho : zs.all AV.one = true) (hr : rf[q]? = some cs) (hn : off + sz ≤ cs.length) (hb : AV.refBs zs ≤ q + 1 ∨ nb ≤ q) (hu : setRange cs off zs = us) :
  storeAt rf nb sz (.ptr q off) v = some (rf.set q us) := by
 subst hz hu
 unfold storeAt
 simp only [hr]
 rw [if_neg (by rw [hl, ho]; simp), if_pos ⟨hn, hb⟩]
theorem o_store {a x : Opd} {sz q off : Nat} {v : AV} {cs zs us : List AV} (hg : wantedL sl g = some true) (ha : getO sl a = some (.ptr q off)) (hx : rawO sl x = some v) (hv : ∀ es, v ≠ .own es) (hz : v.cellsO = zs) (hl : zs.length = sz) (ho : zs.all AV.one = true)
  (hr : rf[q]? = some cs) (hn : off + sz ≤ cs.length) (hb : AV.refBs zs ≤ q + 1 ∨ nb ≤ q) (hu : setRange cs off zs = us) (h : OP T r ⟨sl, rf.set q us, df, pn, nb⟩ N X) :
  OP T (⟨none, .store sz a x, g, may⟩ :: r) ⟨sl, rf, df, pn, nb⟩ N X := by
 refine op_none (s' := ⟨sl, rf.set q us, df, pn, nb⟩) ((wantedL_eq _ _).trans hg) ?_ h
 simp only [stepOp, ha, hx]
 rw [storeAt_of hz hl ho hr hn hb hu]
 simp only
 rw [unOwn_ne (v := v) (by simpa using hx) hv]
theorem o_fldA {off q o' : Nat} {x : Opd} (hg : wantedL sl g = some true) (hx : getO sl x = some (.ptr q o')) (h : OP T r ⟨(d, .ptr q (o' + off)) :: sl, rf, df, pn, nb⟩ N X) : OP T (⟨some d, .fldA off x, g, may⟩ :: r) ⟨sl, rf, df, pn, nb⟩ N X :=
 o_pure hg (by simp only [stepOp, hx]; rfl) h
theorem o_idxA {m sz q o' j : Nat} {x i : Opd} {k : IntKind} {n : Int} (hg : wantedL sl g = some true) (hi : getO sl i = some (.d (.int k n))) (hx : getO sl x = some (.ptr q o')) (hn : n = (j : Int)) (hj : j < m) (h : OP T r ⟨(d, .ptr q (o' + j * sz)) :: sl, rf, df, pn, nb⟩ N X) :
  OP T (⟨some d, .idxA (some m) sz x i, g, may⟩ :: r) ⟨sl, rf, df, pn, nb⟩ N X := by
 refine o_pure hg ?_ h
 subst hn
 simp only [stepOp, hi, hx]
 rw [if_neg (by omega), if_pos (by omega)]
 rfl
theorem o_idxL {sz j : Nat} {x i : Opd} {k : IntKind} {n : Int} {v : AV} {es : List (List D)} {cs : List D} (hg : wantedL sl g = some true) (hi : getO sl i = some (.d (.int k n))) (hx : getO sl x = some v) (hl : v.list? = some es) (hn : n = (j : Int)) (hj : es[j]? = some cs) (hc : cs.length = sz)
  (h : OP T r ⟨(d, .ept cs 0) :: sl, rf, df, pn, nb⟩ N X) : OP T (⟨some d, .idxA none sz x i, g, may⟩ :: r) ⟨sl, rf, df, pn, nb⟩ N X := by
 refine o_pure hg ?_ h
 subst hn
 simp only [stepOp, hi, hx]
 rw [if_neg (by omega)]
 simp only [hl, Int.toNat_natCast, hj, hc, if_true]
 rfl
theorem o_len {x : Opd} {v : AV} {es : List (List D)} (hg : wantedL sl g = some true) (hx : getO sl x = some v) (hl : v.list? = some es) (h : OP T r ⟨(d, .d (.int .i64 es.length)) :: sl, rf, df, pn, nb⟩ N X) : OP T (⟨some d, .len x, g, may⟩ :: r) ⟨sl, rf, df, pn, nb⟩ N X := by
 refine o_pure hg ?_ h
 simp only [stepOp, hx]
 cases v <;> simp [AV.list?] at hl <;> first | (subst hl; rfl) | skip
 rename_i x
 cases x <;> simp [AV.list?] at hl
 subst hl
 rfl
theorem end_pan {af : AFn} {n : Nat} {v : AV} {rf' : Refs} (hd : df = []) (hb : v.refB ≤ n) (hr : rf.take n = rf') : EndX af n (.pan v.bare) rf' (.pan v) ⟨sl, rf, df, pn, nb⟩ :=
 .pan hd hb rfl hr.symm
end
end Go.Ab
namespace Go.Ab
theorem m64 : IntKind.i64.max = 9223372036854775807 := rfl
theorem mU : IntKind.u64.max = 18446744073709551615 := rfl
theorem m8 : IntKind.u8.max = 255 := rfl
theorem n64 : IntKind.i64.min = -9223372036854775808 := rfl
theorem nU : IntKind.u64.min = 0 := rfl
theorem n8 : IntKind.u8.min = 0 := rfl
theorem b64 : IntKind.i64.bits = 64 := rfl
theorem bU : IntKind.u64.bits = 64 := rfl
theorem b8 : IntKind.u8.bits = 8 := rfl
theorem mm : IntKind.i64.max = 9223372036854775807 ∧ IntKind.u64.max = 18446744073709551615 ∧ IntKind.u8.max = 255 ∧ IntKind.i64.min = -9223372036854775808 ∧ IntKind.u64.min = 0 ∧ IntKind.u8.min = 0 ∧ IntKind.i64.bits = 64 ∧ IntKind.u64.bits = 64 ∧ IntKind.u8.bits = 8 := ⟨m64, mU, m8, n64, nU, n8, b64, bU, b8⟩
theorem toInt_ofInt_nat {w x : Nat} (h : x < 2 ^ w) : (BitVec.ofInt w (x : Int)).toNat = x := by
 rw [BitVec.ofInt_natCast, BitVec.toNat_ofNat, Nat.mod_eq_of_lt h]
theorem bn_quo {k : IntKind} {a b : Nat} (ha : (a : Int) ≤ k.max) (hk : k.min ≤ 0) (hb : b ≠ 0) : binA .quo (.d (.int k a)) (.d (.int k b)) = some (.d (.int k ((a / b : Nat) : Int))) := by
 simp only [binA, intBin, if_true]
 rw [if_neg (by omega), ← Int.ofNat_tdiv, wrap_of (by have := Int.natCast_nonneg (a / b); omega) (by have := Nat.div_le_self a b; omega)]
theorem bn_rem {k : IntKind} {a b : Nat} (hb : b ≠ 0) : binA .rem (.d (.int k a)) (.d (.int k b)) = some (.d (.int k ((a % b : Nat) : Int))) := by
 simp only [binA, intBin, if_true]
 rw [if_neg (by omega), ← Int.ofNat_tmod]
theorem bn_shr {k k' : IntKind} {a b : Nat} (hb : b ≤ k.bits) : binA .shr (.d (.int k a)) (.d (.int k' b)) = some (.d (.int k ((a / 2 ^ b : Nat) : Int))) := by
 simp only [binA]
 rw [if_neg (by omega)]
 have h1 : Nat.min (b : Int).toNat k.bits = b := by
  show min (b : Int).toNat k.bits = b
  rw [Int.toNat_natCast]; omega
 have h2 : (2 : Int) ^ b = ((2 ^ b : Nat) : Int) := by simp
 rw [h1, h2, Int.fdiv_eq_ediv_of_nonneg _ (Int.natCast_nonneg _)]
 rfl
theorem bn_shl {k k' : IntKind} {a b : Nat} (hb : b ≤ k.bits) (hk : k.min ≤ 0) (hm : ((a * 2 ^ b : Nat) : Int) ≤ k.max) : binA .shl (.d (.int k a)) (.d (.int k' b)) = some (.d (.int k ((a * 2 ^ b : Nat) : Int))) := by
 simp only [binA]
 rw [if_neg (by omega)]
 have h1 : Nat.min (b : Int).toNat k.bits = b := by
  show min (b : Int).toNat k.bits = b
  rw [Int.toNat_natCast]; omega
 have h2 : (2 : Int) ^ b = ((2 ^ b : Nat) : Int) := by simp
 rw [h1, h2, ← Int.natCast_mul, wrap_of (by have := Int.natCast_nonneg (a * 2 ^ b); omega) hm]
theorem wrap_bits {k : IntKind} {x : Nat} (hk : k.min ≤ 0) (h : (x : Int) ≤ k.max) : k.wrap (x : Int) = x := wrap_of (by omega) h
theorem max_lt {k : IntKind} {x : Nat} (h : (x : Int) ≤ k.max) : x < 2 ^ k.bits := by
 cases k <;> simp [IntKind.max, IntKind.signed, IntKind.bits] at h ⊢ <;> omega
theorem bn_and {k : IntKind} {a b : Nat} (ha : (a : Int) ≤ k.max) (hb : (b : Int) ≤ k.max) (hk : k.min ≤ 0) : binA .and (.d (.int k a)) (.d (.int k b)) = some (.d (.int k ((a &&& b : Nat) : Int))) := by
 simp only [binA, intBin, if_true]
 rw [BitVec.toNat_and, toInt_ofInt_nat (max_lt ha), toInt_ofInt_nat (max_lt hb), wrap_bits hk (by have : a &&& b ≤ a := Nat.and_le_left; omega)]
theorem or_le {k : IntKind} {a b : Nat} (ha : (a : Int) ≤ k.max) (hb : (b : Int) ≤ k.max) : ((a ||| b : Nat) : Int) ≤ k.max := by
 have key : ∀ w : Nat, a < 2 ^ w → b < 2 ^ w → a ||| b < 2 ^ w := fun w h1 h2 => Nat.or_lt_two_pow h1 h2
 cases k <;> simp only [IntKind.max, IntKind.signed, IntKind.bits, if_true, if_false, Bool.false_eq_true] at ha hb ⊢
 all_goals first
  | (have := key 7 (by omega) (by omega); omega)
  | (have := key 8 (by omega) (by omega); omega)
  | (have := key 15 (by omega) (by omega); omega)
  | (have := key 16 (by omega) (by omega); omega)
  | (have := key 31 (by omega) (by omega); omega)
  | (have := key 32 (by omega) (by omega); omega)
  | (have := key 63 (by omega) (by omega); omega)
  | (have := key 64 (by omega) (by omega); omega)
theorem bn_or {k : IntKind} {a b : Nat} (ha : (a : Int) ≤ k.max) (hb : (b : Int) ≤ k.max) (hk : k.min ≤ 0) : binA .or (.d (.int k a)) (.d (.int k b)) = some (.d (.int k ((a ||| b : Nat) : Int))) := by
 simp only [binA, intBin, if_true]
 rw [BitVec.toNat_or, toInt_ofInt_nat (max_lt ha), toInt_ofInt_nat (max_lt hb), wrap_bits hk (or_le ha hb)]
theorem bn_add {k : IntKind} {a b : Nat} (hk : k.min ≤ 0) (h : ((a + b : Nat) : Int) ≤ k.max) : binA .add (.d (.int k a)) (.d (.int k b)) = some (.d (.int k ((a + b : Nat) : Int))) := by
 simp only [binA, intBin, if_true]
 rw [← Int.natCast_add, wrap_bits hk h]
theorem bn_sub {k : IntKind} {a b : Nat} (hk : k.min ≤ 0) (hb : b ≤ a) (h : (a : Int) ≤ k.max) : binA .sub (.d (.int k a)) (.d (.int k b)) = some (.d (.int k ((a - b : Nat) : Int))) := by
 simp only [binA, intBin, if_true]
 rw [← Int.natCast_sub hb, wrap_bits hk (by omega)]
theorem bn_mul {k : IntKind} {a b : Nat} (hk : k.min ≤ 0) (h : ((a * b : Nat) : Int) ≤ k.max) : binA .mul (.d (.int k a)) (.d (.int k b)) = some (.d (.int k ((a * b : Nat) : Int))) := by
 simp only [binA, intBin, if_true]
 rw [← Int.natCast_mul, wrap_bits hk h]
theorem bn_eql {k : IntKind} {a b : Nat} : binA .eql (.d (.int k a)) (.d (.int k b)) = some (.d (.bool (decide (a = b)))) := by
 simp only [binA, intBin, if_true]
 congr 3
 rw [Bool.eq_iff_iff]; simp; omega
theorem bn_neq {k : IntKind} {a b : Nat} : binA .neq (.d (.int k a)) (.d (.int k b)) = some (.d (.bool (decide (a ≠ b)))) := by
 simp only [binA, intBin, if_true]
 congr 3
 rw [Bool.eq_iff_iff]; simp; omega
theorem bn_lss {k : IntKind} {a b : Nat} : binA .lss (.d (.int k a)) (.d (.int k b)) = some (.d (.bool (decide (a < b)))) := by
 simp only [binA, intBin, if_true, Int.ofNat_lt]
theorem bn_leq {k : IntKind} {a b : Nat} : binA .leq (.d (.int k a)) (.d (.int k b)) = some (.d (.bool (decide (a ≤ b)))) := by
 simp only [binA, intBin, if_true, Int.ofNat_le]
theorem bn_gtr {k : IntKind} {a b : Nat} : binA .gtr (.d (.int k a)) (.d (.int k b)) = some (.d (.bool (decide (b < a)))) := by
 simp only [binA, intBin, if_true, gt_iff_lt, Int.ofNat_lt]
theorem bn_geq {k : IntKind} {a b : Nat} : binA .geq (.d (.int k a)) (.d (.int k b)) = some (.d (.bool (decide (b ≤ a)))) := by
 simp only [binA, intBin, if_true, ge_iff_le, Int.ofNat_le]
section
variable {T : Tb} {sl : Slots} {rf : Refs} {df : List (AV × List AV)} {pn : Option (Option AV)} {nb : Nat} {N : St → Prop} {X : Ex → St → Prop}
theorem o_if {l : List AOp} {t : Nat} {b : Bool} {d : Option Nat} {o : AOpk} {c : Bool} {m : Bool} (ht : sl.get t = some (.d (.bool b))) (h1 : b = true → OP T (⟨d, o, some (t, c), m⟩ :: l) ⟨sl, rf, df, pn, nb⟩ N X) (h2 : b = false → OP T (⟨d, o, some (t, c), m⟩ :: l) ⟨sl, rf, df, pn, nb⟩ N X) :
  OP T (⟨d, o, some (t, c), m⟩ :: l) ⟨sl, rf, df, pn, nb⟩ N X := by
 cases b
 ·exact h2 rfl
 ·exact h1 rfl
theorem o_eqln {r : List AOp} {d : Nat} {g : Option (Nat × Bool)} {may : Bool} {k : IntKind} {x y : Opd} {a b : Nat} (hg : wantedL sl g = some true) (hx : getO sl x = some (.d (.int k a))) (hy : getO sl y = some (.d (.int k b)))  (h : OP T r ⟨(d, .d (.bool (decide (a = b)))) :: sl, rf, df, pn, nb⟩ N X) : OP T (⟨some d, .bin .eql x y, g, may⟩ :: r) ⟨sl, rf, df, pn, nb⟩ N X :=
 o_bin hg hx hy (bn_eql) h
theorem o_neqn {r : List AOp} {d : Nat} {g : Option (Nat × Bool)} {may : Bool} {k : IntKind} {x y : Opd} {a b : Nat} (hg : wantedL sl g = some true) (hx : getO sl x = some (.d (.int k a))) (hy : getO sl y = some (.d (.int k b)))  (h : OP T r ⟨(d, .d (.bool (decide (a ≠ b)))) :: sl, rf, df, pn, nb⟩ N X) : OP T (⟨some d, .bin .neq x y, g, may⟩ :: r) ⟨sl, rf, df, pn, nb⟩ N X :=
 o_bin hg hx hy (bn_neq) h
theorem o_lssn {r : List AOp} {d : Nat} {g : Option (Nat × Bool)} {may : Bool} {k : IntKind} {x y : Opd} {a b : Nat} (hg : wantedL sl g = some true) (hx : getO sl x = some (.d (.int k a))) (hy : getO sl y = some (.d (.int k b)))  (h : OP T r ⟨(d, .d (.bool (decide (a < b)))) :: sl, rf, df, pn, nb⟩ N X) : OP T (⟨some d, .bin .lss x y, g, may⟩ :: r) ⟨sl, rf, df, pn, nb⟩ N X :=
 o_bin hg hx hy (bn_lss) h
theorem o_leqn {r : List AOp} {d : Nat} {g : Option (Nat × Bool)} {may : Bool} {k : IntKind} {x y : Opd} {a b : Nat} (hg : wantedL sl g = some true) (hx : getO sl x = some (.d (.int k a))) (hy : getO sl y = some (.d (.int k b)))  (h : OP T r ⟨(d, .d (.bool (decide (a ≤ b)))) :: sl, rf, df, pn, nb⟩ N X) : OP T (⟨some d, .bin .leq x y, g, may⟩ :: r) ⟨sl, rf, df, pn, nb⟩ N X :=
 o_bin hg hx hy (bn_leq) h
theorem o_gtrn {r : List AOp} {d : Nat} {g : Option (Nat × Bool)} {may : Bool} {k : IntKind} {x y : Opd} {a b : Nat} (hg : wantedL sl g = some true) (hx : getO sl x = some (.d (.int k a))) (hy : getO sl y = some (.d (.int k b)))  (h : OP T r ⟨(d, .d (.bool (decide (b < a)))) :: sl, rf, df, pn, nb⟩ N X) : OP T (⟨some d, .bin .gtr x y, g, may⟩ :: r) ⟨sl, rf, df, pn, nb⟩ N X :=
 o_bin hg hx hy (bn_gtr) h
theorem o_geqn {r : List AOp} {d : Nat} {g : Option (Nat × Bool)} {may : Bool} {k : IntKind} {x y : Opd} {a b : Nat} (hg : wantedL sl g = some true) (hx : getO sl x = some (.d (.int k a))) (hy : getO sl y = some (.d (.int k b)))  (h : OP T r ⟨(d, .d (.bool (decide (b ≤ a)))) :: sl, rf, df, pn, nb⟩ N X) : OP T (⟨some d, .bin .geq x y, g, may⟩ :: r) ⟨sl, rf, df, pn, nb⟩ N X :=
 o_bin hg hx hy (bn_geq) h
theorem o_addkn {r : List AOp} {d : Nat} {g : Option (Nat × Bool)} {may : Bool} {k : IntKind} {x y : Opd} {a b : Nat} (hg : wantedL sl g = some true) (hx : getO sl x = some (.d (.int k a))) (hy : getO sl y = some (.d (.int k b))) (hk : k.min ≤ 0) (hm : ((a + b : Nat) : Int) ≤ k.max) (h : OP T r ⟨(d, .d (.int k ((a + b : Nat) : Int))) :: sl, rf, df, pn, nb⟩ N X) : OP T (⟨some d, .bin .add x y, g, may⟩ :: r) ⟨sl, rf, df, pn, nb⟩ N X :=
 o_bin hg hx hy (bn_add hk hm) h
theorem o_subkn {r : List AOp} {d : Nat} {g : Option (Nat × Bool)} {may : Bool} {k : IntKind} {x y : Opd} {a b : Nat} (hg : wantedL sl g = some true) (hx : getO sl x = some (.d (.int k a))) (hy : getO sl y = some (.d (.int k b))) (hk : k.min ≤ 0) (hb : b ≤ a) (hm : (a : Int) ≤ k.max) (h : OP T r ⟨(d, .d (.int k ((a - b : Nat) : Int))) :: sl, rf, df, pn, nb⟩ N X) : OP T (⟨some d, .bin .sub x y, g, may⟩ :: r) ⟨sl, rf, df, pn, nb⟩ N X :=
 o_bin hg hx hy (bn_sub hk hb hm) h
theorem o_remn {r : List AOp} {d : Nat} {g : Option (Nat × Bool)} {may : Bool} {k : IntKind} {x y : Opd} {a b : Nat} (hg : wantedL sl g = some true) (hx : getO sl x = some (.d (.int k a))) (hy : getO sl y = some (.d (.int k b))) (hb : b ≠ 0) (h : OP T r ⟨(d, .d (.int k ((a % b : Nat) : Int))) :: sl, rf, df, pn, nb⟩ N X) : OP T (⟨some d, .bin .rem x y, g, may⟩ :: r) ⟨sl, rf, df, pn, nb⟩ N X :=
 o_bin hg hx hy (bn_rem hb) h
theorem o_quon {r : List AOp} {d : Nat} {g : Option (Nat × Bool)} {may : Bool} {k : IntKind} {x y : Opd} {a b : Nat} (hg : wantedL sl g = some true) (hx : getO sl x = some (.d (.int k a))) (hy : getO sl y = some (.d (.int k b))) (hm : (a : Int) ≤ k.max) (hk : k.min ≤ 0) (hb : b ≠ 0) (h : OP T r ⟨(d, .d (.int k ((a / b : Nat) : Int))) :: sl, rf, df, pn, nb⟩ N X) : OP T (⟨some d, .bin .quo x y, g, may⟩ :: r) ⟨sl, rf, df, pn, nb⟩ N X :=
 o_bin hg hx hy (bn_quo hm hk hb) h
theorem o_shrn {r : List AOp} {d : Nat} {g : Option (Nat × Bool)} {may : Bool} {k k' : IntKind} {x y : Opd} {a b : Nat} (hg : wantedL sl g = some true) (hx : getO sl x = some (.d (.int k a))) (hy : getO sl y = some (.d (.int k' b))) (hb : b ≤ k.bits) (h : OP T r ⟨(d, .d (.int k ((a / 2 ^ b : Nat) : Int))) :: sl, rf, df, pn, nb⟩ N X) : OP T (⟨some d, .bin .shr x y, g, may⟩ :: r) ⟨sl, rf, df, pn, nb⟩ N X :=
 o_bin hg hx hy (bn_shr hb) h
theorem o_shln {r : List AOp} {d : Nat} {g : Option (Nat × Bool)} {may : Bool} {k k' : IntKind} {x y : Opd} {a b : Nat} (hg : wantedL sl g = some true) (hx : getO sl x = some (.d (.int k a))) (hy : getO sl y = some (.d (.int k' b))) (hb : b ≤ k.bits) (hk : k.min ≤ 0) (hm : ((a * 2 ^ b : Nat) : Int) ≤ k.max) (h : OP T r ⟨(d, .d (.int k ((a * 2 ^ b : Nat) : Int))) :: sl, rf, df, pn, nb⟩ N X) : OP T (⟨some d, .bin .shl x y, g, may⟩ :: r) ⟨sl, rf, df, pn, nb⟩ N X :=
 o_bin hg hx hy (bn_shl hb hk hm) h
theorem o_andn {r : List AOp} {d : Nat} {g : Option (Nat × Bool)} {may : Bool} {k : IntKind} {x y : Opd} {a b : Nat} (hg : wantedL sl g = some true) (hx : getO sl x = some (.d (.int k a))) (hy : getO sl y = some (.d (.int k b))) (ha : (a : Int) ≤ k.max) (hb : ((b : Nat) : Int) ≤ k.max) (hk : k.min ≤ 0) (h : OP T r ⟨(d, .d (.int k ((a &&& b : Nat) : Int))) :: sl, rf, df, pn, nb⟩ N X) : OP T (⟨some d, .bin .and x y, g, may⟩ :: r) ⟨sl, rf, df, pn, nb⟩ N X :=
 o_bin hg hx hy (bn_and ha hb hk) h
theorem o_orn {r : List AOp} {d : Nat} {g : Option (Nat × Bool)} {may : Bool} {k : IntKind} {x y : Opd} {a b : Nat} (hg : wantedL sl g = some true) (hx : getO sl x = some (.d (.int k a))) (hy : getO sl y = some (.d (.int k b))) (ha : (a : Int) ≤ k.max) (hb : ((b : Nat) : Int) ≤ k.max) (hk : k.min ≤ 0) (h : OP T r ⟨(d, .d (.int k ((a ||| b : Nat) : Int))) :: sl, rf, df, pn, nb⟩ N X) : OP T (⟨some d, .bin .or x y, g, may⟩ :: r) ⟨sl, rf, df, pn, nb⟩ N X :=
 o_bin hg hx hy (bn_or ha hb hk) h
theorem o_mulkn {r : List AOp} {d : Nat} {g : Option (Nat × Bool)} {may : Bool} {k : IntKind} {x y : Opd} {a b : Nat} (hg : wantedL sl g = some true) (hx : getO sl x = some (.d (.int k a))) (hy : getO sl y = some (.d (.int k b))) (hk : k.min ≤ 0) (hm : ((a * b : Nat) : Int) ≤ k.max) (h : OP T r ⟨(d, .d (.int k ((a * b : Nat) : Int))) :: sl, rf, df, pn, nb⟩ N X) : OP T (⟨some d, .bin .mul x y, g, may⟩ :: r) ⟨sl, rf, df, pn, nb⟩ N X :=
 o_bin hg hx hy (bn_mul hk hm) h
theorem o_skip {r : List AOp} {d : Nat} {o : AOpk} {t : Nat} {b may : Bool} (hg : wantedL sl (some (t, b)) = some false) (h : OP T r ⟨(d, .tup []) :: sl, rf, df, pn, nb⟩ N X) : OP T (⟨some d, o, some (t, b), may⟩ :: r) ⟨sl, rf, df, pn, nb⟩ N X := o_off hg h
theorem o_ifp {l : List AOp} {t : Nat} {p : Prop} [Decidable p] {d : Option Nat} {o : AOpk} {c : Bool} {m : Bool} (ht : sl.get t = some (.d (.bool (decide p)))) (h1 : p → decide p = true → OP T (⟨d, o, some (t, c), m⟩ :: l) ⟨sl, rf, df, pn, nb⟩ N X) (h2 : ¬ p → decide p = false → OP T (⟨d, o, some (t, c), m⟩ :: l) ⟨sl, rf, df, pn, nb⟩ N X) :
  OP T (⟨d, o, some (t, c), m⟩ :: l) ⟨sl, rf, df, pn, nb⟩ N X := by
 by_cases h : p
 ·exact h1 h (decide_eq_true h)
 ·exact h2 h (decide_eq_false h)
theorem end0 {af : AFn} {n : Nat} {o : Out} {rf' : Refs} (hr : af.res = []) (ho : o = .ret (.tup [])) (hrf : rf' = rf.take n) : EndX af n o rf' .ret ⟨sl, rf, [], pn, nb⟩ :=
 .ret (v := .tup []) rfl (by rw [hr]; rfl) (Nat.zero_le _) ho hrf
theorem end1 {af : AFn} {n t : Nat} {y : D} {o : Out} {rf' : Refs} (hk : af.keep = false) (hr : af.res = [.tmp t]) (hv : sl.get t = some (.d y)) (ho : o = .ret (.d y)) (hrf : rf' = rf.take n) : EndX af n o rf' .ret ⟨sl, rf, [], pn, nb⟩ :=
 .ret (v := .d y) rfl (by rw [hr, hk]; simp only [resOf, resAs, resA, hv]; rfl) (Nat.zero_le _) ho hrf
theorem end2 {af : AFn} {n t u : Nat} {y z : D} {o : Out} {rf' : Refs} (hk : af.keep = false) (hr : af.res = [.tmp t, .tmp u]) (hv : sl.get t = some (.d y)) (hw : sl.get u = some (.d z)) (ho : o = .ret (.tup [.d y, .d z])) (hrf : rf' = rf.take n) : EndX af n o rf' .ret ⟨sl, rf, [], pn, nb⟩ :=
 .ret (v := .tup [.d y, .d z]) rfl (by rw [hr, hk]; simp only [resOf, resAs, resA, hv, hw]; rfl) (by simp [AV.refB, AV.refBs]) ho hrf
theorem end3 {af : AFn} {n t u q : Nat} {x y z : D} {o : Out} {rf' : Refs} (hk : af.keep = false) (hr : af.res = [.tmp t, .tmp u, .tmp q]) (hv : sl.get t = some (.d x)) (hw : sl.get u = some (.d y)) (hx : sl.get q = some (.d z)) (ho : o = .ret (.tup [.d x, .d y, .d z])) (hrf : rf' = rf.take n) : EndX af n o rf' .ret ⟨sl, rf, [], pn, nb⟩ :=
 .ret (v := .tup [.d x, .d y, .d z]) rfl (by rw [hr, hk]; simp only [resOf, resAs, resA, hv, hw, hx]; rfl) (by simp [AV.refB, AV.refBs]) ho hrf
theorem enda {af : AFn} {n t : Nat} {y : List AV} {o : Out} {rf' : Refs} (hk : af.keep = false) (hr : af.res = [.tmp t]) (hv : sl.get t = some (.agg y)) (hb : AV.refBs y = 0) (ho : o = .ret (.agg (AV.bares y))) (hrf : rf' = rf.take n) : EndX af n o rf' .ret ⟨sl, rf, [], pn, nb⟩ :=
 .ret (v := .agg (AV.bares y)) rfl (by rw [hr, hk]; simp only [resOf, resAs, resA, hv]; rfl) (by simp [AV.refB, refBs_bares, hb]) ho hrf
end
end Go.Ab
namespace Go.Ab
theorem sizesB_bytesOf (l : List UInt8) : sizesB 1 (bytesOf l) = true := by cases l <;> rfl
theorem bytesOf_length (l : List UInt8) : (bytesOf l).length = l.length := by simp [bytesOf]
theorem bytesOf_append (l m : List UInt8) : bytesOf (l ++ m) = bytesOf l ++ bytesOf m := by simp [bytesOf]
theorem strOf_bytesOf (l : List UInt8) : strOf (bytesOf l) = some l := by
 induction l with
 | nil => rfl
 | cons b l ih =>
   show (strOf (bytesOf l)).map _ = _
   rw [ih]
   simp
theorem sizesB_append {sz : Nat} {es ys : List (List D)} (h1 : sizesB sz es = true) (h2 : sizesB sz ys = true) : sizesB sz (es ++ ys) = true := by
 cases es with
 | nil => exact h2
 | cons e es => exact h1
section
variable {T : Tb} {sl : Slots} {rf : Refs} {df : List (AV × List AV)} {pn : Option (Option AV)} {nb : Nat} {N : St → Prop} {X : Ex → St → Prop} {r : List AOp} {d : Nat} {g : Option (Nat × Bool)} {may : Bool}
theorem o_mkls {sz : Nat} {zero : List AV} {parts : List (Nat × Nat × Opd)} {cs : List AV} {ds : List D} {es : List (List D)} (hg : wantedL sl g = some true) (hf : fillA sl zero parts = some cs) (hd : toDs cs = some ds) (hs : 0 < sz) (hl : ds.length ≤ lim) (he : chunks sz (ds.length / sz) ds = es)
  (h : OP T r ⟨(d, .own es) :: sl, rf, df, pn, nb⟩ N X) : OP T (⟨some d, .mkls sz zero parts, g, may⟩ :: r) ⟨sl, rf, df, pn, nb⟩ N X := by
 subst he
 refine o_pure hg ?_ h
 simp only [stepOp, hf, hd]
 rw [if_pos ⟨hs, hl⟩]
 rfl
theorem o_mkls1 {z : AV} {x : Opd} {a : D} (hg : wantedL sl g = some true) (hx : getO sl x = some (.d a)) (h : OP T r ⟨(d, .own [[a]]) :: sl, rf, df, pn, nb⟩ N X) : OP T (⟨some d, .mkls 1 [z] [(0, 1, x)], g, may⟩ :: r) ⟨sl, rf, df, pn, nb⟩ N X := by
 refine o_mkls (cs := [.d a]) (ds := [a]) (es := [[a]]) hg ?_ rfl (by decide) (by exact Nat.le_of_ble_eq_true rfl) (by simp [chunks]) h
 simp only [fillA, hx, AV.cells]
 rfl
theorem o_mkls2 {z z' : AV} {x y : Opd} {a b : D} (hg : wantedL sl g = some true) (hx : getO sl x = some (.d a)) (hy : getO sl y = some (.d b)) (h : OP T r ⟨(d, .own [[a], [b]]) :: sl, rf, df, pn, nb⟩ N X) : OP T (⟨some d, .mkls 1 [z, z'] [(0, 1, x), (1, 1, y)], g, may⟩ :: r) ⟨sl, rf, df, pn, nb⟩ N X := by
 refine o_mkls (cs := [.d a, .d b]) (ds := [a, b]) (es := [[a], [b]]) hg ?_ rfl (by decide) (by exact Nat.le_of_ble_eq_true rfl) (by simp [chunks]) h
 simp only [fillA, hx, hy, AV.cells]
 rfl
theorem o_mklsa {sz : Nat} {zero : List AV} {x : Opd} {cs : List AV} {ds : List D} (hg : wantedL sl g = some true) (hx : getO sl x = some (.agg cs)) (hc : cs.length = sz) (hz : zero.length = sz) (hs : 0 < sz) (hl : sz ≤ lim) (hd : toDs cs = some ds)
  (h : OP T r ⟨(d, .own [ds]) :: sl, rf, df, pn, nb⟩ N X) : OP T (⟨some d, .mkls sz zero [(0, sz, x)], g, may⟩ :: r) ⟨sl, rf, df, pn, nb⟩ N X := by
 have hset : ∀ (l m : List AV) (pre : List AV), l.length = m.length → setRange (pre ++ l) pre.length m = pre ++ m := by
  intro l
  induction l with
  | nil => intro m pre hl; cases m <;> simp at hl; simp [setRange]
  | cons x l ih =>
    intro m pre hl
    cases m with
    | nil => simp at hl
    | cons y m =>
      simp only [setRange]
      have := ih m (pre ++ [y]) (by simpa using hl)
      simp only [List.append_assoc, List.cons_append, List.nil_append, List.length_append, List.length_cons, List.length_nil] at this
      rw [← this]
      congr 1
      simp
 have hlen : ∀ {l : List AV} {m : List D}, toDs l = some m → m.length = l.length := fun {l} => by
  induction l with
  | nil => intro m h; simp [toDs] at h; subst h; rfl
  | cons x l ih =>
    intro m h
    simp only [toDs] at h
    split at h
    ·rename_i y ys _ h2; cases h; simp [ih h2]
    ·cases h
 have hdl : ds.length = sz := by rw [hlen hd, hc]
 refine o_mkls (cs := cs) (ds := ds) (es := [ds]) hg ?_ hd hs (by omega) ?_ h
 ·have := hset zero cs [] (by omega)
  simp only [List.nil_append, List.length_nil] at this
  simp only [fillA, hx, AV.cells, this, AV.solid]
  rw [if_pos ⟨hc, by omega, trivial⟩]
 ·rw [hdl, Nat.div_self hs]
  simp only [chunks]
  rw [List.take_of_length_le (by omega)]
theorem o_build {zero : List AV} {parts : List (Nat × Nat × Opd)} {cs : List AV} (hg : wantedL sl g = some true) (hf : fillA sl zero parts = some cs) (h : OP T r ⟨(d, .agg cs) :: sl, rf, df, pn, nb⟩ N X) : OP T (⟨some d, .build zero parts, g, may⟩ :: r) ⟨sl, rf, df, pn, nb⟩ N X :=
 o_pure hg (by simp only [stepOp, hf]; rfl) h
theorem o_same {t : Nat} {e : List D} {es : List (List D)} (hg : wantedL sl g = some true) (hx : sl.get t = some (.own (e :: es))) (h : OP T r ⟨(d, .own (e :: es)) :: (t, .d (.lst (e :: es))) :: sl, rf, df, pn, nb⟩ N X) : OP T (⟨some d, .same (.t t), g, may⟩ :: r) ⟨sl, rf, df, pn, nb⟩ N X := by
 refine op_val (v := .own (e :: es)) (s' := ⟨(t, .d (.lst (e :: es))) :: sl, rf, df, pn, nb⟩) ((wantedL_eq _ _).trans hg) ?_ h
 simp only [stepOp, rawO, hx, unOwn]
 rfl
theorem o_appo {sz t : Nat} {y : Opd} {v : AV} {es ys : List (List D)} (hg : wantedL sl g = some true) (hx : sl.get t = some (.own es)) (hy : getO sl y = some v) (hv : v.elems? = some ys) (hl : es.length + ys.length ≤ lim) (h1 : sizesB sz es = true) (h2 : sizesB sz ys = true)
  (h : OP T r ⟨(d, .own (es ++ ys)) :: (t, .d (.lst es)) :: sl, rf, df, pn, nb⟩ N X) : OP T (⟨some d, .append sz (.t t) y, g, may⟩ :: r) ⟨sl, rf, df, pn, nb⟩ N X := by
 refine op_val (v := .own (es ++ ys)) (s' := ⟨(t, .d (.lst es)) :: sl, rf, df, pn, nb⟩) ((wantedL_eq _ _).trans hg) ?_ h
 simp only [stepOp, rawO, hx, hy, appendA, hv, unOwn]
 rw [if_pos ⟨hl, h1, h2⟩]
 rfl
theorem o_appn {sz t : Nat} {y : Opd} {v : AV} {e : List D} {ys : List (List D)} (hg : wantedL sl g = some true) (hx : sl.get t = some .nil) (hy : getO sl y = some v) (hv : v.elems? = some (e :: ys)) (hl : (e :: ys).length ≤ lim) (h2 : sizesB sz (e :: ys) = true)
  (h : OP T r ⟨(d, .own (e :: ys)) :: sl, rf, df, pn, nb⟩ N X) : OP T (⟨some d, .append sz (.t t) y, g, may⟩ :: r) ⟨sl, rf, df, pn, nb⟩ N X := by
 refine o_pure hg ?_ h
 simp only [stepOp, rawO, hx, hy, appendA, hv, unOwn]
 rw [if_pos ⟨hl, h2⟩]
theorem o_bytesStr {x : Opd} {v : AV} {es : List (List D)} {l : List UInt8} (hg : wantedL sl g = some true) (hx : getO sl x = some v) (hv : v.list? = some es) (hs : strOf es = some l) (h : OP T r ⟨(d, .d (.str l)) :: sl, rf, df, pn, nb⟩ N X) : OP T (⟨some d, .bytesStr x, g, may⟩ :: r) ⟨sl, rf, df, pn, nb⟩ N X :=
 o_pure hg (by simp only [stepOp, hx, hv, hs]; rfl) h
theorem o_strBytes {x : Opd} {c : UInt8} {l : List UInt8} (hg : wantedL sl g = some true) (hx : getO sl x = some (.d (.str (c :: l)))) (h : OP T r ⟨(d, .own (bytesOf (c :: l))) :: sl, rf, df, pn, nb⟩ N X) : OP T (⟨some d, .strBytes x, g, may⟩ :: r) ⟨sl, rf, df, pn, nb⟩ N X :=
 o_pure hg (by simp only [stepOp, hx]; rfl) h
theorem o_cat {x y : Opd} {a b : List UInt8} (hg : wantedL sl g = some true) (hx : getO sl x = some (.d (.str a))) (hy : getO sl y = some (.d (.str b))) (hl : a.length + b.length ≤ lim) (h : OP T r ⟨(d, .d (.str (a ++ b))) :: sl, rf, df, pn, nb⟩ N X) : OP T (⟨some d, .bin .add x y, g, may⟩ :: r) ⟨sl, rf, df, pn, nb⟩ N X :=
 o_bin hg hx hy (v := .d (.str (a ++ b))) (by simp only [binA, strBin]; rw [if_pos hl]) h
theorem o_eqs {x y : Opd} {a b : List UInt8} (hg : wantedL sl g = some true) (hx : getO sl x = some (.d (.str a))) (hy : getO sl y = some (.d (.str b))) (h : OP T r ⟨(d, .d (.bool (decide (a = b)))) :: sl, rf, df, pn, nb⟩ N X) : OP T (⟨some d, .bin .eql x y, g, may⟩ :: r) ⟨sl, rf, df, pn, nb⟩ N X :=
 o_bin hg hx hy (v := .d (.bool (decide (a = b)))) (by
  simp only [binA, strBin]
  congr 3
  rw [Bool.eq_iff_iff]; simp) h
theorem o_nes {x y : Opd} {a b : List UInt8} (hg : wantedL sl g = some true) (hx : getO sl x = some (.d (.str a))) (hy : getO sl y = some (.d (.str b))) (h : OP T r ⟨(d, .d (.bool (decide (a ≠ b)))) :: sl, rf, df, pn, nb⟩ N X) : OP T (⟨some d, .bin .neq x y, g, may⟩ :: r) ⟨sl, rf, df, pn, nb⟩ N X :=
 o_bin hg hx hy (v := .d (.bool (decide (a ≠ b)))) (by
  simp only [binA, strBin]
  congr 3
  rw [Bool.eq_iff_iff]; simp) h
theorem o_extr {x : Opd} {i : Nat} {vs : List AV} {v : AV} (hg : wantedL sl g = some true) (hx : getO sl x = some (.tup vs)) (hv : vs[i]? = some v) (h : OP T r ⟨(d, v) :: sl, rf, df, pn, nb⟩ N X) : OP T (⟨some d, .extr x i, g, may⟩ :: r) ⟨sl, rf, df, pn, nb⟩ N X :=
 o_pure hg (by simp only [stepOp, hx, hv]; rfl) h
theorem o_store1 {a x : Opd} {q off : Nat} {y : D} {cs us : List AV} {rf' : Refs} (hg : wantedL sl g = some true) (ha : getO sl a = some (.ptr q off)) (hx : rawO sl x = some (.d y))
  (hr : rf[q]? = some cs) (hn : off < cs.length) (hu : cs.set off (.d y) = us) (hrf : rf.set q us = rf') (h : OP T r ⟨sl, rf', df, pn, nb⟩ N X) :
  OP T (⟨none, .store 1 a x, g, may⟩ :: r) ⟨sl, rf, df, pn, nb⟩ N X := by
 subst hu hrf
 exact o_store hg ha hx (fun _ h => by cases h) rfl rfl rfl hr (by omega) (.inl (by simp [AV.cellsO, AV.refBs, AV.refB])) rfl h
theorem o_idxSx {x i : Opd} {l : List UInt8} {k : IntKind} {n : Int} {m : Nat} (hg : wantedL sl g = some true) (hx : getO sl x = some (.d (.str l))) (hi : getO sl i = some (.d (.int k n))) (hn : n = (m : Int)) (hm : m < l.length)
  (h : ∀ b : UInt8, l[m]? = some b → OP T r ⟨(d, .d (.int .u8 b.toNat)) :: sl, rf, df, pn, nb⟩ N X) : OP T (⟨some d, .idxS x i, g, may⟩ :: r) ⟨sl, rf, df, pn, nb⟩ N X :=
 o_idxS hg hx hi hn (List.getElem?_eq_getElem hm) (h _ (List.getElem?_eq_getElem hm))
theorem o_sub0 {x : Opd} {lo : Opd} {k : IntKind} {n : Int} {i : Nat} {l : List UInt8} (hg : wantedL sl g = some true) (hx : getO sl x = some (.d (.str l))) (hlo : getO sl lo = some (.d (.int k n))) (hn : n = (i : Int)) (hi : i ≤ l.length)
  (h : OP T r ⟨(d, .d (.str (l.drop i))) :: sl, rf, df, pn, nb⟩ N X) : OP T (⟨some d, .sliceS x (some lo) none, g, may⟩ :: r) ⟨sl, rf, df, pn, nb⟩ N X := by
 have := o_sliceS (T := T) (rf := rf) (df := df) (pn := pn) (nb := nb) (N := N) (X := X) (r := r) (d := d) (may := may) (hi := none) (lo := some lo) (i := i) (j := l.length) hg hx (by subst hn; simp only [asIdx, hlo]; rw [if_pos (by omega)]; simp) rfl hi (Nat.le_refl _)
 rw [List.take_of_length_le (Nat.le_refl _)] at this
 exact this h
theorem o_sub2 {x : Opd} {lo hi : Opd} {k k' : IntKind} {n n' : Int} {i j : Nat} {l : List UInt8} (hg : wantedL sl g = some true) (hx : getO sl x = some (.d (.str l))) (hlo : getO sl lo = some (.d (.int k n))) (hhi : getO sl hi = some (.d (.int k' n'))) (hn : n = (i : Int)) (hn' : n' = (j : Int)) (hij : i ≤ j) (hj : j ≤ l.length)
  (h : OP T r ⟨(d, .d (.str ((l.take j).drop i))) :: sl, rf, df, pn, nb⟩ N X) : OP T (⟨some d, .sliceS x (some lo) (some hi), g, may⟩ :: r) ⟨sl, rf, df, pn, nb⟩ N X :=
 o_sliceS hg hx (by subst hn; simp only [asIdx, hlo]; rw [if_pos (by omega)]; simp) (by subst hn'; simp only [asIdx, hhi]; rw [if_pos (by omega)]; simp) hij hj h
theorem o_subh {x : Opd} {hi : Opd} {k' : IntKind} {n' : Int} {j : Nat} {l : List UInt8} (hg : wantedL sl g = some true) (hx : getO sl x = some (.d (.str l))) (hhi : getO sl hi = some (.d (.int k' n'))) (hn' : n' = (j : Int)) (hj : j ≤ l.length)
  (h : OP T r ⟨(d, .d (.str (l.take j))) :: sl, rf, df, pn, nb⟩ N X) : OP T (⟨some d, .sliceS x none (some hi), g, may⟩ :: r) ⟨sl, rf, df, pn, nb⟩ N X := by
 have := o_sliceS (T := T) (rf := rf) (df := df) (pn := pn) (nb := nb) (N := N) (X := X) (r := r) (d := d) (may := may) (lo := none) (hi := some hi) (i := 0) (j := j) (sl := sl) hg hx rfl (by subst hn'; simp only [asIdx, hhi]; rw [if_pos (by omega)]; simp) (Nat.zero_le _) hj
 exact this h
theorem o_fld {off : Nat} {agg : Option Nat} {x : Opd} {cs : List AV} {v : AV} (hg : wantedL sl g = some true) (hx : getO sl x = some (.agg cs)) (hv : partA agg cs off = some v) (h : OP T r ⟨(d, v) :: sl, rf, df, pn, nb⟩ N X) : OP T (⟨some d, .fld off agg x, g, may⟩ :: r) ⟨sl, rf, df, pn, nb⟩ N X :=
 o_pure hg (by simp only [stepOp, hx, hv]; rfl) h
theorem o_idxV {n sz : Nat} {agg : Option Nat} {x i : Opd} {cs : List AV} {v : AV} {k : IntKind} {m : Int} {j : Nat} (hg : wantedL sl g = some true) (hx : getO sl x = some (.agg cs)) (hi : getO sl i = some (.d (.int k m))) (hm : m = (j : Int)) (hj : j < n) (hv : partA agg cs (j * sz) = some v) (h : OP T r ⟨(d, v) :: sl, rf, df, pn, nb⟩ N X) : OP T (⟨some d, .idxV n sz agg x i, g, may⟩ :: r) ⟨sl, rf, df, pn, nb⟩ N X := by
 refine o_pure hg ?_ h
 subst hm
 simp only [stepOp, hx, hi]
 rw [if_neg (by omega)]
 simp only [Int.toNat_natCast, hv]
 rfl
theorem o_eqc {ne : Bool} {ks : List PK} {x y : Opd} {a b : List AV} {t : Bool} (hg : wantedL sl g = some true) (hx : getO sl x = some (.agg a)) (hy : getO sl y = some (.agg b)) (ht : eqCells ks a b = some t) (h : OP T r ⟨(d, .d (.bool (t != ne))) :: sl, rf, df, pn, nb⟩ N X) : OP T (⟨some d, .eqc ne ks x y, g, may⟩ :: r) ⟨sl, rf, df, pn, nb⟩ N X :=
 o_pure hg (by simp only [stepOp, hx, hy, ht]; rfl) h
theorem o_beq {ne : Bool} {x y : Opd} {a b : Bool} (hg : wantedL sl g = some true) (hx : getO sl x = some (.d (.bool a))) (hy : getO sl y = some (.d (.bool b))) (h : OP T r ⟨(d, .d (.bool ((a == b) != ne))) :: sl, rf, df, pn, nb⟩ N X) : OP T (⟨some d, .beq ne x y, g, may⟩ :: r) ⟨sl, rf, df, pn, nb⟩ N X :=
 o_pure hg (by simp only [stepOp, hx, hy]; rfl) h
theorem o_not {x : Opd} {a : Bool} (hg : wantedL sl g = some true) (hx : getO sl x = some (.d (.bool a))) (h : OP T r ⟨(d, .d (.bool (!a))) :: sl, rf, df, pn, nb⟩ N X) : OP T (⟨some d, .un .not x, g, may⟩ :: r) ⟨sl, rf, df, pn, nb⟩ N X :=
 o_pure hg (by simp only [stepOp, hx]; rfl) h
theorem o_mkfn {f : Fn} {first cap : List Opd} {a b : List AV} (hg : wantedL sl g = some true) (h1 : getOs sl first = some a) (h2 : getOs sl cap = some b) (h : OP T r ⟨(d, .fn f a b) :: sl, rf, df, pn, nb⟩ N X) : OP T (⟨some d, .mkfn f first cap, g, may⟩ :: r) ⟨sl, rf, df, pn, nb⟩ N X :=
 o_pure hg (by simp only [stepOp, h1, h2]; rfl) h
theorem o_callc {f : Opd} {as : List Opd} {id : FuncId} {first cap vs : List AV} {v : AV} {rf' : Refs} (hg : wantedL sl g = some true) (hf : getO sl f = some (.fn (.func id) first cap)) (ha : (getOs sl as).map (fun us => AV.bargs (first ++ us ++ cap)) = some vs)
  (he : Ev T id vs rf (.ret v) rf') (h : OP T r ⟨(d, v) :: sl, rf', df, pn, nb⟩ N X) : OP T (⟨some d, .call f as, g, may⟩ :: r) ⟨sl, rf, df, pn, nb⟩ N X := by
 cases hh : getOs sl as with
 | none => rw [hh] at ha; cases ha
 | some us =>
   rw [hh] at ha
   cases ha
   exact op_call (s := ⟨sl, rf, df, pn, nb⟩) ((wantedL_eq _ _).trans hg) hf hh he h
theorem o_callz {f : Opd} {as : List Opd} {id : FuncId} {vs : List AV} {v : AV} {rf' : Refs} (hg : wantedL sl g = some true) (hf : getO sl f = some (.fn (.func id) [] [])) (ha : (getOs sl as).map AV.bargs = some vs) (hz : AV.refBs vs = 0)
  (he : Ev T id vs [] (.ret v) rf') (h : OP T r ⟨(d, v) :: sl, rf, df, pn, nb⟩ N X) : OP T (⟨some d, .callZ f as, g, may⟩ :: r) ⟨sl, rf, df, pn, nb⟩ N X := by
 cases hh : getOs sl as with
 | none => rw [hh] at ha; cases ha
 | some us =>
   rw [hh] at ha
   cases ha
   exact op_callZ (s := ⟨sl, rf, df, pn, nb⟩) ((wantedL_eq _ _).trans hg) hf hh (by simpa using hz) (by simpa using he) h
inductive KeepN (keep : List Nat) (N : St → Prop) (s : St) : Prop
 | mk (h : N { s with sl := s.sl.keep keep })
theorem wp_keep {keep : List Nat} {b : AC} {s : St} (h : WP T b s (KeepN keep N) X) : WP T (.trim keep b) s N X :=
 wp_trim (h.mono (fun _ h => h.1) (fun _ _ h => h))
theorem keepN {keep : List Nat} {sl' : Slots} (hk : sl.keep keep = sl') (h : N ⟨sl', rf, df, pn, nb⟩) : KeepN keep N ⟨sl, rf, df, pn, nb⟩ := by
 subst hk
 exact ⟨h⟩
end
end Go.Ab
namespace Go.Ab
abbrev DF := List (AV × List AV)
abbrev PN := Option (Option AV)
abbrev KN := Slots → Refs → DF → PN → Prop
abbrev KX := Ex → Slots → Refs → DF → PN → Prop
/-! things that are to be shown -/
structure CondE (b : Bool) (A B : Prop) : Prop where
 h1 : b = true → A
 h2 : b = false → B
inductive CallE (T : Tb) (f : FuncId) (args : List AV) (rf : Refs) (k : Out → Refs → Prop) : Prop
 | mk (o : Out) (rf' : Refs) (h : Ev T f args rf o rf') (h' : k o rf')
structure WrE (q : IntKind) (n : Int) (c : Int → Prop) : Prop where
 h : c (q.wrap n)
structure QuoE (q : IntKind) (a b : Int) (c : Int → Prop) : Prop where
 h0 : b ≠ 0
 h : c (q.wrap (a.tdiv b))
structure RemE (a b : Int) (c : Int → Prop) : Prop where
 h0 : b ≠ 0
 h : c (a.tmod b)
inductive BitE (op : BinOp) (q : IntKind) (a b : Int) (c : Int → Prop) : Prop
 | mk (n : Int) (h : binA op (.d (.int q a)) (.d (.int q b)) = some (.d (.int q n))) (h' : c n)
inductive ShE (op : BinOp) (q q' : IntKind) (a b : Int) (c : Int → Prop) : Prop
 | mk (n : Int) (h : binA op (.d (.int q a)) (.d (.int q' b)) = some (.d (.int q n))) (h' : c n)
structure CatE (a b : List UInt8) (c : List UInt8 → Prop) : Prop where
 h0 : a.length + b.length ≤ lim
 h : c (a ++ b)
inductive EqcE (ks : List PK) (a b : List AV) (c : Bool → Prop) : Prop
 | mk (t : Bool) (h : eqCells ks a b = some t) (h' : c t)
inductive NilE (nk : Nat) (a : AV) (c : Bool → Prop) : Prop
 | mk (t : Bool) (h : eqNilA nk a = some t) (h' : c t)
inductive UnE (op : UnOp) (q : IntKind) (a : Int) (c : Int → Prop) : Prop
 | mk (n : Int) (h : unA op (.d (.int q a)) = some (.d (.int q n))) (h' : c n)
structure BytesE (l : List UInt8) (c : AV → Prop) : Prop where
 h0 : l = [] → c (.d (.lst []))
 h1 : l ≠ [] → c (.own (bytesOf l))
inductive StrE (es : List (List D)) (c : List UInt8 → Prop) : Prop
 | mk (l : List UInt8) (h : strOf es = some l) (h' : c l)
inductive SubE (l : List UInt8) (lo hi : Option Int) (c : List UInt8 → Prop) : Prop
 | mk (i j : Nat) (h1 : lo.getD 0 = i) (h2 : hi.getD l.length = j) (h3 : i ≤ j) (h4 : j ≤ l.length) (h : c ((l.take j).drop i))
inductive SubL (sz : Nat) (l : List (List D)) (lo hi : Option Int) (c : List (List D) → Prop) : Prop
 | mk (i j : Nat) (h1 : lo.getD 0 = i) (h2 : hi.getD l.length = j) (h3 : i ≤ j) (h4 : j ≤ l.length) (h5 : sizesB sz l = true) (h : c ((l.take j).drop i))
inductive SubA (n : Nat) (lo hi : Option Int) (c : Nat → Nat → Prop) : Prop
 | mk (i j : Nat) (h1 : lo.getD 0 = i) (h2 : hi.getD n = j) (h3 : i ≤ j) (h4 : j ≤ n) (h : c i j)
inductive IdxA (m : Nat) (n : Int) (c : Nat → Prop) : Prop
 | mk (i : Nat) (h1 : n = i) (h2 : i < m) (h : c i)
inductive IdxL (sz : Nat) (es : List (List D)) (n : Int) (c : List D → Prop) : Prop
 | mk (i : Nat) (cs : List D) (h1 : n = i) (h2 : es[i]? = some cs) (h3 : cs.length = sz) (h : c cs)
inductive IdxS (l : List UInt8) (n : Int) (c : UInt8 → Prop) : Prop
 | mk (i : Nat) (b : UInt8) (h1 : n = i) (h2 : l[i]? = some b) (h : c b)
inductive AppE (sz : Nat) (es ys : List (List D)) (c : List (List D) → Prop) : Prop
 | mk (h1 : es.length + ys.length ≤ lim) (h2 : sizesB sz es = true) (h3 : sizesB sz ys = true) (h : c (es ++ ys))
structure AppN (sz : Nat) (ys : List (List D)) (c : AV → Prop) : Prop where
 h1 : ys.length ≤ lim
 h2 : sizesB sz ys = true
 h3 : ys = [] → c .nil
 h4 : ys ≠ [] → c (.own ys)
inductive CopyE (n : Nat) (cs : List AV) (off : Nat) (es : List (List D)) (c : Nat → List AV → Prop) : Prop
 | mk (h1 : off + Nat.min es.length n ≤ cs.length) (h2 : (es.all fun e => e.length == 1) = true)
   (h : c (Nat.min es.length n) (setRange cs off ((es.take (Nat.min es.length n)).map fun e => AV.d (e.headD .nilp))))
structure EndE (v : Out) (rf : Refs) (o : Out) (rf' : Refs) : Prop where
 h1 : v = o
 h2 : rf = rf'
inductive LoopE (T : Tb) (keep : List Nat) (b : AC) (sl : Slots) (rf : Refs) (df : DF) (pn : PN) (nb : Nat) (X : KX) : Prop
 | mk (h : LP T keep rf.length b ⟨sl, rf, df, pn, nb⟩ (fun e s => s.nb = nb ∧ X e s.sl s.rf s.df s.pn))
inductive HoleE : Prop
/-! lookups, with what goes on -/
def lk : Slots → Nat → (AV → Prop) → Prop
 | [], _, _ => False
 | (i, v) :: r, n, k => match Nat.beq i n with
   | true => k v
   | false => lk r n k
def raw (sl : Slots) (x : Opd) (k : AV → Prop) : Prop :=
 match x with
 | .t n => lk sl n k
 | .c v => k v
 | .f id => k (.fn (.func id) [] [])
mutual
def fz : AV → (AV → Prop) → Prop
 | .own es, k => k (.d (.lst es))
 | .agg cs, k => fzs cs fun cs' => k (.agg cs')
 | .ifc t v, k => fz v fun v' => k (.ifc t v')
 | .tup vs, k => fzs vs fun vs' => k (.tup vs')
 | .d x, k => k (.d x)
 | .nil, k => k .nil
 | .ptr r o, k => k (.ptr r o)
 | .ept c o, k => k (.ept c o)
 | .sref r o n, k => k (.sref r o n)
 | .fn f a b, k => k (.fn f a b)
def fzs : List AV → (List AV → Prop) → Prop
 | [], k => k []
 | v :: r, k => fz v fun v' => fzs r fun r' => k (v' :: r')
end
mutual
def bareK : AV → (AV → Prop) → Prop
 | .own es, k => k (.d (.lst es))
 | .nil, k => k (.d (.lst []))
 | .agg cs, k => baresK cs fun cs' => k (.agg cs')
 | .ifc t v, k => bareK v fun v' => k (.ifc t v')
 | .tup vs, k => k (.tup vs)
 | .d x, k => k (.d x)
 | .ptr r o, k => k (.ptr r o)
 | .ept c o, k => k (.ept c o)
 | .sref r o n, k => k (.sref r o n)
 | .fn f a b, k => k (.fn f a b)
def baresK : List AV → (List AV → Prop) → Prop
 | [], k => k []
 | v :: r, k => bareK v fun v' => baresK r fun r' => k (v' :: r')
end
def bargK : AV → (AV → Prop) → Prop
 | .nil, k => k .nil
 | .own es, k => k (.d (.lst es))
 | .agg cs, k => baresK cs fun cs' => k (.agg cs')
 | .ifc t v, k => bareK v fun v' => k (.ifc t v')
 | .tup vs, k => k (.tup vs)
 | .d x, k => k (.d x)
 | .ptr r o, k => k (.ptr r o)
 | .ept c o, k => k (.ept c o)
 | .sref r o n, k => k (.sref r o n)
 | .fn f a b, k => k (.fn f a b)
def bargsK : List AV → (List AV → Prop) → Prop
 | [], k => k []
 | v :: r, k => bargK v fun v' => bargsK r fun r' => k (v' :: r')
def gv (sl : Slots) (x : Opd) (k : AV → Prop) : Prop := raw sl x fun v => fz v k
def gvs (sl : Slots) : List Opd → (List AV → Prop) → Prop
 | [], k => k []
 | x :: r, k => gv sl x fun v => gvs sl r fun vs => k (v :: vs)
def nthK {α : Type} : List α → Nat → (α → Prop) → Prop
 | [], _, _ => False
 | a :: _, 0, k => k a
 | _ :: r, n + 1, k => nthK r n k
def setK {α : Type} : List α → Nat → α → (List α → Prop) → Prop
 | [], _, _, _ => False
 | _ :: r, 0, v, k => k (v :: r)
 | a :: r, n + 1, v, k => setK r n v fun r' => k (a :: r')
def takeK {α : Type} : Nat → List α → (List α → Prop) → Prop
 | 0, _, k => k []
 | _ + 1, [], _ => False
 | n + 1, a :: r, k => takeK n r fun r' => k (a :: r')
def subK {α : Type} : Nat → Nat → List α → (List α → Prop) → Prop
 | 0, n, l, k => takeK n l k
 | _ + 1, _, [], _ => False
 | i + 1, n, _ :: l, k => subK i n l k
def takeS {α : Type} : Nat → List α → (List α → Prop) → Prop
 | 0, _, k => k []
 | _ + 1, [], k => k []
 | n + 1, a :: r, k => takeS n r fun r' => k (a :: r')
def ovrK : List AV → List AV → (List AV → Prop) → Prop
 | [], cs, k => k cs
 | _ :: _, [], _ => False
 | v :: vs, _ :: cs, k => ovrK vs cs fun r => k (v :: r)
def splK : Nat → List AV → List AV → (List AV → Prop) → Prop
 | 0, cs, vs, k => ovrK vs cs k
 | _ + 1, [], _, _ => False
 | n + 1, c :: cs, vs, k => splK n cs vs fun r => k (c :: r)
def appK {α : Type} : List α → α → (List α → Prop) → Prop
 | [], x, k => k [x]
 | a :: r, x, k => appK r x fun r' => k (a :: r')
def lenK {α : Type} : List α → Nat → (Nat → Prop) → Prop
 | [], n, k => k n
 | _ :: r, n, k => lenK r (n + 1) k
def ccK {α : Type} : List α → List α → (List α → Prop) → Prop
 | [], m, k => k m
 | a :: r, m, k => ccK r m fun r' => k (a :: r')
def mapD : List D → (List AV → Prop) → Prop
 | [], k => k []
 | x :: r, k => mapD r fun r' => k (.d x :: r')
def keepK (sl : Slots) : List Nat → (Slots → Prop) → Prop
 | [], k => k []
 | n :: ns, k => lkO sl n (fun v => keepK sl ns fun r => k ((n, v) :: r)) (keepK sl ns k)
where
 lkO : Slots → Nat → (AV → Prop) → Prop → Prop
 | [], _, _, e => e
 | (i, v) :: r, n, k, e => match Nat.beq i n with
   | true => k v
   | false => lkO r n k e
def unK (sl : Slots) (x : Opd) (v : AV) (k : Slots → Prop) : Prop :=
 match x, v with
 | .t n, .own es => k ((n, .d (.lst es)) :: sl)
 | _, _ => k sl
def ifK (b : Bool) (p : Prop) : Prop := match b with
 | true => p
 | false => False
def cellsK (v : AV) (k : List AV → Prop) : Prop := match v with
 | .agg cs => k cs
 | .tup _ => False
 | .own es => k [.own es]
 | .d x => k [.d x]
 | .nil => k [.nil]
 | .ptr r o => k [.ptr r o]
 | .ept c o => k [.ept c o]
 | .sref r o n => k [.sref r o n]
 | .fn f a b => k [.fn f a b]
 | .ifc t v => k [.ifc t v]
def fillK (sl : Slots) (cs : List AV) : List (Nat × Nat × Opd) → (List AV → Prop) → Prop
 | [], k => k cs
 | (off, size, x) :: r, k => gv sl x fun v => cellsK v fun vs => lenK vs 0 fun n => ifK (Nat.beq n size) (splK off cs vs fun cs' => fillK sl cs' r k)
def toDsK : List AV → (List D → Prop) → Prop
 | [], k => k []
 | v :: r, k => match v with
   | .d x => toDsK r fun r' => k (x :: r')
   | .nil => toDsK r fun r' => k (.lst [] :: r')
   | .own es => toDsK r fun r' => k (.lst es :: r')
   | _ => False
def chK (sz : Nat) : Nat → List D → (List (List D) → Prop) → Prop
 | 0, _, k => k []
 | n + 1, l, k => takeS sz l fun a => dropS sz l fun b => chK sz n b fun r => k (a :: r)
where
 dropS : Nat → List D → (List D → Prop) → Prop
 | 0, l, k => k l
 | _ + 1, [], k => k []
 | n + 1, _ :: l, k => dropS n l k
def ldK (rf : Refs) (agg : Option Nat) (p : AV) (k : AV → Prop) : Prop :=
 match p with
 | .ptr r off => nthK rf r fun cs => match agg with
   | none => nthK cs off k
   | some n => subK off n cs fun l => k (.agg l)
 | .ept cs off => match agg with
   | none => nthK cs off fun x => k (.d x)
   | some n => subK off n cs fun l => mapD l fun l' => k (.agg l')
 | _ => False
def partK (agg : Option Nat) (cs : List AV) (off : Nat) (k : AV → Prop) : Prop :=
 match agg with
 | none => nthK cs off k
 | some n => subK off n cs fun l => k (.agg l)
def stK (rf : Refs) (nb sz : Nat) (a v : AV) (k : Refs → Prop) : Prop :=
 match a with
 | .ptr r off => fzA v fun v' => cellsK v' fun vs => lenK vs 0 fun n => ifK (Nat.beq n sz && vs.all AV.one && (Nat.ble (AV.refBs vs) (r + 1) || Nat.ble nb r))
   (nthK rf r fun cs => splK off cs vs fun cs' => setK rf r cs' k)
 | _ => False
where
 fzA (v : AV) (k : AV → Prop) : Prop := match v with
 | .agg cs => fzs cs fun cs' => k (.agg cs')
 | .tup _ => False
 | .own es => k (.own es)
 | .d x => k (.d x)
 | .nil => k .nil
 | .ptr r o => k (.ptr r o)
 | .ept c o => k (.ept c o)
 | .sref r o n => k (.sref r o n)
 | .fn f a b => k (.fn f a b)
 | .ifc t v => k (.ifc t v)
def listK (v : AV) (k : List (List D) → Prop) : Prop := match v with
 | .d (.lst es) => k es
 | .own es => k es
 | .nil => k []
 | _ => False
def elemsK (v : AV) (k : List (List D) → Prop) : Prop := match v with
 | .d (.str s) => k (bytesOf s)
 | .d (.lst es) => k es
 | .own es => k es
 | .nil => k []
 | _ => False
def vint (op : BinOp) (q : IntKind) (a b : Int) (k : AV → Prop) : Prop :=
 match op with
 | .add => Unit → WrE q (a + b) fun n => k (.d (.int q n))
 | .sub => Unit → WrE q (a - b) fun n => k (.d (.int q n))
 | .mul => Unit → WrE q (a * b) fun n => k (.d (.int q n))
 | .quo => Unit → QuoE q a b fun n => k (.d (.int q n))
 | .rem => Unit → RemE a b fun n => k (.d (.int q n))
 | .and => Unit → BitE .and q a b fun n => k (.d (.int q n))
 | .or => Unit → BitE .or q a b fun n => k (.d (.int q n))
 | .xor => Unit → BitE .xor q a b fun n => k (.d (.int q n))
 | .andNot => Unit → BitE .andNot q a b fun n => k (.d (.int q n))
 | .eql => k (.d (.bool (decide (a = b))))
 | .neq => k (.d (.bool (decide (a ≠ b))))
 | .lss => k (.d (.bool (decide (a < b))))
 | .leq => k (.d (.bool (decide (a ≤ b))))
 | .gtr => k (.d (.bool (decide (b < a))))
 | .geq => k (.d (.bool (decide (b ≤ a))))
 | _ => False
def vstr (op : BinOp) (a b : List UInt8) (k : AV → Prop) : Prop :=
 match op with
 | .add => Unit → CatE a b fun l => k (.d (.str l))
 | .eql => k (.d (.bool (decide (a = b))))
 | .neq => k (.d (.bool (decide (a ≠ b))))
 | .lss => k (.d (.bool (Op.bytesLess a b)))
 | .leq => k (.d (.bool (Op.bytesLess a b || decide (a = b))))
 | .gtr => k (.d (.bool !(Op.bytesLess a b || decide (a = b))))
 | .geq => k (.d (.bool !(Op.bytesLess a b)))
 | _ => False
def kindEq : IntKind → IntKind → Bool := fun a b => decide (a = b)
def vbin (op : BinOp) (x y : AV) (k : AV → Prop) : Prop :=
 match x, y with
 | .d (.int q a), .d (.int q' b) =>
   match op with
   | .shl => Unit → ShE .shl q q' a b fun n => k (.d (.int q n))
   | .shr => Unit → ShE .shr q q' a b fun n => k (.d (.int q n))
   | op => ifK (kindEq q q') (vint op q a b k)
 | .d (.str a), .d (.str b) => vstr op a b k
 | _, _ => False
def optK (sl : Slots) (x : Option Opd) (k : Option Int → Prop) : Prop := match x with
 | none => k none
 | some x => gv sl x fun v => match v with
   | .d (.int _ n) => k (some n)
   | _ => False
def apK (sl : Slots) (r : Nat) : List Opd → Prop → Prop
 | [], p => p
 | x :: l, p => gv sl x fun v => match v with
   | .ptr q _ => match Nat.beq q r with
     | true => False
     | false => apK sl r l p
   | _ => False
def callK (T : Tb) (sl : Slots) (rf : Refs) (f : Opd) (args : List Opd) (k : Out → Refs → Prop) : Prop :=
 gv sl f fun fv => match fv with
  | .fn (.func id) first cap => gvs sl args fun vs => ccK vs cap fun l => ccK first l fun l => bargsK l fun l => Unit → CallE T id l rf k
  | _ => False
def setB : Slots → Nat → Bool → (Slots → Prop) → Prop
 | [], _, _, k => k []
 | (i, v) :: r, n, b, k => match Nat.beq i n with
   | true => k ((i, .d (.bool b)) :: r)
   | false => setB r n b fun r' => k ((i, v) :: r')
def setO (c : Opd) (sl : Slots) (b : Bool) (k : Slots → Prop) : Prop := match c with
 | .t n => setB sl n b k
 | _ => k sl
def vop (T : Tb) (o : AOpk) (sl : Slots) (rf : Refs) (df : DF) (pn : PN) (nb : Nat) (kv : AV → KN) (kn : KN) (kp : AV → KN) : Prop :=
 match o with
 | .mov x => gv sl x fun v => kv v sl rf df pn
 | .take t => lk sl t fun v => unK sl (.t t) v fun sl' => kv v sl' rf df pn
 | .asg x => raw sl x fun v => unK sl x v fun sl' => kv v sl' rf df pn
 | .pick c a b => gv sl c fun v => match v with
   | .d (.bool t) => Unit → CondE t (gv sl a fun v => setO c sl true fun sl => kv v sl rf df pn) (gv sl b fun v => setO c sl false fun sl => kv v sl rf df pn)
   | _ => False
 | .alloc cells => lenK rf 0 fun n => appK rf cells fun rf' => kv (.ptr n 0) sl rf' df pn
 | .box x => gv sl x fun v => cellsK v fun cs => lenK rf 0 fun n => appK rf cs fun rf' => kv (.ptr n 0) sl rf' df pn
 | .build zero parts => fillK sl zero parts fun cs => kv (.agg cs) sl rf df pn
 | .mkls sz zero parts => fillK sl zero parts fun cs => toDsK cs fun ds => lenK ds 0 fun n => ifK (Nat.ble 1 sz && Nat.ble n lim) (chK sz (n / sz) ds fun es => kv (.own es) sl rf df pn)
 | .load agg a => gv sl a fun p => ldK rf agg p fun v => fz v fun v => kv v sl rf df pn
 | .loadB agg a base => gv sl a fun p => gv sl base fun q => match p, q with
   | .ptr r off, .ptr r' _ => ifK (Nat.beq r r') (ldK rf agg (.ptr r off) fun v => fz v fun v => kv v sl rf df pn)
   | _, _ => False
 | .takeload a => gv sl a fun p => match p with
   | .ptr r off => nthK rf r fun cs => nthK cs off fun v => fz v fun v' => setK cs off v' fun cs' => setK rf r cs' fun rf' => kv v sl rf' df pn
   | _ => False
 | .recheck _ _ _ => False
 | .store sz a v => gv sl a fun p => raw sl v fun x => stK rf nb sz p x fun rf' => unK sl v x fun sl' => kn sl' rf' df pn
 | .storeW sz a v ws => gv sl a fun p => raw sl v fun x => match p with
   | .ptr r off => apK sl r ws (stK rf nb sz (.ptr r off) x fun rf' => unK sl v x fun sl' => kn sl' rf' df pn)
   | _ => False
 | .nilchk x => gv sl x fun v => match v with
   | .ptr r off => kv (.ptr r off) sl rf df pn
   | .ept cs off => kv (.ept cs off) sl rf df pn
   | .fn (.func id) a b => kv (.fn (.func id) a b) sl rf df pn
   | _ => False
 | .bin op x y => gv sl x fun a => gv sl y fun b => vbin op a b fun v => kv v sl rf df pn
 | .beq ne x y => gv sl x fun a => gv sl y fun b => match a, b with
   | .d (.bool a), .d (.bool b) => kv (.d (.bool ((a == b) != ne))) sl rf df pn
   | _, _ => False
 | .eqc ne ks x y => gv sl x fun a => gv sl y fun b => match a, b with
   | .agg a, .agg b => Unit → EqcE ks a b fun t => kv (.d (.bool (t != ne))) sl rf df pn
   | _, _ => False
 | .eqnil nk ne x => gv sl x fun a => Unit → NilE nk a fun t => kv (.d (.bool (t != ne))) sl rf df pn
 | .un op x => gv sl x fun a => match op, a with
   | .not, .d (.bool b) => kv (.d (.bool !b)) sl rf df pn
   | .neg, .d (.int q n) => Unit → WrE q (0 - n) fun n => kv (.d (.int q n)) sl rf df pn
   | .xor, .d (.int q n) => Unit → UnE .xor q n fun n => kv (.d (.int q n)) sl rf df pn
   | _, _ => False
 | .toInt k x => gv sl x fun a => match a with
   | .d (.int _ n) => Unit → WrE k n fun n => kv (.d (.int k n)) sl rf df pn
   | _ => False
 | .ident x => gv sl x fun a => match a with
   | .d (.str l) => kv (.d (.str l)) sl rf df pn
   | _ => False
 | .same x => raw sl x fun a => match a with
   | .own (e :: es) => unK sl x (.own (e :: es)) fun sl' => kv (.own (e :: es)) sl' rf df pn
   | _ => False
 | .strBytes x => gv sl x fun a => match a with
   | .d (.str l) => Unit → BytesE l fun v => kv v sl rf df pn
   | _ => False
 | .bytesStr x => gv sl x fun a => listK a fun es => Unit → StrE es fun l => kv (.d (.str l)) sl rf df pn
 | .mkifc t x => gv sl x fun v => kv (.ifc t v) sl rf df pn
 | .mkfn f first cap => gvs sl first fun a => gvs sl cap fun b => kv (.fn f a b) sl rf df pn
 | .sliceS x lo hi => gv sl x fun a => match a with
   | .d (.str l) => optK sl lo fun lo => optK sl hi fun hi => Unit → SubE l lo hi fun l => kv (.d (.str l)) sl rf df pn
   | _ => False
 | .slice sz x lo hi => gv sl x fun a => listK a fun l => optK sl lo fun lo => optK sl hi fun hi => Unit → SubL sz l lo hi fun l => kv (.d (.lst l)) sl rf df pn
 | .slArr n x lo hi => gv sl x fun a => match a with
   | .ptr r off => optK sl lo fun lo => optK sl hi fun hi => Unit → SubA n lo hi fun i j => kv (.sref r (off + i) (j - i)) sl rf df pn
   | _ => False
 | .fldA off x => gv sl x fun a => match a with
   | .ptr r o => kv (.ptr r (o + off)) sl rf df pn
   | .ept cs o => kv (.ept cs (o + off)) sl rf df pn
   | _ => False
 | .fld off agg x => gv sl x fun a => match a with
   | .agg cs => partK agg cs off fun v => kv v sl rf df pn
   | _ => False
 | .idxA arr sz x i => gv sl i fun i => gv sl x fun a => match i, arr with
   | .d (.int _ n), some m => (match a with
     | .ptr r off => Unit → IdxA m n fun j => kv (.ptr r (off + j * sz)) sl rf df pn
     | .ept cs off => Unit → IdxA m n fun j => kv (.ept cs (off + j * sz)) sl rf df pn
     | _ => False)
   | .d (.int _ n), none => listK a fun es => Unit → IdxL sz es n fun cs => kv (.ept cs 0) sl rf df pn
   | _, _ => False
 | .idxS x i => gv sl x fun a => gv sl i fun i => match a, i with
   | .d (.str l), .d (.int _ n) => Unit → IdxS l n fun b => kv (.d (.int .u8 b.toNat)) sl rf df pn
   | _, _ => False
 | .idxV m sz agg x i => gv sl x fun a => gv sl i fun i => match a, i with
   | .agg cs, .d (.int _ n) => Unit → IdxA m n fun j => partK agg cs (j * sz) fun v => kv v sl rf df pn
   | _, _ => False
 | .assertT t zero x => gv sl x fun a => match a with
   | .ifc t' v => match Nat.beq t' t with
     | true => kv (.tup [v, .d (.bool true)]) sl rf df pn
     | false => kv (.tup [zero, .d (.bool false)]) sl rf df pn
   | .d .nilI => kv (.tup [zero, .d (.bool false)]) sl rf df pn
   | _ => False
 | .extr x i => gv sl x fun a => match a with
   | .tup vs => nthK vs i fun v => kv v sl rf df pn
   | _ => False
 | .call f args => callK T sl rf f args fun o rf' => match o with
   | .ret v => kv v sl rf' df pn
   | .pan v => kp v sl rf' df pn
 | .callZ f args => gv sl f fun fv => match fv with
   | .fn (.func id) first cap => gvs sl args fun vs => ccK vs cap fun l => ccK first l fun l => bargsK l fun l => ifK (Nat.beq (AV.refBs l) 0) (Unit → CallE T id l [] fun o _ => match o with
     | .ret v => kv v sl rf df pn
     | .pan _ => False)
   | _ => False
 | .callQ f args => callK T sl rf f args fun o rf' => match o with
   | .ret v => rf' = rf ∧ kv v sl rf df pn
   | .pan _ => False
 | .lenS x => gv sl x fun a => match a with
   | .d (.str l) => kv (.d (.int .i64 l.length)) sl rf df pn
   | _ => False
 | .len x => gv sl x fun a => match a with
   | .sref _ _ n => kv (.d (.int .i64 n)) sl rf df pn
   | .d (.lst es) => kv (.d (.int .i64 es.length)) sl rf df pn
   | .nil => kv (.d (.int .i64 (0 : Nat))) sl rf df pn
   | _ => False
 | .lenArr n => kv (.d (.int .i64 n)) sl rf df pn
 | .append sz x y => raw sl x fun a => gv sl y fun b => elemsK b fun ys => match a with
   | .own es => Unit → AppE sz es ys fun es' => unK sl x (.own es) fun sl' => kv (.own es') sl' rf df pn
   | .nil => Unit → AppN sz ys fun v => kv v sl rf df pn
   | _ => False
 | .copy x y => gv sl x fun a => gv sl y fun b => match a with
   | .sref r off n => listK b fun es => nthK rf r fun cs => Unit → CopyE n cs off es fun m cs' => setK rf r cs' fun rf' => kv (.d (.int .i64 m)) sl rf' df pn
   | _ => False
 | .min x y => gv sl x fun a => gv sl y fun b => match a, b with
   | .d (.int k a), .d (.int k' b) => ifK (kindEq k k') (kv (.d (.int k (min a b))) sl rf df pn)
   | _, _ => False
 | .max x y => gv sl x fun a => gv sl y fun b => match a, b with
   | .d (.int k a), .d (.int k' b) => ifK (kindEq k k') (kv (.d (.int k (max a b))) sl rf df pn)
   | _, _ => False
 | .recover => match pn with
   | some (some v) => fz v fun v => kv v sl rf df (some none)
   | some none => kv (.d .nilI) sl rf df (some none)
   | none => False
 | .defer f args => gv sl f fun fv => match fv with
   | .fn (.func id) first cap => gvs sl args fun vs => baresK vs fun vs => kn sl rf ((.fn (.func id) first cap, vs) :: df) pn
   | _ => False
 | .panic x => gv sl x fun a => match a with
   | .ifc t v => kp (.ifc t v) sl rf df pn
   | _ => False
def putK (dst : Option Nat) (v : AV) (sl : Slots) (k : Slots → Prop) : Prop :=
 match dst with
 | some d => k ((d, v) :: sl)
 | none => k sl
def putN (dst : Option Nat) (k : KN) : AV → KN := fun v sl rf df pn => putK dst v sl fun sl => k sl rf df pn
def panN (may : Bool) (X : KX) : AV → KN := fun v sl rf df pn => ifK may (X (.pan v) sl rf df pn)
def offN (dst : Option Nat) (k : KN) : KN := fun sl rf df pn => putK dst (.tup []) sl fun sl => k sl rf df pn
def onN (T : Tb) (nb : Nat) (dst : Option Nat) (op : AOpk) (may : Bool) (k : KN) (X : KX) : KN := fun sl rf df pn => vop T op sl rf df pn nb (putN dst k) k (panN may X)
def grdN (t : Nat) (w : Bool) (on off : KN) : KN := fun sl rf df pn => lk sl t fun g => match g with
 | .tup [] => off sl rf df pn
 | .d (.bool x) => (match w with
   | true => Unit → CondE x (setB sl t true fun sl => on sl rf df pn) (setB sl t false fun sl => off sl rf df pn)
   | false => Unit → CondE x (setB sl t true fun sl => off sl rf df pn) (setB sl t false fun sl => on sl rf df pn))
 | _ => False
def vops (T : Tb) (nb : Nat) (N : KN) (X : KX) : List AOp → KN
 | [] => N
 | ⟨dst, op, none, may⟩ :: r => onN T nb dst op may (vops T nb N X r) X
 | ⟨dst, op, some (t, w), may⟩ :: r => grdN t w (onN T nb dst op may (vops T nb N X r) X) (offN dst (vops T nb N X r))
def cndN (c : Opd) (t e : KN) : KN := fun sl rf df pn => gv sl c fun v => match v with
 | .d (.bool x) => Unit → CondE x (setO c sl true fun sl => t sl rf df pn) (setO c sl false fun sl => e sl rf df pn)
 | _ => False
def blkX (i : Nat) (N : KN) (X : KX) : KX := fun e sl rf df pn => match e with
 | .exit j => (match Nat.beq j i with
   | true => N sl rf df pn
   | false => X (.exit j) sl rf df pn)
 | .nrm => X .nrm sl rf df pn
 | .ret => X .ret sl rf df pn
 | .goto l => X (.goto l) sl rf df pn
 | .pan v => X (.pan v) sl rf df pn
def kepN (keep : List Nat) (N : KN) : KN := fun sl rf df pn => keepK sl keep fun sl => N sl rf df pn
def lopN (T : Tb) (nb : Nat) (keep : List Nat) (b : AC) (X : KX) : KN := fun sl rf df pn => keepK sl keep fun sl => Unit → LoopE T keep b sl rf df pn nb X
def holN : KN := fun _ _ _ _ => Unit → HoleE
def nogX (X : KX) : KX := fun e sl rf df pn => match e with
 | .goto _ => False
 | .exit i => X (.exit i) sl rf df pn
 | .nrm => X .nrm sl rf df pn
 | .ret => X .ret sl rf df pn
 | .pan v => X (.pan v) sl rf df pn
def scoX (l : Nat) (r : KN) (X : KX) : KX := fun e sl rf df pn => match e with
 | .goto j => (match Nat.beq j l with
   | true => r sl rf df pn
   | false => False)
 | .exit i => X (.exit i) sl rf df pn
 | .nrm => X .nrm sl rf df pn
 | .ret => X .ret sl rf df pn
 | .pan v => X (.pan v) sl rf df pn
def vc (T : Tb) (nb : Nat) : AC → KN → KX → KN
 | .skip => fun N _ => N
 | .ops l => fun N X => vops T nb N X l
 | .seq a b => fun N X => vc T nb a (vc T nb b N X) X
 | .cond c t e => fun N X => cndN c (vc T nb t N X) (vc T nb e N X)
 | .block i b => fun N X => vc T nb b N (blkX i N X)
 | .loop keep b => fun _ X => lopN T nb keep b X
 | .exit i => fun _ X => X (.exit i)
 | .ret => fun _ X => X .ret
 | .trim keep b => fun N X => vc T nb b (kepN keep N) X
 | .hole => fun _ _ => holN
 | .label => fun N _ => N
 | .goto l => fun _ X => X (.goto l)
 | .scope l b r => fun N X => vc T nb b N (scoX l (vc T nb r N (nogX X)) X)
end Go.Ab
namespace Go.Ab
theorem lk_el : ∀ {sl : Slots} {n : Nat} {k : AV → Prop}, lk sl n k → ∃ v, sl.get n = some v ∧ k v
 | [], _, _, h => h.elim
 | (i, v) :: r, n, k, h => by
   simp only [lk] at h
   split at h <;> rename_i hb
   ·have := Nat.eq_of_beq_eq_true hb
    exact ⟨v, by simp [Slots.get, this], h⟩
   ·have : i ≠ n := by intro e; subst e; simp at hb
    obtain ⟨w, h1, h2⟩ := lk_el h
    exact ⟨w, by simp [Slots.get, this, h1], h2⟩
theorem raw_el {sl : Slots} {x : Opd} {k : AV → Prop} (h : raw sl x k) : ∃ v, rawO sl x = some v ∧ k v := by
 cases x with
 | t n => exact lk_el h
 | c v => exact ⟨v, rfl, h⟩
 | f id => exact ⟨_, rfl, h⟩
mutual
theorem fz_el' : ∀ (v : AV) (k : AV → Prop), fz v k → k v.strip
 | .own es, k, h => by simp only [fz] at h; simp only [AV.strip]; exact h
 | .agg cs, k, h => by simp only [fz] at h; simp only [AV.strip]; exact fzs_el' cs _ h
 | .ifc t v, k, h => by simp only [fz] at h; simp only [AV.strip]; exact fz_el' v _ h
 | .tup vs, k, h => by simp only [fz] at h; simp only [AV.strip]; exact fzs_el' vs _ h
 | .d x, k, h => by simp only [fz] at h; simp only [AV.strip]; exact h
 | .nil, k, h => by simp only [fz] at h; simp only [AV.strip]; exact h
 | .ptr r o, k, h => by simp only [fz] at h; simp only [AV.strip]; exact h
 | .ept c o, k, h => by simp only [fz] at h; simp only [AV.strip]; exact h
 | .sref r o n, k, h => by simp only [fz] at h; simp only [AV.strip]; exact h
 | .fn f a b, k, h => by simp only [fz] at h; simp only [AV.strip]; exact h
theorem fzs_el' : ∀ (l : List AV) (k : List AV → Prop), fzs l k → k (AV.strips l)
 | [], k, h => by simp only [fzs] at h; simp only [AV.strips]; exact h
 | v :: r, k, h => by
   simp only [fzs] at h
   have h1 := fz_el' v _ h
   simp only [AV.strips]
   exact fzs_el' r _ h1
end
theorem fz_el {v : AV} {k : AV → Prop} (h : fz v k) : k v.strip := fz_el' v k h
theorem fzs_el {v : List AV} {k : List AV → Prop} (h : fzs v k) : k (AV.strips v) := fzs_el' v k h
mutual
theorem bareK_el' : ∀ (v : AV) (k : AV → Prop), bareK v k → k v.bare
 | .own es, k, h => by simp only [bareK] at h; simp only [AV.bare]; exact h
 | .agg cs, k, h => by simp only [bareK] at h; simp only [AV.bare]; exact baresK_el' cs _ h
 | .ifc t v, k, h => by simp only [bareK] at h; simp only [AV.bare]; exact bareK_el' v _ h
 | .tup vs, k, h => by simp only [bareK] at h; simp only [AV.bare]; exact h
 | .d x, k, h => by simp only [bareK] at h; simp only [AV.bare]; exact h
 | .nil, k, h => by simp only [bareK] at h; simp only [AV.bare]; exact h
 | .ptr r o, k, h => by simp only [bareK] at h; simp only [AV.bare]; exact h
 | .ept c o, k, h => by simp only [bareK] at h; simp only [AV.bare]; exact h
 | .sref r o n, k, h => by simp only [bareK] at h; simp only [AV.bare]; exact h
 | .fn f a b, k, h => by simp only [bareK] at h; simp only [AV.bare]; exact h
theorem baresK_el' : ∀ (l : List AV) (k : List AV → Prop), baresK l k → k (AV.bares l)
 | [], k, h => by simp only [baresK] at h; simp only [AV.bares]; exact h
 | v :: r, k, h => by
   simp only [baresK] at h
   have h1 := bareK_el' v _ h
   simp only [AV.bares]
   exact baresK_el' r _ h1
end
theorem bargK_el : ∀ (v : AV) (k : AV → Prop), bargK v k → k v.barg
 | .own es, k, h => h
 | .agg cs, k, h => by simp only [bargK] at h; simp only [AV.barg, AV.bare]; exact baresK_el' cs _ h
 | .ifc t v, k, h => by simp only [bargK] at h; simp only [AV.barg, AV.bare]; exact bareK_el' v _ h
 | .tup vs, k, h => h
 | .d x, k, h => h
 | .nil, k, h => h
 | .ptr r o, k, h => h
 | .ept c o, k, h => h
 | .sref r o n, k, h => h
 | .fn f a b, k, h => h
theorem bargsK_el' : ∀ (l : List AV) (k : List AV → Prop), bargsK l k → k (AV.bargs l)
 | [], k, h => by simp only [bargsK] at h; simp only [AV.bargs]; exact h
 | v :: r, k, h => by
   simp only [bargsK] at h
   have h1 := bargK_el v _ h
   simp only [AV.bargs]
   exact bargsK_el' r _ h1
theorem bargsK_el {v : List AV} {k : List AV → Prop} (h : bargsK v k) : k (AV.bargs v) := bargsK_el' v k h
theorem bareK_el {v : AV} {k : AV → Prop} (h : bareK v k) : k v.bare := bareK_el' v k h
theorem baresK_el {v : List AV} {k : List AV → Prop} (h : baresK v k) : k (AV.bares v) := baresK_el' v k h
theorem gv_el {sl : Slots} {x : Opd} {k : AV → Prop} (h : gv sl x k) : ∃ v, getO sl x = some v ∧ k v := by
 obtain ⟨v, h1, h2⟩ := raw_el h
 exact ⟨v.strip, by simp [getO, h1], fz_el h2⟩
theorem gvs_el {sl : Slots} : ∀ {l : List Opd} {k : List AV → Prop}, gvs sl l k → ∃ vs, getOs sl l = some vs ∧ k vs
 | [], k, h => ⟨[], rfl, h⟩
 | x :: r, k, h => by
   obtain ⟨v, h1, h2⟩ := gv_el h
   obtain ⟨vs, h3, h4⟩ := gvs_el h2
   exact ⟨v :: vs, by simp [getOs, h1, h3], h4⟩
theorem nthK_el {α : Type} : ∀ {l : List α} {i : Nat} {k : α → Prop}, nthK l i k → ∃ v, l[i]? = some v ∧ k v
 | [], i, k, h => by cases i <;> exact h.elim
 | a :: r, 0, k, h => ⟨a, rfl, h⟩
 | a :: r, i + 1, k, h => by
   obtain ⟨v, h1, h2⟩ := nthK_el (l := r) h
   exact ⟨v, by simpa using h1, h2⟩
theorem setK_el {α : Type} : ∀ {l : List α} {i : Nat} {v : α} {k : List α → Prop}, setK l i v k → k (l.set i v)
 | [], i, v, k, h => by cases i <;> exact h.elim
 | a :: r, 0, v, k, h => h
 | a :: r, i + 1, v, k, h => setK_el (l := r) h
theorem takeK_el {α : Type} : ∀ {n : Nat} {l : List α} {k : List α → Prop}, takeK n l k → n ≤ l.length ∧ k (l.take n)
 | 0, l, k, h => ⟨Nat.zero_le _, by simpa [takeK] using h⟩
 | n + 1, [], k, h => h.elim
 | n + 1, a :: r, k, h => by
   obtain ⟨h1, h2⟩ := takeK_el (l := r) h
   exact ⟨by simpa using h1, by simpa using h2⟩
theorem subK_el {α : Type} : ∀ {i n : Nat} {l : List α} {k : List α → Prop}, subK i n l k → i + n ≤ l.length ∧ k ((l.drop i).take n)
 | 0, n, l, k, h => by
   obtain ⟨h1, h2⟩ := takeK_el (l := l) h
   exact ⟨by omega, by simpa using h2⟩
 | i + 1, n, [], k, h => h.elim
 | i + 1, n, a :: r, k, h => by
   obtain ⟨h1, h2⟩ := subK_el (l := r) h
   exact ⟨by simp; omega, by simpa using h2⟩
theorem takeS_el {α : Type} : ∀ {n : Nat} {l : List α} {k : List α → Prop}, takeS n l k → k (l.take n)
 | 0, l, k, h => by simpa [takeS] using h
 | n + 1, [], k, h => by simpa [takeS] using h
 | n + 1, a :: r, k, h => by simpa using takeS_el (l := r) h
theorem dropS_el : ∀ {n : Nat} {l : List D} {k : List D → Prop}, chK.dropS n l k → k (l.drop n)
 | 0, l, k, h => by simpa [chK.dropS] using h
 | n + 1, [], k, h => by simpa [chK.dropS] using h
 | n + 1, a :: r, k, h => by simpa using dropS_el (l := r) h
theorem setRange_cons : ∀ (vs : List AV) (c : AV) (cs : List AV) (n : Nat), setRange (c :: cs) (n + 1) vs = c :: setRange cs n vs
 | [], c, cs, n => rfl
 | v :: vs, c, cs, n => by simp only [setRange, List.set_cons_succ]; exact setRange_cons vs c _ _
theorem ovrK_el : ∀ {vs cs : List AV} {k : List AV → Prop}, ovrK vs cs k → vs.length ≤ cs.length ∧ k (setRange cs 0 vs)
 | [], cs, k, h => ⟨Nat.zero_le _, by simp only [ovrK] at h; simp only [setRange]; exact h⟩
 | v :: vs, [], k, h => h.elim
 | v :: vs, c :: cs, k, h => by
   obtain ⟨h1, h2⟩ := ovrK_el (vs := vs) (cs := cs) h
   refine ⟨by simpa using h1, ?_⟩
   simp only [setRange, List.set_cons_zero, setRange_cons]
   exact h2
theorem splK_el : ∀ {off : Nat} {cs vs : List AV} {k : List AV → Prop}, splK off cs vs k → off + vs.length ≤ cs.length ∧ k (setRange cs off vs)
 | 0, cs, vs, k, h => by
   obtain ⟨h1, h2⟩ := ovrK_el (vs := vs) (cs := cs) h
   exact ⟨by omega, h2⟩
 | n + 1, [], vs, k, h => h.elim
 | n + 1, c :: cs, vs, k, h => by
   obtain ⟨h1, h2⟩ := splK_el (off := n) (cs := cs) (vs := vs) h
   exact ⟨by simp; omega, by rw [setRange_cons]; exact h2⟩
theorem appK_el {α : Type} : ∀ {l : List α} {x : α} {k : List α → Prop}, appK l x k → k (l ++ [x])
 | [], x, k, h => h
 | a :: r, x, k, h => appK_el (l := r) h
theorem lenK_el {α : Type} : ∀ {l : List α} {n : Nat} {k : Nat → Prop}, lenK l n k → k (n + l.length)
 | [], n, k, h => h
 | a :: r, n, k, h => by
   have := lenK_el (l := r) h
   rwa [show n + (a :: r).length = n + 1 + r.length by simp; omega]
theorem ccK_el {α : Type} : ∀ {l m : List α} {k : List α → Prop}, ccK l m k → k (l ++ m)
 | [], m, k, h => h
 | a :: r, m, k, h => ccK_el (l := r) h
theorem mapD_el : ∀ {l : List D} {k : List AV → Prop}, mapD l k → k (l.map .d)
 | [], k, h => h
 | a :: r, k, h => mapD_el (l := r) h
theorem lkO_el : ∀ {sl : Slots} {n : Nat} {k : AV → Prop} {e : Prop}, keepK.lkO sl n k e → match sl.get n with | some v => k v | none => e
 | [], _, _, _, h => h
 | (i, v) :: r, n, k, e, h => by
   simp only [keepK.lkO] at h
   split at h <;> rename_i hb
   ·have := Nat.eq_of_beq_eq_true hb
    simpa [Slots.get, this] using h
   ·have hne : i ≠ n := by intro e; subst e; simp at hb
    have := lkO_el h
    simpa [Slots.get, hne] using this
theorem keepK_el {sl : Slots} : ∀ {ns : List Nat} {k : Slots → Prop}, keepK sl ns k → k (sl.keep ns)
 | [], k, h => h
 | n :: ns, k, h => by
   have := lkO_el h
   simp only [Slots.keep]
   split at this <;> rename_i hg
   ·rw [hg]; exact keepK_el this
   ·rw [hg]; exact keepK_el this
theorem unK_el {sl : Slots} {x : Opd} {v : AV} {k : Slots → Prop} {rf : Refs} {df : DF} {pn : PN} {nb : Nat} (h : unK sl x v k) (hx : rawO sl x = some v) :
  ∃ sl', unOwn ⟨sl, rf, df, pn, nb⟩ x = ⟨sl', rf, df, pn, nb⟩ ∧ k sl' := by
 cases x with
 | t n =>
   simp only [rawO] at hx
   simp only [unOwn, hx]
   cases v <;> exact ⟨_, rfl, h⟩
 | c w => exact ⟨sl, rfl, by cases v <;> exact h⟩
 | f id => exact ⟨sl, rfl, by cases v <;> exact h⟩
theorem ifK_el {b : Bool} {p : Prop} (h : ifK b p) : b = true ∧ p := by cases b <;> first | exact h.elim | exact ⟨rfl, h⟩
theorem cellsK_el {v : AV} {k : List AV → Prop} (h : cellsK v k) : v.solid = true ∧ k v.cells := by
 cases v <;> first | exact h.elim | exact ⟨rfl, h⟩
theorem fillK_el {sl : Slots} : ∀ {parts : List (Nat × Nat × Opd)} {cs : List AV} {k : List AV → Prop}, fillK sl cs parts k → ∃ r, fillA sl cs parts = some r ∧ k r
 | [], cs, k, h => ⟨cs, rfl, h⟩
 | (off, size, x) :: ps, cs, k, h => by
   obtain ⟨v, h1, h2⟩ := gv_el h
   obtain ⟨h3, h4⟩ := cellsK_el h2
   obtain ⟨h5, h6⟩ := ifK_el (lenK_el h4)
   obtain ⟨h7, h8⟩ := splK_el h6
   obtain ⟨r, h9, h10⟩ := fillK_el h8
   have h5' := Nat.eq_of_beq_eq_true h5
   rw [Nat.zero_add] at h5'
   refine ⟨r, ?_, h10⟩
   simp only [fillA, h1]
   rw [if_pos ⟨h5', by omega, h3⟩]
   exact h9
theorem toDsK_el : ∀ {l : List AV} {k : List D → Prop}, toDsK l k → ∃ ds, toDs l = some ds ∧ k ds
 | [], k, h => ⟨[], rfl, h⟩
 | v :: r, k, h => by
   cases v <;> first
    | exact h.elim
    | (obtain ⟨ds, h1, h2⟩ := toDsK_el (l := r) h
       exact ⟨_, by simp only [toDs, AV.toD, h1], h2⟩)
theorem chK_el {sz : Nat} : ∀ {n : Nat} {l : List D} {k : List (List D) → Prop}, chK sz n l k → k (chunks sz n l)
 | 0, l, k, h => by simp only [chK] at h; simp only [chunks]; exact h
 | n + 1, l, k, h => by
   simp only [chK] at h
   exact chK_el (n := n) (dropS_el (takeS_el h))
theorem ldK_el {rf : Refs} {agg : Option Nat} {p : AV} {k : AV → Prop} (h : ldK rf agg p k) : ∃ v, loadAt rf agg p = some v ∧ k v := by
 cases p with
 | ptr r off =>
   obtain ⟨cs, h1, h2⟩ := nthK_el h
   cases agg with
   | none =>
     obtain ⟨v, h3, h4⟩ := nthK_el h2
     exact ⟨v, by simp only [loadAt, h1, h3], h4⟩
   | some n =>
     obtain ⟨h3, h4⟩ := subK_el h2
     exact ⟨_, by simp only [loadAt, Refs.cellsAt, h1, h3, if_true, Option.map_some], h4⟩
 | ept cs off =>
   cases agg with
   | none =>
     obtain ⟨v, h3, h4⟩ := nthK_el h
     exact ⟨_, by simp only [loadAt, h3, Option.map_some], h4⟩
   | some n =>
     obtain ⟨h3, h4⟩ := subK_el h
     exact ⟨_, by simp only [loadAt, h3, if_true], mapD_el h4⟩
 | _ => exact h.elim
theorem partK_el {agg : Option Nat} {cs : List AV} {off : Nat} {k : AV → Prop} (h : partK agg cs off k) : ∃ v, partA agg cs off = some v ∧ k v := by
 cases agg with
 | none => exact nthK_el h
 | some n =>
   obtain ⟨h3, h4⟩ := subK_el h
   exact ⟨_, by simp only [partA, h3, if_true], h4⟩
theorem stK_el {rf : Refs} {nb sz : Nat} {a v : AV} {k : Refs → Prop} (h : stK rf nb sz a v k) : ∃ rf', storeAt rf nb sz a v = some rf' ∧ k rf' := by
 cases a with
 | ptr r off =>
   have key : ∀ vs, vs = v.cellsO → (lenK vs 0 fun n => ifK (Nat.beq n sz && vs.all AV.one && (Nat.ble (AV.refBs vs) (r + 1) || Nat.ble nb r))
    (nthK rf r fun cs => splK off cs vs fun cs' => setK rf r cs' k)) → ∃ rf', storeAt rf nb sz (.ptr r off) v = some rf' ∧ k rf' := fun vs hv h => by
    subst hv
    obtain ⟨h1, h2⟩ := ifK_el (lenK_el h)
    obtain ⟨cs, h3, h4⟩ := nthK_el h2
    obtain ⟨h5, h6⟩ := splK_el h4
    have h7 := setK_el h6
    simp only [Bool.and_eq_true, Bool.or_eq_true, Nat.zero_add] at h1
    have h8 := Nat.eq_of_beq_eq_true h1.1.1
    refine ⟨_, ?_, h7⟩
    simp only [storeAt]
    rw [if_neg (by simp [h8, h1.1.2]), h3]
    simp only
    rw [if_pos ⟨by omega, h1.2.imp Nat.le_of_ble_eq_true Nat.le_of_ble_eq_true⟩]
   simp only [stK] at h
   cases v with
   | agg cs => exact key _ rfl (fzs_el h)
   | tup vs => exact h.elim
   | own es => exact key _ rfl h
   | d x => exact key _ rfl h
   | nil => exact key _ rfl h
   | ptr r o => exact key _ rfl h
   | ept c o => exact key _ rfl h
   | sref r o n => exact key _ rfl h
   | fn f a b => exact key _ rfl h
   | ifc t v => exact key _ rfl h
 | _ => exact h.elim
theorem listK_el {v : AV} {k : List (List D) → Prop} (h : listK v k) : ∃ es, v.list? = some es ∧ k es := by
 cases v with
 | d x => cases x <;> first | exact h.elim | exact ⟨_, rfl, h⟩
 | own es => exact ⟨_, rfl, h⟩
 | nil => exact ⟨_, rfl, h⟩
 | _ => exact h.elim
theorem elemsK_el {v : AV} {k : List (List D) → Prop} (h : elemsK v k) : ∃ es, v.elems? = some es ∧ k es := by
 cases v with
 | d x => cases x <;> first | exact h.elim | exact ⟨_, rfl, h⟩
 | own es => exact ⟨_, rfl, h⟩
 | nil => exact ⟨_, rfl, h⟩
 | _ => exact h.elim
theorem vint_el {op : BinOp} {q : IntKind} {a b : Int} {k : AV → Prop} (h : vint op q a b k) (h1 : op ≠ .shl) (h2 : op ≠ .shr) : ∃ v, binA op (.d (.int q a)) (.d (.int q b)) = some v ∧ k v := by
 cases op
 case add => exact ⟨_, by simp only [binA, if_true, intBin], (h ()).h⟩
 case sub => exact ⟨_, by simp only [binA, if_true, intBin], (h ()).h⟩
 case mul => exact ⟨_, by simp only [binA, if_true, intBin], (h ()).h⟩
 case quo =>
  obtain ⟨h0, h⟩ := h ()
  exact ⟨_, by simp only [binA, if_true, intBin, h0, if_false], h⟩
 case rem =>
  obtain ⟨h0, h⟩ := h ()
  exact ⟨_, by simp only [binA, if_true, intBin, h0, if_false], h⟩
 case and => obtain ⟨n, h3, h4⟩ := h (); exact ⟨_, h3, h4⟩
 case or => obtain ⟨n, h3, h4⟩ := h (); exact ⟨_, h3, h4⟩
 case xor => obtain ⟨n, h3, h4⟩ := h (); exact ⟨_, h3, h4⟩
 case andNot => obtain ⟨n, h3, h4⟩ := h (); exact ⟨_, h3, h4⟩
 case eql =>
  refine ⟨.d (.bool (a == b)), by simp only [binA, if_true, intBin], ?_⟩
  have e : (a == b) = decide (a = b) := by rw [Bool.eq_iff_iff]; simp
  rw [e]; exact h
 case neq =>
  refine ⟨.d (.bool (a != b)), by simp only [binA, if_true, intBin], ?_⟩
  have e : (a != b) = decide (a ≠ b) := by rw [Bool.eq_iff_iff]; simp
  rw [e]; exact h
 case lss => exact ⟨.d (.bool (decide (a < b))), by simp only [binA, if_true, intBin], h⟩
 case leq => exact ⟨.d (.bool (decide (a ≤ b))), by simp only [binA, if_true, intBin], h⟩
 case gtr => exact ⟨.d (.bool (decide (a > b))), by simp only [binA, if_true, intBin], h⟩
 case geq => exact ⟨.d (.bool (decide (a ≥ b))), by simp only [binA, if_true, intBin], h⟩
 case shl => exact absurd rfl h1
 case shr => exact absurd rfl h2
 all_goals exact h.elim
theorem vstr_el {op : BinOp} {a b : List UInt8} {k : AV → Prop} (h : vstr op a b k) : ∃ v, strBin op a b = some v ∧ k v := by
 have e : (a == b) = decide (a = b) := by rw [Bool.eq_iff_iff]; simp
 cases op
 case add =>
  obtain ⟨h0, h⟩ := h ()
  exact ⟨_, by simp only [strBin, h0, if_true], h⟩
 case eql => exact ⟨_, rfl, by rw [e]; exact h⟩
 case neq =>
  refine ⟨_, rfl, ?_⟩
  have e2 : (!(a == b)) = decide (a ≠ b) := by rw [e]; simp
  rw [e2]; exact h
 case lss => exact ⟨_, rfl, h⟩
 case leq => exact ⟨_, rfl, by rw [e]; exact h⟩
 case gtr => exact ⟨_, rfl, by rw [e]; exact h⟩
 case geq => exact ⟨_, rfl, h⟩
 all_goals exact h.elim
theorem vbin_el {op : BinOp} {x y : AV} {k : AV → Prop} (h : vbin op x y k) : ∃ v, binA op x y = some v ∧ k v := by
 cases x with
 | d x =>
   cases y with
   | d y =>
     cases x with
     | int q a =>
       cases y with
       | int q' b =>
         by_cases h1 : op = .shl
         ·subst h1
          obtain ⟨n, h3, h4⟩ := h ()
          exact ⟨_, h3, h4⟩
         by_cases h2 : op = .shr
         ·subst h2
          obtain ⟨n, h3, h4⟩ := h ()
          exact ⟨_, h3, h4⟩
         have h' : ifK (kindEq q q') (vint op q a b k) := by
          cases op <;> first | exact absurd rfl h1 | exact absurd rfl h2 | exact h
         obtain ⟨h3, h4⟩ := ifK_el h'
         have h5 : q = q' := of_decide_eq_true h3
         subst h5
         exact vint_el h4 h1 h2
       | _ => exact h.elim
     | str a =>
       cases y with
       | str b => exact vstr_el h
       | _ => exact h.elim
     | _ => cases y <;> exact h.elim
   | _ => cases x <;> exact h.elim
 | _ => cases y <;> exact h.elim
theorem optK_el {sl : Slots} {x : Option Opd} {k : Option Int → Prop} (h : optK sl x k) : ∃ o, (∀ d i : Nat, o.getD (d : Int) = (i : Int) → asIdx sl x d = some i) ∧ k o := by
 cases x with
 | none =>
   refine ⟨none, fun d i e => ?_, h⟩
   simp only [Option.getD_none] at e
   simp only [asIdx, Option.some.injEq]; omega
 | some x =>
   obtain ⟨v, h1, h2⟩ := gv_el h
   cases v with
   | d y =>
     cases y with
     | int q n =>
       refine ⟨some n, fun d i e => ?_, h2⟩
       simp only [Option.getD_some] at e
       subst e
       simp [asIdx, h1]
     | _ => exact h2.elim
   | _ => exact h2.elim
theorem apK_el {sl : Slots} {r : Nat} : ∀ {l : List Opd} {p : Prop}, apK sl r l p → apartB sl r l = true ∧ p
 | [], p, h => ⟨rfl, h⟩
 | x :: l, p, h => by
   obtain ⟨v, h1, h2⟩ := gv_el h
   cases v with
   | ptr q off =>
     simp only at h2
     split at h2 <;> rename_i hb
     ·exact h2.elim
     ·obtain ⟨h3, h4⟩ := apK_el h2
      have hne : q ≠ r := by intro e; subst e; simp at hb
      exact ⟨by simp [apartB, h1, h3, hne], h4⟩
   | _ => exact h2.elim
theorem setB_el : ∀ {sl : Slots} {n : Nat} {b : Bool} {k : Slots → Prop}, setB sl n b k → sl.get n = some (.d (.bool b)) → k sl
 | [], n, b, k, h, _ => h
 | (i, v) :: r, n, b, k, h, hg => by
   simp only [setB] at h
   split at h <;> rename_i hb
   ·have := Nat.eq_of_beq_eq_true hb
    simp only [Slots.get, this, if_true, Option.some.injEq] at hg
    subst hg
    exact h
   ·have hne : i ≠ n := by intro e; subst e; simp at hb
    simp only [Slots.get, hne, if_false] at hg
    exact setB_el (sl := r) (k := fun r' => k ((i, v) :: r')) h hg
theorem getO_bool {sl : Slots} {x : Opd} {b : Bool} (h : getO sl x = some (.d (.bool b))) : rawO sl x = some (.d (.bool b)) := by
 simp only [getO, Option.map_eq_some_iff] at h
 obtain ⟨u, h1, h2⟩ := h
 rw [h1]
 cases u <;> simp [AV.strip] at h2
 rw [h2]
theorem setO_el {c : Opd} {sl : Slots} {b : Bool} {k : Slots → Prop} (h : setO c sl b k) (hg : getO sl c = some (.d (.bool b))) : k sl := by
 cases c with
 | t n => exact setB_el h (getO_bool hg)
 | c v => exact h
 | f id => exact h
theorem callK_el {T : Tb} {sl : Slots} {rf : Refs} {f : Opd} {args : List Opd} {k : Out → Refs → Prop} (h : callK T sl rf f args k) :
  ∃ id first cap vs, getO sl f = some (.fn (.func id) first cap) ∧ getOs sl args = some vs ∧ CallE T id (AV.bargs (first ++ vs ++ cap)) rf k := by
 obtain ⟨v, h1, h2⟩ := gv_el h
 cases v with
 | fn g a b =>
   cases g with
   | func id =>
     obtain ⟨vs, h3, h4⟩ := gvs_el h2
     have := bargsK_el (ccK_el (ccK_el h4)) ()
     rw [← List.append_assoc] at this
     exact ⟨id, a, b, vs, h1, h3, this⟩
   | _ => exact h2.elim
 | _ => exact h2.elim
end Go.Ab
