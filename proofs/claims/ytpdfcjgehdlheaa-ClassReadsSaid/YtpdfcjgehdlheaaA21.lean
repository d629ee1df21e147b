/- Code: what the abstract run says, the machine does. -/
import Derived.Test.YtpdfcjgehdlheaaA20
import Derived.LoopN
import Derived.ScopeJumps
set_option linter.all false
namespace Go.Ab

def chkC (P : Program) (N : Nat) : AC → Code → Bool
  | .trim _ b, x => chkC P N b x
  | .skip, .skip => true
  | .ops l, .region _ ops draw => chkL P N ops l ops.toList && (!draw || (P.follows .mixedOrders && drawOK ops l))
  | .seq a b, .seq x y => chkC P N a x && chkC P N b y
  | .cond c t e, .cond c' x y => chkO c c' && chkC P N t x && chkC P N e y
  | .block i b, .block j x => i == j && chkC P N b x
  | .loop _ b, .loop x => chkC P N b x
  | .exit i, .exit j => i == j
  | .ret, .ret => true
  | .hole, _ => true
  | .label, .label _ => true
  | .goto i, .goto j => i == j
  | .scope l b r, .scope c => chkC P N b c && (match findLabel c l with | some rest => chkC P N r rest | none => false)
  | _, _ => false

theorem Sim.cut {E : Env} {K : Ctx} {s : St} {tm : Array Value} {w : World} (h : Sim E K s tm w) (n : Nat) : Sim E K { s with rf := s.rf.take n } tm w := by
  have hget : ∀ r cs, (s.rf.take n)[r]? = some cs → s.rf[r]? = some cs := fun r cs hr => by
    rw [List.getElem?_take] at hr
    split at hr
    · exact hr
    · simp at hr
  have hlen : ∀ r, r < (s.rf.take n).length → r < s.rf.length := fun r hr => by
    simp only [List.length_take] at hr; omega
  have hh : ∀ ℓ av v, holds K { s with rf := s.rf.take n } tm w ℓ av v → holds K s tm w ℓ av v := fun ℓ av v h' => by
    cases ℓ with
    | sl t => exact h'
    | rf r i =>
      obtain ⟨cs, β, h1, h2⟩ := h'
      exact ⟨cs, β, hget r cs h1, h2⟩
  exact ⟨h.size, h.os, h.tape, h.output, h.keep, h.gle, h.rho, h.cells, fun r cs hr => h.refs r cs (hget r cs hr), fun r b hr => h.refG r b (hlen r hr), fun r r' b hr hr' => h.inj r r' b (hlen r hr) (hlen r' hr'), h.rows, h.slots,
    fun ℓ es v h1 => h.own ℓ es v (hh _ _ _ h1), fun ℓ ℓ' es es' v v' b h1 h2 => h.uniq ℓ ℓ' es es' v v' b (hh _ _ _ h1) (hh _ _ _ h2), fun ℓ es v b h1 => h.tO ℓ es v b (hh _ _ _ h1), fun r b hr => h.tR r b (hlen r hr)⟩

section
variable {P : Program} {E : Env} {K : Ctx} {s : St} {a : Act} {w : World} {Q : Exit → Act → World → Prop} {C : CallFn} {N : Nat}

theorem Inv.alike {s' : St} (h : Inv E K s a w N) (ha : Alike s s') : Inv E K s' a w N := by
  have hk : ∀ t av, s'.sl.get t = some av → s.sl.get t = some av := fun t av ht => by rw [ha.1 t]; exact ht
  rw [ha.eq]
  exact ⟨h.sim.forget hk, h.wf.withSl fun n v hv => h.wf.sb n v (hk n v hv), h.df, h.size⟩

theorem Inv.keep (h : Inv E K s a w N) (keep : List Nat) : Inv E K { s with sl := s.sl.keep keep } a w N :=
  ⟨h.sim.forget fun t av ht => keep_get ht, h.wf.withSl fun n v hv => h.wf.sb n v (keep_get hv), h.df, h.size⟩

theorem Inv.trimLoop (h0 : RB E.rf0.length E.rf0) (h : Inv E K s a w N) (keep : List Nat) {n : Nat} (hn : E.rf0.length ≤ n) (hn' : n ≤ s.rf.length) : Inv E K (s.trimLoop keep n) a w N := by
  have hw := trimLoop_wf h0 h.wf keep hn hn'
  have hk := h.keep keep
  unfold St.trimLoop at hw ⊢
  simp only at hw ⊢
  split
  · rename_i hc
    rw [if_pos hc] at hw
    exact ⟨hk.sim.cut n, hw, h.df, h.size⟩
  · exact hk

theorem run_wp (hC : CallSound P C) (hCW : CallWF C) (h0 : RB E.rf0.length E.rf0) (kk : Nat) : ∀ (c : AC) (code : Code) (s : St) (a : Act) (w : World) (K : Ctx) (Q : Exit → Act → World → Prop) (e : Ex) (s' : St),
    chkC P N c code = true → c.cok = true → Inv E K s a w N → run C kk c s = some (e, s') → (∀ ex a' w' K', ExR K' e ex → Inv E K' s' a' w' N → Q ex a' w') → code.wp P Q a w
  | .skip, code, s, a, w, K, Q, e, s', hc, _, h, hr, hQ => by
    cases code <;> simp [chkC] at hc
    simp only [run, Option.some.injEq, Prod.mk.injEq] at hr
    obtain ⟨rfl, rfl⟩ := hr
    exact wp_skip (hQ .normal a w K trivial h)
  | .label, code, s, a, w, K, Q, e, s', hc, _, h, hr, hQ => by
    cases code <;> simp [chkC] at hc
    simp only [run, Option.some.injEq, Prod.mk.injEq] at hr
    obtain ⟨rfl, rfl⟩ := hr
    exact wp_label (hQ .normal a w K trivial h)
  | .ops l, code, s, a, w, K, Q, e, s', hc, hk, h, hr, hQ => by
    cases code <;> simp [chkC] at hc
    rename_i id ops draw
    simp only [run] at hr
    have hlen : l.length = ops.size := by
      have : ∀ {l : List AOp} {m : List Oper}, chkL P N ops l m = true → l.length = m.length := fun {l m} => by
        induction l generalizing m with
        | nil => intro h; cases m <;> simp [chkL] at h ⊢
        | cons x l ih =>
          intro h
          cases m with
          | nil => simp [chkL] at h
          | cons o m =>
            simp only [chkL, Bool.and_eq_true] at h
            simp [ih h.2]
      simpa using this hc.1
    cases draw with
    | false =>
      refine wp_region ?_
      have hp := pickL_range l ops.size 0 (by omega)
      rw [List.drop_zero, ← List.range_eq_range'] at hp
      exact ops_wp hC hCW hc.1 _ s a w K e s' h (by rw [hp]; exact hr) fun ex a' w' K' h1 h2 _ => hQ ex a' w' K' h1 h2
    | true =>
      refine wp_region_draw fun t => ?_
      have hd : P.follows .mixedOrders = true ∧ drawOK ops l = true := by
        rcases hc.2 with h | h
        · cases h
        · exact h
      rw [hd.1]
      obtain ⟨u', h1, h2⟩ := schedule_runs hlen hd.2 t hr
      have h' : Inv E K s a { w with drawn := w.drawn + 1 } N := ⟨h.sim.drew, h.wf, h.df, h.size⟩
      refine ops_wp hC hCW hc.1 _ s a _ K e u' h' h1 fun ex a' w' K' h3 h4 _ => hQ ex a' w' K' h3 (h4.alike ⟨fun t => (h2.1 t).symm, h2.2.symm⟩)
  | .seq x y, code, s, a, w, K, Q, e, s', hc, hk, h, hr, hQ => by
    cases code <;> simp [chkC] at hc
    rename_i cx cy
    simp only [AC.cok, Bool.and_eq_true] at hk
    simp only [run] at hr
    refine wp_seq ?_
    split at hr
    · rename_i s1 hr1
      refine run_wp hC hCW h0 kk x cx s a w K _ _ s1 hc.1 hk.1 h hr1 fun ex a' w' K' h1 h2 => ?_
      cases ex <;> simp only [ExR] at h1
      exact run_wp hC hCW h0 kk y cy s1 a' w' K' Q e s' hc.2 hk.2 h2 hr hQ
    · rename_i hne
      refine run_wp hC hCW h0 kk x cx s a w K _ e s' hc.1 hk.1 h hr fun ex a' w' K' h1 h2 => ?_
      have hq := hQ ex a' w' K' h1 h2
      cases ex with
      | normal =>
        cases e <;> simp only [ExR] at h1
        exact absurd hr (hne s')
      | _ => exact hq
  | .cond c t f, code, s, a, w, K, Q, e, s', hc, hk, h, hr, hQ => by
    cases code <;> simp [chkC] at hc
    rename_i c' ct cf
    simp only [AC.cok, Bool.and_eq_true] at hk
    simp only [run] at hr
    split at hr
    · rename_i hg
      have := getO_rep h.sim hc.1.1 hg
      simp only [Rep, RepD] at this
      exact wp_cond_true this (run_wp hC hCW h0 kk t ct s a w K Q e s' hc.1.2 hk.1.2 h hr hQ)
    · rename_i hg
      have := getO_rep h.sim hc.1.1 hg
      simp only [Rep, RepD] at this
      exact wp_cond_false this (run_wp hC hCW h0 kk f cf s a w K Q e s' hc.2 hk.2 h hr hQ)
    · simp at hr
  | .block i b, code, s, a, w, K, Q, e, s', hc, hk, h, hr, hQ => by
    cases code <;> simp [chkC] at hc
    rename_i j cb
    obtain ⟨rfl, hc⟩ := hc
    simp only [AC.cok] at hk
    simp only [run] at hr
    refine wp_block ?_
    split at hr
    · rename_i j s1 hr1
      refine run_wp hC hCW h0 kk b cb s a w K _ _ s1 hc hk h hr1 fun ex a' w' K' h1 h2 => ?_
      cases ex <;> simp only [ExR] at h1
      subst h1
      simp only [Exit.inBlock]
      split at hr
      · rename_i hij
        simp only [Option.some.injEq, Prod.mk.injEq] at hr
        obtain ⟨rfl, rfl⟩ := hr
        rw [if_pos hij]
        exact hQ .normal a' w' K' trivial h2
      · rename_i hij
        simp only [Option.some.injEq, Prod.mk.injEq] at hr
        obtain ⟨rfl, rfl⟩ := hr
        rw [if_neg hij]
        exact hQ (.exit j) a' w' K' rfl h2
    · rename_i hne
      refine run_wp hC hCW h0 kk b cb s a w K _ e s' hc hk h hr fun ex a' w' K' h1 h2 => ?_
      have hq := hQ ex a' w' K' h1 h2
      cases ex with
      | exit j =>
        cases e <;> simp only [ExR] at h1
        subst h1
        exact absurd hr (hne _ s')
      | _ => exact hq
  | .loop keep b, code, s, a, w, K, Q, e, s', hc, hk, h, hr, hQ => by
    cases code <;> simp [chkC] at hc
    rename_i cb
    simp only [AC.cok] at hk
    simp only [run] at hr
    have key : ∀ (m : Nat) (n : Nat) (s : St) (a : Act) (w : World) (K : Ctx), E.rf0.length ≤ n → n ≤ s.rf.length → Inv E K s a w N → runLoop (run C kk b) keep n m s = some (e, s') → Code.rounds P cb Q m a w := by
      intro m
      induction m with
      | zero => intro n s a w K _ _ _ hr; simp [runLoop] at hr
      | succ m ih =>
        intro n s a w K hn hn' h hr
        simp only [runLoop] at hr
        rw [rounds_succ]
        split at hr
        · rename_i s1 hr1
          have hlen := (run_wf hCW kk h0 hr1 hk h.wf).2.2
          refine run_wp hC hCW h0 kk b cb s a w K _ _ s1 hc hk h hr1 fun ex a' w' K' h1 h2 => ?_
          cases ex <;> simp only [ExR] at h1
          exact ih n (s1.trimLoop keep n) a' w' K' hn (trimLoop_len keep (by omega)) (h2.trimLoop h0 keep hn (by omega)) hr
        · rename_i hne
          refine run_wp hC hCW h0 kk b cb s a w K _ e s' hc hk h hr fun ex a' w' K' h1 h2 => ?_
          have hq := hQ ex a' w' K' h1 h2
          cases ex with
          | normal =>
            cases e <;> simp only [ExR] at h1
            exact absurd hr (hne s')
          | _ => exact hq
    refine wp_loop_rounds kk (key kk s.rf.length (s.trimLoop keep s.rf.length) a w K h.wf.le (trimLoop_len keep (Nat.le_refl _)) (h.trimLoop h0 keep h.wf.le (Nat.le_refl _)) hr)
  | .exit i, code, s, a, w, K, Q, e, s', hc, _, h, hr, hQ => by
    cases code <;> simp [chkC] at hc
    subst hc
    simp only [run, Option.some.injEq, Prod.mk.injEq] at hr
    obtain ⟨rfl, rfl⟩ := hr
    exact wp_exit (hQ (.exit i) a w K rfl h)
  | .ret, code, s, a, w, K, Q, e, s', hc, _, h, hr, hQ => by
    cases code <;> simp [chkC] at hc
    simp only [run, Option.some.injEq, Prod.mk.injEq] at hr
    obtain ⟨rfl, rfl⟩ := hr
    exact wp_ret (hQ .ret a w K trivial h)
  | .hole, code, s, a, w, K, Q, e, s', hc, _, h, hr, hQ => by simp [run] at hr
  | .goto i, code, s, a, w, K, Q, e, s', hc, _, h, hr, hQ => by
    cases code <;> simp [chkC] at hc
    subst hc
    simp only [run, Option.some.injEq, Prod.mk.injEq] at hr
    obtain ⟨rfl, rfl⟩ := hr
    exact wp_goto (hQ (.goto i) a w K rfl h)
  | .scope l b r, code, s, a, w, K, Q, e, s', hc, hk, h, hr, hQ => by
    cases code <;> simp [chkC] at hc
    rename_i c
    obtain ⟨hc1, hc2⟩ := hc
    split at hc2
    · rename_i rest hf
      simp only [AC.cok, Bool.and_eq_true] at hk
      simp only [run] at hr
      refine wp_scope_jumps l (fun a1 w1 => e ≠ .goto l ∧ ∃ K1 s1, Inv E K1 s1 a1 w1 N ∧ (∀ j, e ≠ .goto j) ∧ run C kk r s1 = some (e, s')) (fun _ _ => 0) hf ?_ ?_
      · split at hr
        · rename_i i s1 hr1
          split at hr
          · rename_i hi
            subst hi
            refine run_wp hC hCW h0 kk b c s a w K _ _ s1 hc1 hk.1 h hr1 fun ex a' w' K' h1 h2 => ?_
            cases ex <;> simp only [ExR] at h1
            subst h1
            split at hr
            · cases hr
            · rename_i hng
              have hne : ∀ j, e ≠ .goto j := fun j hj => hng j s' (by rw [hr, hj])
              exact ⟨rfl, hne _, K', s1, h2, hne, hr⟩
          · cases hr
        · rename_i hng
          refine run_wp hC hCW h0 kk b c s a w K _ e s' hc1 hk.1 h hr fun ex a' w' K' h1 h2 => ?_
          have hq := hQ ex a' w' K' h1 h2
          cases ex with
          | goto j =>
            cases e <;> simp only [ExR] at h1
            exact absurd hr (hng _ _)
          | _ => exact hq
      · intro a1 w1 ⟨_, K1, s1, h3, hne, h4⟩
        refine run_wp hC hCW h0 kk r rest s1 a1 w1 K1 _ e s' hc2 hk.2 h3 h4 fun ex a' w' K' h1 h2 => ?_
        have hq := hQ ex a' w' K' h1 h2
        cases ex with
        | goto j =>
          cases e <;> simp only [ExR] at h1
          exact absurd rfl (hne _)
        | _ => exact hq
    · cases hc2
  | .trim keep b, code, s, a, w, K, Q, e, s', hc, hk, h, hr, hQ => by
    simp only [chkC] at hc
    simp only [AC.cok] at hk
    simp only [run] at hr
    split at hr
    · rename_i s1 hr1
      simp only [Option.some.injEq, Prod.mk.injEq] at hr
      obtain ⟨rfl, rfl⟩ := hr
      exact run_wp hC hCW h0 kk b code s a w K Q _ s1 hc hk h hr1 fun ex a' w' K' h1 h2 => hQ ex a' w' K' h1 (h2.keep keep)
    · exact run_wp hC hCW h0 kk b code s a w K Q e s' hc hk h hr hQ

end
end Go.Ab
