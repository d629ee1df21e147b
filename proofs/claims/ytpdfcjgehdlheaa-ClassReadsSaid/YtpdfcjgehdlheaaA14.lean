/- Every operation but calls: what the abstract one does, it does. -/
import Derived.Test.YtpdfcjgehdlheaaA13
set_option linter.all false
namespace Go.Ab
section
variable {P : Program} {E : Env} {K : Ctx} {s : St} {a : Act} {w : World}

theorem cok_of_chkO {x : Opd} {y : Operand} (h : chkO x y = true) : x.cok = true := by
  cases x <;> cases y <;> simp_all [chkO, Opd.cok]

def AOpk.quiet : AOpk → Bool
  | .call _ _ | .callZ _ _ | .callQ _ _ | .defer _ _ | .recover => false
  | _ => true


set_option maxHeartbeats 1600000 in
theorem step_ok {C : CallFn} {ao : AOpk} {o : Oper} {d : Did} (h : Sim E K s a.tmps w) (hw : WF E.rf0 s) (hc : chkOp P ao o = true) (hs : stepOp C s ao = some d) (hq : ao.quiet = true) : OpOK P E K s a w o d := by
  cases ao <;> simp only [AOpk.quiet, Bool.false_eq_true] at hq <;> simp only [chkOp] at hc <;> simp only [stepOp] at hs
  case mov x =>
    split at hc
    · rename_i y ho
      exact ok_mov ho h hc hs
    · simp at hc
  case take t =>
    split at hc
    · rename_i u ho
      simp only [beq_iff_eq] at hc
      subst hc
      split at hs
      · rename_i v hv
        simp only [Option.some.injEq] at hs; subst hs
        exact ok_raw (x := .t t) (y := .tmp t) (by simp [execOp, ho]) h (by simp [chkO]) hv
      · simp at hs
    · simp at hc
  case asg x =>
    split at hc
    · rename_i y ho
      split at hs
      · rename_i v hv
        simp only [Option.some.injEq] at hs; subst hs
        exact ok_raw (by simp [execOp, ho]) h hc hv
      · simp at hs
    · simp at hc
  case pick c x y =>
    split at hc
    · rename_i c' x' y' ho
      simp only [Bool.and_eq_true] at hc
      split at hs
      · rename_i t ht
        exact ok_pick ho h hc.1.1 hc.1.2 hc.2 ht hs
      · simp at hs
    · simp at hc
  case alloc cells =>
    split at hc
    · rename_i t ho
      split at hc <;> first | exact absurd hc Bool.false_ne_true | skip
      rename_i z hz
      simp only [Bool.and_eq_true, beq_iff_eq] at hc
      simp only [Option.some.injEq] at hs; subst hs
      exact ok_alloc ho h hw hz hc.1 hc.2
    · simp at hc
  case box x =>
    split at hc
    · rename_i t y ho
      split at hs
      · rename_i v hv
        split at hs
        · rename_i hsol
          simp only [Option.some.injEq] at hs; subst hs
          exact ok_box ho h hw hc (cok_of_chkO hc) hv hsol
        · simp at hs
      · simp at hs
    · simp at hc
  case build zero parts =>
    split at hc
    · rename_i t ps ho
      split at hc
      · rename_i z pl hz hp
        simp only [Bool.and_eq_true, beq_iff_eq] at hc
        obtain ⟨v, hv, rfl⟩ := vl_of hs
        simp only [Option.map_eq_some_iff] at hv
        obtain ⟨cs, hcs, rfl⟩ := hv
        exact ok_build ho h hz hp hc.1.1 hc.2 hcs
      · simp at hc
    · simp at hc
  case mkls sz zero parts =>
    split at hc
    · rename_i t len ps ho
      split at hc <;> first | exact absurd hc Bool.false_ne_true | skip
      rename_i e he
      split at hc
      · rename_i n z hn hz
        simp only [Bool.and_eq_true, beq_iff_eq, decide_eq_true_eq] at hc
        obtain ⟨⟨⟨⟨⟨⟨c1, c2⟩, c3⟩, c4⟩, c5⟩, c6⟩, c7⟩ := hc
        subst c1
        split at hs
        · rename_i cs hcs
          split at hs
          · rename_i ds hds
            split at hs
            · obtain ⟨v, hv, rfl⟩ := vl_of hs
              simp only [Option.some.injEq] at hv; subst hv
              exact ok_mkls ho h he hn hz c3 c2 c4 c5 c7 hcs hds
            · simp at hs
          · simp at hs
        · simp at hs
      · simp at hc
    · simp at hc
  case load agg x =>
    split at hc
    · rename_i t y ho
      simp only [Bool.and_eq_true] at hc
      split at hs
      · rename_i p hp
        exact ok_load ho h hc.2 hc.1 hp hs
      · simp at hs
    · simp at hc
  case loadB agg x b =>
    split at hc
    · rename_i t y ho
      simp only [Bool.and_eq_true] at hc
      split at hs
      · rename_i r off q off' hp hq'
        split at hs
        · exact ok_load ho h hc.2 hc.1 hp hs
        · simp at hs
      · simp at hs
    · simp at hc
  case storeW sz x v ws =>
    split at hc
    · rename_i t x' v' ho
      simp only [Bool.and_eq_true, beq_iff_eq] at hc
      split at hs
      · rename_i r off u hp hu
        split at hs
        · split at hs
          · rename_i rf hrf
            simp only [Option.some.injEq] at hs; subst hs
            exact ok_store ho h hc.1.2 hc.2 hc.1.1 hp hu hrf
          · simp at hs
        · simp at hs
      · simp at hs
    · simp at hc
  case takeload x =>
    split at hc
    · rename_i t y ho
      simp only [Bool.and_eq_true] at hc
      split at hs
      · rename_i r off hp
        split at hs
        · rename_i v hv
          split at hs
          · rename_i cs hcs
            simp only [Option.some.injEq] at hs; subst hs
            exact ok_takeload ho h hc.2 hc.1 hp hv hcs
          · simp at hs
        · simp at hs
      · simp at hs
    · simp at hc
  case recheck => simp at hs
  case store sz x v =>
    split at hc
    · rename_i t x' v' ho
      simp only [Bool.and_eq_true, beq_iff_eq] at hc
      split at hs
      · rename_i p u hp hu
        split at hs
        · rename_i rf hrf
          simp only [Option.some.injEq] at hs; subst hs
          exact ok_store ho h hc.1.2 hc.2 hc.1.1 hp hu hrf
        · simp at hs
      · simp at hs
    · simp at hc
  case nilchk x =>
    split at hc
    · rename_i y ho
      split at hs
      · rename_i r off hp
        obtain ⟨v, hv, rfl⟩ := vl_of hs
        simp only [Option.some.injEq] at hv; subst hv
        exact ok_nilchk ho h hc hp (.inl ⟨_, _, rfl⟩)
      · rename_i cs off hp
        obtain ⟨v, hv, rfl⟩ := vl_of hs
        simp only [Option.some.injEq] at hv; subst hv
        exact ok_nilchk ho h hc hp (.inr (.inl ⟨_, _, rfl⟩))
      · rename_i f x1 x2 hp
        split at hs
        · obtain ⟨v, hv, rfl⟩ := vl_of hs
          simp only [Option.some.injEq] at hv; subst hv
          exact ok_nilchk ho h hc hp (.inr (.inr ⟨_, _, _, rfl⟩))
        · simp at hs
      · simp at hs
    · simp at hc
  case bin op x y =>
    split at hc
    · rename_i op' t x' y' yt ho
      simp only [Bool.and_eq_true, beq_iff_eq] at hc
      obtain ⟨⟨c1, c2⟩, c3⟩ := hc
      split at hs
      · rename_i u v hu hv
        exact ok_bin (op := op) (by rw [ho, c1]) h c2 c3 hu hv hs
      · simp at hs
    · simp at hc
  case beq ne x y =>
    split at hc
    · rename_i op' t x' y' yt ho
      simp only [Bool.and_eq_true, beq_iff_eq] at hc
      obtain ⟨⟨⟨c1, c2⟩, c3⟩, c4⟩ := hc
      have ht : P.underlying t = some .bool := by split at c4 <;> first | assumption | simp at c4
      split at hs
      · rename_i b1 b2 hu hv
        obtain ⟨v, hv', rfl⟩ := vl_of hs
        simp only [Option.some.injEq] at hv'; subst hv'
        exact ok_beq ho c1 h c2 c3 ht hu hv
      · simp at hs
    · simp at hc
  case eqc ne ks x y =>
    split at hc
    · rename_i op' t x' y' yt ho
      simp only [Bool.and_eq_true, beq_iff_eq] at hc
      obtain ⟨⟨⟨⟨⟨c1, c2⟩, c3⟩, c4⟩, c5⟩, c6⟩ := hc
      split at hs
      · rename_i u v hu hv
        exact ok_eqc ho c1 h c2 c3 c4 c5 c6 hu hv hs
      · simp at hs
    · simp at hc
  case eqnil nk ne x =>
    split at hc
    · rename_i op' t x' y' yt ho
      simp only [Bool.and_eq_true, beq_iff_eq, Bool.or_eq_true] at hc
      obtain ⟨⟨c1, c2⟩, c3⟩ := hc
      split at hs
      · rename_i u hu
        exact ok_eqnil ho c1 h c2 c3 hu hs
      · simp at hs
    · simp at hc
  case un op x =>
    split at hc
    · rename_i op' t y ho
      simp only [Bool.and_eq_true, beq_iff_eq] at hc
      split at hs
      · rename_i u hu
        exact ok_un (op := op) (by rw [ho, hc.1]) h hc.2 hu hs
      · simp at hs
    · simp at hc
  case toInt k x =>
    split at hc
    · rename_i s1 t y ho
      simp only [Bool.and_eq_true, beq_iff_eq] at hc
      split at hs
      · rename_i k' n hu
        obtain ⟨v, hv, rfl⟩ := vl_of hs
        simp only [Option.some.injEq] at hv; subst hv
        exact ok_toInt ho h hc.2 hc.1.1 hc.1.2 hu
      · simp at hs
    · simp at hc
  case ident x =>
    split at hc
    · rename_i s1 t y ho
      simp only [Bool.and_eq_true] at hc
      split at hs
      · rename_i l hu
        obtain ⟨v, hv, rfl⟩ := vl_of hs
        simp only [Option.some.injEq] at hv; subst hv
        exact ok_ident ho h hc.2 hc.1.2 hc.1.1 hu
      · simp at hs
    · simp at hc
  case same x =>
    split at hc
    · rename_i s1 t y ho
      simp only [Bool.and_eq_true, beq_iff_eq, Option.bind_eq_some_iff] at hc
      obtain ⟨⟨c1, e, c2, c3⟩, c4⟩ := hc
      split at hs
      · rename_i e0 es hu
        simp only [Option.some.injEq] at hs; subst hs
        exact ok_same ho h c4 c1 (by rw [c1]; exact c2) c3 hu
      · simp at hs
    · simp at hc
  case strBytes x =>
    split at hc
    · rename_i s1 t y ho
      simp only [Bool.and_eq_true, beq_iff_eq, Option.bind_eq_some_iff] at hc
      obtain ⟨⟨c1, e, c2, c3⟩, c4⟩ := hc
      split at hs
      · rename_i hu
        obtain ⟨v, hv, rfl⟩ := vl_of hs
        simp only [Option.some.injEq] at hv; subst hv
        exact ok_strBytes ho h c4 c1 c2 c3 hu (by simp)
      · rename_i c l hu
        obtain ⟨v, hv, rfl⟩ := vl_of hs
        simp only [Option.some.injEq] at hv; subst hv
        exact ok_strBytes ho h c4 c1 c2 c3 hu (by simp)
      · simp at hs
    · simp at hc
  case bytesStr x =>
    split at hc
    · rename_i s1 t y ho
      simp only [Bool.and_eq_true, beq_iff_eq, Option.bind_eq_some_iff] at hc
      obtain ⟨⟨c1, e, c2, c3⟩, c4⟩ := hc
      split at hs
      · rename_i v hu
        split at hs
        · rename_i es hes
          obtain ⟨r, hr, rfl⟩ := vl_of hs
          simp only [Option.map_eq_some_iff] at hr
          obtain ⟨l, hl, rfl⟩ := hr
          exact ok_bytesStr ho h c4 c1 c2 c3 hu hes hl
        · simp at hs
      · simp at hs
    · simp at hc
  case mkifc t x =>
    split at hc
    · rename_i t' y ho
      simp only [Bool.and_eq_true, beq_iff_eq] at hc
      obtain ⟨⟨c1, c2⟩, c3⟩ := hc
      subst c1
      split at hs
      · rename_i v hu
        obtain ⟨r, hr, rfl⟩ := vl_of hs
        simp only [Option.some.injEq] at hr; subst hr
        exact ok_mkifc ho h c2 c3 hu
      · simp at hs
    · simp at hc
  case mkfn f fi ca =>
    split at hc
    · rename_i f' fi' ca' ho
      simp only [Bool.and_eq_true, beq_iff_eq] at hc
      obtain ⟨⟨⟨c1, c2⟩, c3⟩, _⟩ := hc
      have c1 := fnSame_eq c1
      subst c1
      split at hs
      · rename_i u v hu hv
        obtain ⟨r, hr, rfl⟩ := vl_of hs
        simp only [Option.some.injEq] at hr; subst hr
        exact ok_mkfn ho h c2 c3 hu hv
      · simp at hs
    · simp at hc
  case sliceS x lo hi =>
    split at hc
    · rename_i t x' lo' hi' mx ho
      simp only [Bool.and_eq_true, Option.isNone_iff_eq_none] at hc
      obtain ⟨⟨⟨⟨c1, c2⟩, c3⟩, c4⟩, c5⟩ := hc
      split at hs
      · rename_i l hu
        split at hs
        · rename_i i j e1 e2
          split at hs
          · rename_i hij
            obtain ⟨r, hr, rfl⟩ := vl_of hs
            simp only [Option.some.injEq] at hr; subst hr
            exact ok_sliceStr (sz := 0) ho h c1 c2 c3 c4 c5 hu e1 e2 hij
          · simp at hs
        · simp at hs
      · simp at hs
    · simp at hc
  case slice sz x lo hi =>
    split at hc
    · rename_i t x' lo' hi' mx ho
      simp only [Bool.and_eq_true, Option.isNone_iff_eq_none] at hc
      obtain ⟨⟨⟨⟨c1, c2⟩, c3⟩, c4⟩, c5⟩ := hc
      split at hs
      · rename_i v hu
        split at hs
        · rename_i l hl
          split at hs
          · rename_i i j e1 e2
            split at hs
            · rename_i hij
              obtain ⟨r, hr, rfl⟩ := vl_of hs
              simp only [Option.some.injEq] at hr; subst hr
              split at c5 <;> first | exact absurd c5 Bool.false_ne_true | skip
              rename_i e he
              simp only [Bool.and_eq_true, beq_iff_eq] at c5
              exact ok_sliceLst ho h c1 c2 c3 c4 he c5.1 hu hl e1 e2 ⟨hij.1, hij.2.1⟩ hij.2.2
            · simp at hs
          · simp at hs
        · simp at hs
      · simp at hs
    · simp at hc
  case slArr n x lo hi =>
    split at hc
    · rename_i t x' lo' hi' mx ho
      simp only [Bool.and_eq_true, Option.isNone_iff_eq_none] at hc
      obtain ⟨⟨⟨⟨c1, c2⟩, c3⟩, c4⟩, c5⟩ := hc
      split at c5 <;> first | exact absurd c5 Bool.false_ne_true | skip
      rename_i p1 p2 hp
      simp only [Bool.and_eq_true, beq_iff_eq] at c5
      obtain ⟨rfl, c6⟩ := c5
      split at hs
      · rename_i r off hu
        split at hs
        · rename_i i j e1 e2
          split at hs
          · rename_i hij
            obtain ⟨q, hq', rfl⟩ := vl_of hs
            simp only [Option.some.injEq] at hq'; subst hq'
            exact ok_slArr ho h c1 c2 c3 c4 hp c6 hu e1 e2 hij
          · simp at hs
        · simp at hs
      · simp at hs
    · simp at hc
  case fldA off x =>
    split at hc
    · rename_i t y f ho
      simp only [Bool.and_eq_true] at hc
      obtain ⟨c1, c2⟩ := hc
      split at c2
      · rename_i fs hu
        cases hf : fs[f]? with
        | none => simp [hf] at c2
        | some g =>
          simp only [hf, Option.any_some, Bool.and_eq_true, beq_iff_eq] at c2
          obtain ⟨c2a, c3⟩ := c2
          split at c3 <;> first | exact absurd c3 Bool.false_ne_true | skip
          rename_i n hn
          simp only [decide_eq_true_eq] at c3
          split at hs
          · rename_i r o' hx
            obtain ⟨q, hq', rfl⟩ := vl_of hs
            simp only [Option.some.injEq] at hq'; subst hq'
            exact ok_fldA ho h c1 hu hf c2a hn c3 hx (.inl ⟨_, _, rfl, rfl⟩)
          · rename_i cs o' hx
            obtain ⟨q, hq', rfl⟩ := vl_of hs
            simp only [Option.some.injEq] at hq'; subst hq'
            exact ok_fldA ho h c1 hu hf c2a hn c3 hx (.inr ⟨_, _, rfl, rfl⟩)
          · simp at hs
      · simp at c2
    · simp at hc
  case fld off agg x =>
    split at hc
    · rename_i t y f ho
      simp only [Bool.and_eq_true] at hc
      obtain ⟨c1, c2⟩ := hc
      split at c2
      · rename_i fs hu
        cases hf : fs[f]? with
        | none => simp [hf] at c2
        | some g =>
          simp only [hf, Option.any_some, Bool.and_eq_true, beq_iff_eq] at c2
          split at hs
          · rename_i cs hx
            obtain ⟨q, hq', rfl⟩ := vl_of hs
            exact ok_fld ho h c1 hu hf c2.1 c2.2 hx hq'
          · simp at hs
      · simp at c2
    · simp at hc
  case idxA arr sz x i =>
    split at hc
    · rename_i t x' i' ho
      simp only [Bool.and_eq_true] at hc
      obtain ⟨⟨c1, c2⟩, c3⟩ := hc
      split at hs
      · rename_i k m hi
        split at hs
        · simp at hs
        · rename_i hm
          split at hs
          · rename_i n r off hx
            dsimp only at c3
            split at c3 <;> first | exact absurd c3 Bool.false_ne_true | skip
            rename_i p1 p2 hp
            simp only [Bool.and_eq_true, beq_iff_eq] at c3
            obtain ⟨rfl, c4⟩ := c3
            split at hs
            · rename_i hlt
              obtain ⟨q, hq', rfl⟩ := vl_of hs
              simp only [Option.some.injEq] at hq'; subst hq'
              exact ok_idxAarr ho h c1 c2 hp c4 hi hm hlt hx (.inl ⟨_, _, rfl, rfl⟩)
            · simp at hs
          · rename_i n cs off hx
            dsimp only at c3
            split at c3 <;> first | exact absurd c3 Bool.false_ne_true | skip
            rename_i p1 p2 hp
            simp only [Bool.and_eq_true, beq_iff_eq] at c3
            obtain ⟨rfl, c4⟩ := c3
            split at hs
            · rename_i hlt
              obtain ⟨q, hq', rfl⟩ := vl_of hs
              simp only [Option.some.injEq] at hq'; subst hq'
              exact ok_idxAarr ho h c1 c2 hp c4 hi hm hlt hx (.inr ⟨_, _, rfl, rfl⟩)
            · simp at hs
          · rename_i v hx
            dsimp only at c3
            split at c3 <;> first | exact absurd c3 Bool.false_ne_true | skip
            rename_i e he
            simp only [Bool.and_eq_true, beq_iff_eq] at c3
            split at hs
            · rename_i es hes
              split at hs
              · rename_i cs hcs
                split at hs
                · rename_i hlen
                  obtain ⟨q, hq', rfl⟩ := vl_of hs
                  simp only [Option.some.injEq] at hq'; subst hq'
                  exact ok_idxAlst ho h c1 c2 he c3.1 hi hm hx hes hcs hlen
                · simp at hs
              · simp at hs
            · simp at hs
          · simp at hs
      · simp at hs
    · simp at hc
  case idxS x i =>
    split at hc
    · rename_i t x' i' ho
      simp only [Bool.and_eq_true] at hc
      obtain ⟨⟨c1, c2⟩, c3⟩ := hc
      split at hs
      · rename_i l k n hx hi
        split at hs
        · simp at hs
        · rename_i hn
          obtain ⟨q, hq', rfl⟩ := vl_of hs
          simp only [Option.map_eq_some_iff] at hq'
          obtain ⟨b, hb, rfl⟩ := hq'
          exact ok_idxS ho h c1 c2 c3 hx hi hn hb
      · simp at hs
    · simp at hc
  case idxV n sz agg x i =>
    split at hc
    · rename_i t x' i' ho
      simp only [Bool.and_eq_true] at hc
      obtain ⟨⟨c1, c2⟩, c3⟩ := hc
      split at c3 <;> first | exact absurd c3 Bool.false_ne_true | skip
      rename_i p1 p2 hp
      simp only [Bool.and_eq_true, beq_iff_eq] at c3
      obtain ⟨⟨rfl, c4⟩, c5⟩ := c3
      split at hs
      · rename_i cs k m hx hi
        split at hs
        · simp at hs
        · rename_i hm
          obtain ⟨q, hq', rfl⟩ := vl_of hs
          exact ok_idxV ho h c1 c2 hp c4 c5 hx hi hm hq'
      · simp at hs
    · simp at hc
  case assertT t zero x =>
    split at hc
    · rename_i y xt t' ok ho
      simp only [Bool.and_eq_true, beq_iff_eq] at hc
      obtain ⟨⟨⟨⟨⟨c1, c2⟩, c3⟩, c4⟩, c5⟩, c6⟩ := hc
      subst c1 c2
      split at c6 <;> first | exact absurd c6 Bool.false_ne_true | skip
      rename_i z hz
      split at hs
      · rename_i t'' v hx
        obtain ⟨q, hq', rfl⟩ := vl_of hs
        simp only [Option.some.injEq] at hq'
        exact ok_assertT ho h c3 c5 hz c6 hx (.inl ⟨t'', v, rfl, hq'.symm⟩)
      · rename_i hx
        obtain ⟨q, hq', rfl⟩ := vl_of hs
        simp only [Option.some.injEq] at hq'
        exact ok_assertT ho h c3 c5 hz c6 hx (.inr ⟨rfl, hq'.symm⟩)
      · simp at hs
    · simp at hc
  case extr x i =>
    split at hc
    · rename_i y j ho
      simp only [Bool.and_eq_true, beq_iff_eq] at hc
      obtain ⟨c1, rfl⟩ := hc
      split at hs
      · rename_i vs hx
        exact ok_extr ho h c1 hx hs
      · simp at hs
    · simp at hc
  case lenS x =>
    split at hc
    · rename_i c ho
      split at hc
      · rename_i y t hb hx' ht
        simp only [Bool.and_eq_true] at hc
        obtain ⟨c1, c2⟩ := hc
        split at hs
        · rename_i l hx
          obtain ⟨q, hq', rfl⟩ := vl_of hs
          simp only [Option.some.injEq] at hq'; subst hq'
          exact ok_len ho h hb hx' ht c1 hx (.inl ⟨c2, l, rfl, rfl⟩)
        · simp at hs
      · simp at hc
    · simp at hc
  case len x =>
    split at hc
    · rename_i c ho
      split at hc
      · rename_i y t hb hx' ht
        simp only [Bool.and_eq_true] at hc
        obtain ⟨c1, c2⟩ := hc
        split at hs
        · rename_i r o' m hx
          obtain ⟨q, hq', rfl⟩ := vl_of hs
          simp only [Option.some.injEq] at hq'; subst hq'
          exact ok_len ho h hb hx' ht c1 hx (.inr ⟨c2, .inl ⟨_, _, _, rfl, rfl⟩⟩)
        · rename_i v hn1 hx
          obtain ⟨q, hq', rfl⟩ := vl_of hs
          simp only [Option.map_eq_some_iff] at hq'
          obtain ⟨l, hl, rfl⟩ := hq'
          exact ok_len ho h hb hx' ht c1 hx (.inr ⟨c2, .inr ⟨l, hl, rfl⟩⟩)
        · simp at hs
      · simp at hc
    · simp at hc
  case lenArr n =>
    split at hc
    · rename_i c ho
      split at hc
      · rename_i y t hb hx' ht
        split at hc <;> first | exact absurd hc Bool.false_ne_true | skip
        rename_i p1 p2 hp
        simp only [beq_iff_eq] at hc
        subst hc
        obtain ⟨q, hq', rfl⟩ := vl_of hs
        simp only [Option.some.injEq] at hq'; subst hq'
        exact ok_lenArr ho h hb hx' ht (und_arr hp)
      · simp at hc
    · simp at hc
  case append sz x y =>
    split at hc
    · rename_i c ho
      split at hc
      · rename_i x' y' t u hb hx' ht
        simp only [Bool.and_eq_true, Bool.or_eq_true] at hc
        obtain ⟨⟨⟨c1, c2⟩, c3⟩, c4⟩ := hc
        split at c3 <;> first | exact absurd c3 Bool.false_ne_true | skip
        rename_i e he
        split at c3 <;> first | exact absurd c3 Bool.false_ne_true | skip
        rename_i i hi
        simp only [Bool.and_eq_true, beq_iff_eq, decide_eq_true_eq] at c3
        obtain ⟨⟨⟨c5, c6⟩, c7⟩, c8⟩ := c3
        split at c8 <;> first | exact absurd c8 Bool.false_ne_true | skip
        rename_i z hz
        simp only [beq_iff_eq] at c8
        have T : AppT P t u e i z sz := ⟨und_elem he, by
          rcases c4 with c4 | c4
          · exact .inl (und_str c4)
          · obtain ⟨e', he'⟩ := Option.isSome_iff_exists.1 c4
            exact .inr ⟨e', und_elem he'⟩, hi, hz, c5, c8, c6, c7⟩
        split at hs
        · rename_i xv yv hx hy
          split at hs
          · rename_i r hr
            simp only [Option.some.injEq] at hs; subst hs
            exact ok_append ho h hb hx' ht T c1 c2 hx hy hr
          · simp at hs
        · simp at hs
      · simp at hc
    · simp at hc
  case copy x y =>
    split at hc
    · rename_i c ho
      split at hc
      · rename_i x' y' t u hb hx' ht
        simp only [Bool.and_eq_true] at hc
        obtain ⟨⟨c1, c2⟩, c3⟩ := hc
        split at c3 <;> first | exact absurd c3 Bool.false_ne_true | skip
        rename_i e he
        simp only [beq_iff_eq] at c3
        split at hs
        · rename_i r off n yv hx hy
          split at hs
          · rename_i es cs hes hcs
            split at hs
            · rename_i hfit
              simp only [Option.some.injEq] at hs; subst hs
              exact ok_copy ho h hb hx' ht he c3 c1 c2 hx hy hes hcs hfit
            · simp at hs
          · simp at hs
        · simp at hs
      · simp at hc
    · simp at hc
  case min x y =>
    split at hc
    · rename_i c ho
      split at hc
      · rename_i x' y' hb hx'
        simp only [Bool.and_eq_true] at hc
        split at hs
        · rename_i k m k' n hx hy
          split at hs
          · rename_i hk
            subst hk
            obtain ⟨q, hq', rfl⟩ := vl_of hs
            simp only [Option.some.injEq] at hq'; subst hq'
            exact ok_minmax (mx := false) ho h (by simpa using hb) hx' hc.1 hc.2 hx hy
          · simp at hs
        · simp at hs
      · simp at hc
    · simp at hc
  case max x y =>
    split at hc
    · rename_i c ho
      split at hc
      · rename_i x' y' hb hx'
        simp only [Bool.and_eq_true] at hc
        split at hs
        · rename_i k m k' n hx hy
          split at hs
          · rename_i hk
            subst hk
            obtain ⟨q, hq', rfl⟩ := vl_of hs
            simp only [Option.some.injEq] at hq'; subst hq'
            exact ok_minmax (mx := true) ho h (by simpa using hb) hx' hc.1 hc.2 hx hy
          · simp at hs
        · simp at hs
      · simp at hc
    · simp at hc
  case panic x =>
    split at hc
    · rename_i y ho
      split at hs
      · rename_i t v hx
        simp only [Option.some.injEq] at hs; subst hs
        exact ok_panic ho h hc hx
      · simp at hs
    · simp at hc

end
end Go.Ab
