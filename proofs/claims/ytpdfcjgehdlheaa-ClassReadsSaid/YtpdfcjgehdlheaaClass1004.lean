/- What a class is that a text begins with. -/
import Derived.Test.YtpdfcjgehdlheaaClass904
namespace Go.Ab.R04
set_option maxRecDepth 100000
set_option linter.all false
set_option maxHeartbeats 4000000
variable {T : Tb} [hT : Base T]

/-- does this byte stand there? -/
def hit (s : List UInt8) (i c : Nat) : Bool :=
  match s[i]? with
  | some b => decide (b.toNat = c)
  | none => false

theorem hit_none {s : List UInt8} {i c : Nat} (h : s.length ≤ i) : hit s i c = false := by
  unfold hit; rw [List.getElem?_eq_none h]
theorem hit_some {s : List UInt8} {i c : Nat} {b : UInt8} (h : s[i]? = some b) : hit s i c = decide (b.toNat = c) := by
  unfold hit; rw [h]

def itm (s : List UInt8) (i : Nat) : Option (Nat × Nat × Nat) :=
  match sign (s.drop i) with
  | none => none
  | some (a, n) =>
    if hit s (i + n) 45 then
      match sign (s.drop (i + n + 1)) with
      | none => none
      | some (b, m) => if b < a then none else some (a, b, i + n + 1 + m)
    else some (a, a, i + n)

def itms (s : List UInt8) : Nat → Nat → Nat → Option (Nat × Nat)
  | 0, _, _ => none
  | f + 1, i, k =>
    match itm s i with
    | none => none
    | some (a, b, j) => if hit s j 93 then some (k ||| spanN a (b + 1 - a), j + 1) else itms s f j (k ||| spanN a (b + 1 - a))

/-- the class, and how long its text is -/
def readS (s : List UInt8) : Option (Nat × Nat) :=
  if hit s 0 91 then
    match itms s s.length (if hit s 1 94 then 2 else 1) 0 with
    | none => none
    | some (k, i) => some (if hit s 1 94 then notN (k ||| spanN 10 1) else k, i)
  else none

def readA : Option (Nat × Nat) → AV
  | none => .tup [cls 0, i64 (0 : Nat), i64 (2 : Nat)]
  | some (k, n) => .tup [cls k, i64 n, i64 (0 : Nat)]

theorem digit_le (c : Nat) (h : 0 ≤ digit c) : (digit c).toNat < 16 := by have := @digit_lt c; omega

theorem sign_len {s : List UInt8} {a n : Nat} (h : sign s = some (a, n)) : 1 ≤ n ∧ n ≤ s.length ∧ a < 256 := by
  unfold sign at h
  rcases h0 : s[0]? with _ | c
  · rw [h0] at h; cases h
  have l0 := (List.getElem?_eq_some_iff.1 h0).1
  have hc := c.toNat_lt
  rw [h0] at h
  simp only at h
  split at h
  · split at h
    · cases h
    · cases h; omega
  · rcases h1 : s[1]? with _ | e
    · rw [h1] at h; cases h
    have l1 := (List.getElem?_eq_some_iff.1 h1).1
    have he := e.toNat_lt
    rw [h1] at h
    simp only at h
    split at h
    · cases h; omega
    · rcases h2 : s[2]? with _ | x
      · rw [h2] at h; cases h
      rcases h3 : s[3]? with _ | y
      · rw [h2, h3] at h; cases h
      have l3 := (List.getElem?_eq_some_iff.1 h3).1
      rw [h2, h3] at h
      simp only at h
      split at h
      · rename_i hh
        have := digit_le _ hh.2.1
        have := digit_le _ hh.2.2
        cases h; omega
      · cases h

theorem sign_drop {s : List UInt8} {i a n : Nat} (h : sign (s.drop i) = some (a, n)) : 1 ≤ n ∧ i + n ≤ s.length ∧ a < 256 := by
  have := sign_len h
  rw [List.length_drop] at this
  omega

theorem itm_len {s : List UInt8} {i a b j : Nat} (h : itm s i = some (a, b, j)) : i < j ∧ j ≤ s.length ∧ a ≤ b ∧ b < 256 := by
  unfold itm at h
  rcases h1 : sign (s.drop i) with _ | ⟨x, n⟩
  · rw [h1] at h; cases h
  have l1 := sign_drop h1
  rw [h1] at h
  simp only at h
  split at h
  · rcases h2 : sign (s.drop (i + n + 1)) with _ | ⟨y, m⟩
    · rw [h2] at h; cases h
    have l2 := sign_drop h2
    rw [h2] at h
    simp only at h
    split at h
    · cases h
    · cases h; omega
  · cases h; omega

theorem sign_nil : sign [] = none := rfl

theorem itm_end {s : List UInt8} {i : Nat} (h : s.length ≤ i) : itm s i = none := by
  unfold itm; rw [List.drop_eq_nil_of_le h, sign_nil]

theorem itms_step {s : List UInt8} {f i k : Nat} (h : s.length ≤ i + f) : itms s f i k = match itm s i with
    | none => none
    | some (a, b, j) => if hit s j 93 then some (k ||| spanN a (b + 1 - a), j + 1) else itms s (f - 1) j (k ||| spanN a (b + 1 - a)) := by
  cases f with
  | zero => rw [itm_end (by omega)]; rfl
  | succ f => rfl

theorem spanN_lt (a k : Nat) (h : a + k ≤ 256) : spanN a k < 2 ^ 256 := by
  apply Nat.lt_pow_two_of_testBit
  intro i hi
  rw [spanN_bit]
  simp; omega

theorem spanN_one (a : Nat) : spanN a (a + 1 - a) = 2 ^ a := by
  rw [show a + 1 - a = 1 by omega]; simp [spanN]

section
variable {sl : Slots} {rf : Refs} {df : List (AV × List AV)} {pn : Option (Option AV)} {nb : Nat} {N : St → Prop} {X : Ex → St → Prop} {r : List AOp} {d : Nat} {g : Option (Nat × Bool)} {may : Bool}
theorem o_loadB {a b : Opd} {q off off' : Nat} {cs : List AV} {y : D} (hg : wantedL sl g = some true) (ha : getO sl a = some (.ptr q off)) (hb : getO sl b = some (.ptr q off')) (hr : rf[q]? = some cs) (hc : cs[off]? = some (.d y)) (h : OP T r ⟨(d, .d y) :: sl, rf, df, pn, nb⟩ N X) :
    OP T (⟨some d, .loadB none a b, g, may⟩ :: r) ⟨sl, rf, df, pn, nb⟩ N X :=
  o_pure hg (by simp only [stepOp, ha, hb, loadAt, hr, hc, if_true]; rfl) h

theorem o_swcls {a x : Opd} {ws : List Opd} {q k : Nat} {cs : List AV} {rf' : Refs} (hg : wantedL sl g = some true) (ha : getO sl a = some (.ptr q 0)) (hx : rawO sl x = some (cls k)) (hw : apartB sl q ws = true) (hr : rf[q]? = some cs) (hl : cs.length = 4) (hrf : rf.set q (clsC k) = rf') (h : OP T r ⟨sl, rf', df, pn, nb⟩ N X) :
    OP T (⟨none, .storeW 4 a x ws, g, may⟩ :: r) ⟨sl, rf, df, pn, nb⟩ N X := by
  subst hrf
  have hu : setRange cs 0 (clsC k) = clsC k := by
    obtain ⟨a, b, c, d, rfl⟩ : ∃ a b c d, cs = [a, b, c, d] := by
      rcases cs with _ | ⟨a, _ | ⟨b, _ | ⟨c, _ | ⟨d, _ | ⟨e, cs⟩⟩⟩⟩⟩ <;> simp at hl
      exact ⟨a, b, c, d, rfl⟩
    rfl
  refine op_none (s' := ⟨sl, rf.set q (clsC k), df, pn, nb⟩) ((wantedL_eq _ _).trans hg) ?_ h
  simp only [stepOp, ha, hx, hw, if_true]
  rw [storeAt_of (v := cls k) (sz := 4) (zs := clsC k) rfl rfl rfl hr (by omega) (.inl (by simp [cls, clsC, wdv, AV.nat, AV.cellsO, AV.strips, AV.strip, AV.refBs, AV.refB])) hu]
  simp only
  rw [unOwn_ne (v := cls k) (by simpa using hx) (fun _ h => by cases h)]

theorem end_read {af : AFn} {n t u p q k : Nat} {y z : D} {rf' : Refs} {o : Out} (hk : af.keep = false) (hr : af.res = [.cell t (some 4), .tmp u, .tmp p]) (hv : sl.get t = some (.ptr q 0)) (hg : rf[q]? = some (clsC k)) (hu : sl.get u = some (.d y)) (hp : sl.get p = some (.d z))
    (ho : o = .ret (.tup [cls k, .d y, .d z])) (hrf : rf' = rf.take n) : EndX af n o rf' .ret ⟨sl, rf, [], pn, nb⟩ :=
  .ret (v := .tup [cls k, .d y, .d z]) rfl (by rw [hr, hk]; simp only [resOf, resAs, resA, hv, loadAt, Refs.cellsAt, hg, hu, hp]; rfl) (by simp [cls, clsC, wdv, AV.nat, AV.refB, AV.refBs]) ho hrf
end

theorem rfget3 (rf : Refs) (a b c e : List AV) (x : List (List AV)) : (rf ++ a :: b :: c :: e :: x)[rf.length + 3]? = some e := by simp
theorem rfset3 (rf : Refs) (a b c e y : List AV) (x : List (List AV)) : (rf ++ a :: b :: c :: e :: x).set (rf.length + 3) y = rf ++ a :: b :: c :: y :: x := by simp

theorem takes_ev (s : List UInt8) (i c : Nat) (hi : i < 2 ^ 40) (hc : c < 256) (rf : Refs) (a b : List AV) :
    Ev T f_class_Read_1 [u8 c, .ptr (rf.length + 3) 0, .ptr rf.length 0] (rf ++ [[str s], a, b, [i64 i]]) (.ret (bl (hit s i c))) (rf ++ [[str s], a, b, [i64 (if hit s i c then i + 1 else i : Nat)]]) := by
  by_cases h : i < s.length
  · obtain ⟨x, hx⟩ := getS h
    rw [hit_some hx]
    refine ev_callB rfl rfl ?_
    repeat (first | (first
      | refine o_skip rfl ?_
      | (refine o_ifp rfl ?_ ?_ <;> intro hq_ hg_ <;> first | (exfalso; omega) | (simp only [hg_]; clear hg_))
      | refine o_movd rfl rfl ?_
      | refine o_movp rfl rfl ?_
      | refine o_mova rfl rfl ?_
      | refine o_mov rfl rfl ?_
      | refine o_asgd rfl rfl ?_
      | refine o_asgo rfl rfl ?_
      | refine o_lenS rfl rfl ?_
      | refine o_lssn rfl rfl rfl ?_
      | refine o_idxS rfl rfl rfl rfl rfl ?_
      | refine o_eqln rfl rfl rfl ?_
      | refine o_eqs rfl rfl rfl ?_
      | refine o_pickt rfl rfl rfl ?_
      | refine o_pickf rfl rfl rfl ?_
      | refine o_addkn rfl rfl rfl (by decide) (by (first | omega | (simp only [m64, mU, m8, n64, nU, n8, b64, bU, b8]; omega))) ?_
      | refine o_cat rfl rfl rfl (by (first | omega | (simp only [m64, mU, m8, n64, nU, n8, b64, bU, b8]; omega))) ?_
      | refine o_add rfl rfl rfl (by omega) (by omega) ?_
      | refine op_nil ?_
      | refine o_bin rfl rfl rfl rfl ?_) | (first
      | refine wp_seq ?_
      | refine wp_ops ?_
      | refine wp_keep ?_
      | refine keepN (by (simp +decide only [Slots.keep, Slots.get, reduceIte]); exact rfl) ?_
      | refine wp_block ?_
      | refine wp_skip ?_
      | refine wp_ret ?_
      | refine wp_exit ?_
      | refine bx_ret ?_
      | refine bx_here ?_
      | refine bx_exit rfl ?_))
    refine o_load rfl rfl (rfget3 _ _ _ _ _ _) rfl ?_
    refine o_load rfl rfl (rfget0 _ _ _) rfl ?_
    refine o_lenS rfl rfl ?_
    refine o_lssn rfl rfl rfl ?_
    simp only [h, decide_true]
    refine o_movd rfl rfl ?_
    refine o_load rfl rfl (rfget0 _ _ _) rfl ?_
    refine o_load rfl rfl (rfget3 _ _ _ _ _ _) rfl ?_
    refine o_idxS (m := i) rfl rfl rfl rfl hx ?_
    refine o_movd rfl rfl ?_
    refine o_eqln rfl rfl rfl ?_
    refine o_pickt rfl rfl rfl ?_
    repeat (first | (first
      | refine o_skip rfl ?_
      | (refine o_ifp rfl ?_ ?_ <;> intro hq_ hg_ <;> first | (exfalso; omega) | (simp only [hg_]; clear hg_))
      | refine o_movd rfl rfl ?_
      | refine o_movp rfl rfl ?_
      | refine o_mova rfl rfl ?_
      | refine o_mov rfl rfl ?_
      | refine o_asgd rfl rfl ?_
      | refine o_asgo rfl rfl ?_
      | refine o_lenS rfl rfl ?_
      | refine o_lssn rfl rfl rfl ?_
      | refine o_idxS rfl rfl rfl rfl rfl ?_
      | refine o_eqln rfl rfl rfl ?_
      | refine o_eqs rfl rfl rfl ?_
      | refine o_pickt rfl rfl rfl ?_
      | refine o_pickf rfl rfl rfl ?_
      | refine o_addkn rfl rfl rfl (by decide) (by (first | omega | (simp only [m64, mU, m8, n64, nU, n8, b64, bU, b8]; omega))) ?_
      | refine o_cat rfl rfl rfl (by (first | omega | (simp only [m64, mU, m8, n64, nU, n8, b64, bU, b8]; omega))) ?_
      | refine o_add rfl rfl rfl (by omega) (by omega) ?_
      | refine op_nil ?_
      | refine o_bin rfl rfl rfl rfl ?_) | (first
      | refine wp_seq ?_
      | refine wp_ops ?_
      | refine wp_keep ?_
      | refine keepN (by (simp +decide only [Slots.keep, Slots.get, reduceIte]); exact rfl) ?_
      | refine wp_block ?_
      | refine wp_skip ?_
      | refine wp_ret ?_
      | refine wp_exit ?_
      | refine bx_ret ?_
      | refine bx_here ?_
      | refine bx_exit rfl ?_))
    refine wp_if rfl ?_ ?_ <;> intro hq
    · refine wp_ops ?_
      refine o_load rfl rfl (rfget3 _ _ _ _ _ _) rfl ?_
      refine o_addkn rfl rfl rfl (by decide) (by simp only [m64]; omega) ?_
      refine o_store1 rfl rfl rfl (rfget3 _ _ _ _ _ _) (by show 0 < 1; decide) rfl (rfset3 _ _ _ _ _ _ _) ?_
      repeat (first | (first
      | refine o_skip rfl ?_
      | (refine o_ifp rfl ?_ ?_ <;> intro hq_ hg_ <;> first | (exfalso; omega) | (simp only [hg_]; clear hg_))
      | refine o_movd rfl rfl ?_
      | refine o_movp rfl rfl ?_
      | refine o_mova rfl rfl ?_
      | refine o_mov rfl rfl ?_
      | refine o_asgd rfl rfl ?_
      | refine o_asgo rfl rfl ?_
      | refine o_lenS rfl rfl ?_
      | refine o_lssn rfl rfl rfl ?_
      | refine o_idxS rfl rfl rfl rfl rfl ?_
      | refine o_eqln rfl rfl rfl ?_
      | refine o_eqs rfl rfl rfl ?_
      | refine o_pickt rfl rfl rfl ?_
      | refine o_pickf rfl rfl rfl ?_
      | refine o_addkn rfl rfl rfl (by decide) (by (first | omega | (simp only [m64, mU, m8, n64, nU, n8, b64, bU, b8]; omega))) ?_
      | refine o_cat rfl rfl rfl (by (first | omega | (simp only [m64, mU, m8, n64, nU, n8, b64, bU, b8]; omega))) ?_
      | refine o_add rfl rfl rfl (by omega) (by omega) ?_
      | refine op_nil ?_
      | refine o_bin rfl rfl rfl rfl ?_) | (first
      | refine wp_seq ?_
      | refine wp_ops ?_
      | refine wp_keep ?_
      | refine keepN (by (simp +decide only [Slots.keep, Slots.get, reduceIte]); exact rfl) ?_
      | refine wp_block ?_
      | refine wp_skip ?_
      | refine wp_ret ?_
      | refine wp_exit ?_
      | refine bx_ret ?_
      | refine bx_here ?_
      | refine bx_exit rfl ?_))
      refine end1 rfl rfl rfl rfl ?_
      rw [List.take_of_length_le (by simp)]
      simp [hq]
    · repeat (first | (first
      | refine o_skip rfl ?_
      | (refine o_ifp rfl ?_ ?_ <;> intro hq_ hg_ <;> first | (exfalso; omega) | (simp only [hg_]; clear hg_))
      | refine o_movd rfl rfl ?_
      | refine o_movp rfl rfl ?_
      | refine o_mova rfl rfl ?_
      | refine o_mov rfl rfl ?_
      | refine o_asgd rfl rfl ?_
      | refine o_asgo rfl rfl ?_
      | refine o_lenS rfl rfl ?_
      | refine o_lssn rfl rfl rfl ?_
      | refine o_idxS rfl rfl rfl rfl rfl ?_
      | refine o_eqln rfl rfl rfl ?_
      | refine o_eqs rfl rfl rfl ?_
      | refine o_pickt rfl rfl rfl ?_
      | refine o_pickf rfl rfl rfl ?_
      | refine o_addkn rfl rfl rfl (by decide) (by (first | omega | (simp only [m64, mU, m8, n64, nU, n8, b64, bU, b8]; omega))) ?_
      | refine o_cat rfl rfl rfl (by (first | omega | (simp only [m64, mU, m8, n64, nU, n8, b64, bU, b8]; omega))) ?_
      | refine o_add rfl rfl rfl (by omega) (by omega) ?_
      | refine op_nil ?_
      | refine o_bin rfl rfl rfl rfl ?_) | (first
      | refine wp_seq ?_
      | refine wp_ops ?_
      | refine wp_keep ?_
      | refine keepN (by (simp +decide only [Slots.keep, Slots.get, reduceIte]); exact rfl) ?_
      | refine wp_block ?_
      | refine wp_skip ?_
      | refine wp_ret ?_
      | refine wp_exit ?_
      | refine bx_ret ?_
      | refine bx_here ?_
      | refine bx_exit rfl ?_))
      refine end1 rfl rfl rfl rfl ?_
      rw [List.take_of_length_le (by simp)]
      simp [hq]
  · rw [hit_none (by omega)]
    refine ev_callB rfl rfl ?_
    repeat (first | (first
      | refine o_skip rfl ?_
      | (refine o_ifp rfl ?_ ?_ <;> intro hq_ hg_ <;> first | (exfalso; omega) | (simp only [hg_]; clear hg_))
      | refine o_movd rfl rfl ?_
      | refine o_movp rfl rfl ?_
      | refine o_mova rfl rfl ?_
      | refine o_mov rfl rfl ?_
      | refine o_asgd rfl rfl ?_
      | refine o_asgo rfl rfl ?_
      | refine o_lenS rfl rfl ?_
      | refine o_lssn rfl rfl rfl ?_
      | refine o_idxS rfl rfl rfl rfl rfl ?_
      | refine o_eqln rfl rfl rfl ?_
      | refine o_eqs rfl rfl rfl ?_
      | refine o_pickt rfl rfl rfl ?_
      | refine o_pickf rfl rfl rfl ?_
      | refine o_addkn rfl rfl rfl (by decide) (by (first | omega | (simp only [m64, mU, m8, n64, nU, n8, b64, bU, b8]; omega))) ?_
      | refine o_cat rfl rfl rfl (by (first | omega | (simp only [m64, mU, m8, n64, nU, n8, b64, bU, b8]; omega))) ?_
      | refine o_add rfl rfl rfl (by omega) (by omega) ?_
      | refine op_nil ?_
      | refine o_bin rfl rfl rfl rfl ?_) | (first
      | refine wp_seq ?_
      | refine wp_ops ?_
      | refine wp_keep ?_
      | refine keepN (by (simp +decide only [Slots.keep, Slots.get, reduceIte]); exact rfl) ?_
      | refine wp_block ?_
      | refine wp_skip ?_
      | refine wp_ret ?_
      | refine wp_exit ?_
      | refine bx_ret ?_
      | refine bx_here ?_
      | refine bx_exit rfl ?_))
    refine o_load rfl rfl (rfget3 _ _ _ _ _ _) rfl ?_
    refine o_load rfl rfl (rfget0 _ _ _) rfl ?_
    refine o_lenS rfl rfl ?_
    refine o_lssn rfl rfl rfl ?_
    simp only [h, decide_false]
    refine o_movd rfl rfl ?_
    refine o_skip rfl ?_
    refine o_skip rfl ?_
    refine o_skip rfl ?_
    refine o_skip rfl ?_
    refine o_skip rfl ?_
    refine o_pickf rfl rfl rfl ?_
    repeat (first | (first
      | refine o_skip rfl ?_
      | (refine o_ifp rfl ?_ ?_ <;> intro hq_ hg_ <;> first | (exfalso; omega) | (simp only [hg_]; clear hg_))
      | refine o_movd rfl rfl ?_
      | refine o_movp rfl rfl ?_
      | refine o_mova rfl rfl ?_
      | refine o_mov rfl rfl ?_
      | refine o_asgd rfl rfl ?_
      | refine o_asgo rfl rfl ?_
      | refine o_lenS rfl rfl ?_
      | refine o_lssn rfl rfl rfl ?_
      | refine o_idxS rfl rfl rfl rfl rfl ?_
      | refine o_eqln rfl rfl rfl ?_
      | refine o_eqs rfl rfl rfl ?_
      | refine o_pickt rfl rfl rfl ?_
      | refine o_pickf rfl rfl rfl ?_
      | refine o_addkn rfl rfl rfl (by decide) (by (first | omega | (simp only [m64, mU, m8, n64, nU, n8, b64, bU, b8]; omega))) ?_
      | refine o_cat rfl rfl rfl (by (first | omega | (simp only [m64, mU, m8, n64, nU, n8, b64, bU, b8]; omega))) ?_
      | refine o_add rfl rfl rfl (by omega) (by omega) ?_
      | refine op_nil ?_
      | refine o_bin rfl rfl rfl rfl ?_) | (first
      | refine wp_seq ?_
      | refine wp_ops ?_
      | refine wp_keep ?_
      | refine keepN (by (simp +decide only [Slots.keep, Slots.get, reduceIte]); exact rfl) ?_
      | refine wp_block ?_
      | refine wp_skip ?_
      | refine wp_ret ?_
      | refine wp_exit ?_
      | refine bx_ret ?_
      | refine bx_here ?_
      | refine bx_exit rfl ?_))
    refine wp_cond (b := false) rfl (fun h => absurd h (by decide)) (fun _ => ?_)
    repeat (first | (first
      | refine o_skip rfl ?_
      | (refine o_ifp rfl ?_ ?_ <;> intro hq_ hg_ <;> first | (exfalso; omega) | (simp only [hg_]; clear hg_))
      | refine o_movd rfl rfl ?_
      | refine o_movp rfl rfl ?_
      | refine o_mova rfl rfl ?_
      | refine o_mov rfl rfl ?_
      | refine o_asgd rfl rfl ?_
      | refine o_asgo rfl rfl ?_
      | refine o_lenS rfl rfl ?_
      | refine o_lssn rfl rfl rfl ?_
      | refine o_idxS rfl rfl rfl rfl rfl ?_
      | refine o_eqln rfl rfl rfl ?_
      | refine o_eqs rfl rfl rfl ?_
      | refine o_pickt rfl rfl rfl ?_
      | refine o_pickf rfl rfl rfl ?_
      | refine o_addkn rfl rfl rfl (by decide) (by (first | omega | (simp only [m64, mU, m8, n64, nU, n8, b64, bU, b8]; omega))) ?_
      | refine o_cat rfl rfl rfl (by (first | omega | (simp only [m64, mU, m8, n64, nU, n8, b64, bU, b8]; omega))) ?_
      | refine o_add rfl rfl rfl (by omega) (by omega) ?_
      | refine op_nil ?_
      | refine o_bin rfl rfl rfl rfl ?_) | (first
      | refine wp_seq ?_
      | refine wp_ops ?_
      | refine wp_keep ?_
      | refine keepN (by (simp +decide only [Slots.keep, Slots.get, reduceIte]); exact rfl) ?_
      | refine wp_block ?_
      | refine wp_skip ?_
      | refine wp_ret ?_
      | refine wp_exit ?_
      | refine bx_ret ?_
      | refine bx_here ?_
      | refine bx_exit rfl ?_))
    refine end1 rfl rfl rfl rfl ?_
    rw [List.take_of_length_le (by simp)]
    simp
end Go.Ab.R04
