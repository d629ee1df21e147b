/- A part of the proof: tools. No condition. -/
import Derived.Test.YtghchmemjjpcbaaC5
import Derived.Test.YtghchmemjjpcbaaC6
set_option linter.all false
namespace Go.Ab.R05
set_option maxRecDepth 100000
set_option linter.all false
set_option maxHeartbeats 4000000
variable {T : Tb} [hT : Base T]
theorem ev_callB {T : Tb} [hT : Base T] {f : FuncId} {args : List AV} {rf : Refs} {o : Out} {rf' : Refs} {af : AFn} (hne : orcF.contains f = false) (hf : lookupF tabl f = some af)
  (h : WP T af.body { sl := enterS args 0, rf := rf, nb := rf.length } (EndX af rf.length o rf' .nrm) (EndX af rf.length o rf')) : Ev T f args rf o rf' := by
 exact ev_call (hT.none f args hne) (by rw [hT.tb]; exact hf) h
def wd (n i : Nat) : Nat := n / 2 ^ (64 * i) % 2 ^ 64
def wdv (n i : Nat) : AV := .nat .u64 (wd n i)
def clsC (n : Nat) : List AV := [wdv n 0, wdv n 1, wdv n 2, wdv n 3]
def cls (n : Nat) : AV := .agg (clsC n)
theorem clsC_get {n j : Nat} (h : j < 4) : (clsC n)[j]? = some (.d (.int .u64 (wd n j : Nat))) := by
 rcases j with _ | _ | _ | _ | j
 ·rfl
 ·rfl
 ·rfl
 ·rfl
 ·omega
theorem get_last (rf : Refs) (x : List AV) : (rf ++ [x])[rf.length]? = some x := by simp
theorem wd_bit (n c : Nat) : wd n (c / 64) / 2 ^ (c % 64) % 2 = (n.testBit c).toNat := by
 have h : (n / 2 ^ (64 * (c / 64)) % 2 ^ 64).testBit (c % 64) = n.testBit c := by
  rw [Nat.testBit_mod_two_pow, Nat.testBit_div_two_pow]
  have : c % 64 < 64 := Nat.mod_lt _ (by omega)
  rw [show c % 64 + 64 * (c / 64) = c by omega]
  simp [this]
 rw [← h, Nat.testBit_eq_decide_div_mod_eq]
 unfold wd
 generalize n / 2 ^ (64 * (c / 64)) % 2 ^ 64 / 2 ^ (c % 64) = y
 rcases Nat.mod_two_eq_zero_or_one y with h | h <;> simp [h]
theorem Has_ev (n c : Nat) (hc : c < 256) (rf : Refs) : Ev T f_class_Has [cls n, u8 c] rf (.ret (bl (n.testBit c))) rf := by
 have hb : n.testBit c = decide (wd n (c / 64) / 2 ^ (c % 64) % 2 = 1) := by
  rw [wd_bit]; cases n.testBit c <;> rfl
 have hw : wd n (c / 64) < 2 ^ 64 := Nat.mod_lt _ (by omega)
 have hw2 := Nat.div_le_self (wd n (c / 64)) (2 ^ (c % 64))
 rw [hb]
 refine ev_callB rfl rfl ?_
 repeat (first | (first| refine o_asgd rfl rfl ?_| refine o_asgo rfl rfl ?_| refine o_movd rfl rfl ?_| refine o_movp rfl rfl ?_| refine o_mova rfl rfl ?_| refine o_mov rfl rfl ?_| refine o_quon rfl rfl rfl (by (first | omega | (simp only [mm]; omega))) (by decide) (by (first | omega | (simp only [mm]; omega))) ?_| refine o_remn rfl rfl rfl (by (first | omega | (simp only [mm]; omega))) ?_| refine o_shrn rfl rfl rfl (by (first | omega | (simp only [mm]; omega))) ?_| refine o_andn rfl rfl rfl (by (first | omega | (simp only [mm]; omega))) (by (first | omega | (simp only [mm]; omega))) (by decide) ?_| refine o_eqln rfl rfl rfl ?_| refine o_eqs rfl rfl rfl ?_| refine op_nil ?_| refine o_bin rfl rfl rfl rfl ?_) | (first| refine wp_seq ?_| refine wp_ops ?_| refine wp_keep ?_| refine keepN (by (simp +decide only [Slots.keep, Slots.get, reduceIte]); exact rfl) ?_| refine wp_block ?_| refine wp_skip ?_| refine wp_ret ?_| refine wp_exit ?_| refine bx_ret ?_| refine bx_here ?_| refine bx_exit rfl ?_))
 refine o_box rfl rfl rfl rfl ?_
 repeat (first | (first| refine o_asgd rfl rfl ?_| refine o_asgo rfl rfl ?_| refine o_movd rfl rfl ?_| refine o_movp rfl rfl ?_| refine o_mova rfl rfl ?_| refine o_mov rfl rfl ?_| refine o_quon rfl rfl rfl (by (first | omega | (simp only [mm]; omega))) (by decide) (by (first | omega | (simp only [mm]; omega))) ?_| refine o_remn rfl rfl rfl (by (first | omega | (simp only [mm]; omega))) ?_| refine o_shrn rfl rfl rfl (by (first | omega | (simp only [mm]; omega))) ?_| refine o_andn rfl rfl rfl (by (first | omega | (simp only [mm]; omega))) (by (first | omega | (simp only [mm]; omega))) (by decide) ?_| refine o_eqln rfl rfl rfl ?_| refine o_eqs rfl rfl rfl ?_| refine op_nil ?_| refine o_bin rfl rfl rfl rfl ?_) | (first| refine wp_seq ?_| refine wp_ops ?_| refine wp_keep ?_| refine keepN (by (simp +decide only [Slots.keep, Slots.get, reduceIte]); exact rfl) ?_| refine wp_block ?_| refine wp_skip ?_| refine wp_ret ?_| refine wp_exit ?_| refine bx_ret ?_| refine bx_here ?_| refine bx_exit rfl ?_))
 refine o_idxA (j := c / 64) rfl rfl rfl rfl (by omega) ?_
 refine o_load rfl rfl (get_last _ _) (clsC_get (j := 0 + c / 64 * 1) (by omega)) ?_
 rw [show 0 + c / 64 * 1 = c / 64 by omega]
 generalize wd n (c / 64) = w at *
 repeat (first | (first| refine o_asgd rfl rfl ?_| refine o_asgo rfl rfl ?_| refine o_movd rfl rfl ?_| refine o_movp rfl rfl ?_| refine o_mova rfl rfl ?_| refine o_mov rfl rfl ?_| refine o_quon rfl rfl rfl (by (first | omega | (simp only [mm]; omega))) (by decide) (by (first | omega | (simp only [mm]; omega))) ?_| refine o_remn rfl rfl rfl (by (first | omega | (simp only [mm]; omega))) ?_| refine o_shrn rfl rfl rfl (by (first | omega | (simp only [mm]; omega))) ?_| refine o_andn rfl rfl rfl (by (first | omega | (simp only [mm]; omega))) (by (first | omega | (simp only [mm]; omega))) (by decide) ?_| refine o_eqln rfl rfl rfl ?_| refine o_eqs rfl rfl rfl ?_| refine op_nil ?_| refine o_bin rfl rfl rfl rfl ?_) | (first| refine wp_seq ?_| refine wp_ops ?_| refine wp_keep ?_| refine keepN (by (simp +decide only [Slots.keep, Slots.get, reduceIte]); exact rfl) ?_| refine wp_block ?_| refine wp_skip ?_| refine wp_ret ?_| refine wp_exit ?_| refine bx_ret ?_| refine bx_here ?_| refine bx_exit rfl ?_))
 refine end1 rfl rfl rfl ?_ (by first | rfl | simp)
 rw [Nat.and_one_is_mod]
theorem wd_testBit (n i j : Nat) : (wd n i).testBit j = (decide (j < 64) && n.testBit (j + 64 * i)) := by
 unfold wd
 rw [Nat.testBit_mod_two_pow, Nat.testBit_div_two_pow]
theorem wd_or (n m i : Nat) : wd (n ||| m) i = wd n i ||| wd m i := by
 apply Nat.eq_of_testBit_eq
 intro j
 rw [Nat.testBit_or, wd_testBit, wd_testBit, wd_testBit, Nat.testBit_or]
 cases decide (j < 64) <;> simp
theorem wd_lt (n i : Nat) : wd n i < 2 ^ 64 := Nat.mod_lt _ (by omega)
def notN (n : Nat) : Nat := 2 ^ 256 - 1 - n % 2 ^ 256
theorem notN_bit (n c : Nat) : (notN n).testBit c = (decide (c < 256) && !n.testBit c) := by
 unfold notN
 rw [show 2 ^ 256 - 1 - n % 2 ^ 256 = 2 ^ 256 - (n % 2 ^ 256 + 1) by omega, Nat.testBit_two_pow_sub_succ (Nat.mod_lt _ (by omega)), Nat.testBit_mod_two_pow]
 cases h : decide (c < 256) <;> simp
theorem wd_not (n i : Nat) (hi : i < 4) : wd (notN n) i = 2 ^ 64 - 1 - wd n i := by
 apply Nat.eq_of_testBit_eq
 intro j
 have hl := wd_lt n i
 rw [show 2 ^ 64 - 1 - wd n i = 2 ^ 64 - (wd n i + 1) by omega, Nat.testBit_two_pow_sub_succ hl, wd_testBit, wd_testBit, notN_bit]
 by_cases h : j < 64
 ·have : j + 64 * i < 256 := by omega
  simp [h, this]
 ·simp [h]
def mixC (n m i : Nat) : List AV := (List.range 4).map fun j => .nat .u64 (if j < i then wd n j else wd m j)
theorem mixC_0 (n m : Nat) : mixC n m 0 = clsC m := rfl
theorem mixC_4 (n m : Nat) : mixC n m 4 = clsC n := rfl
theorem mixC_get {n m i : Nat} (h : i < 4) : (mixC n m i)[i]? = some (.d (.int .u64 (wd m i : Nat))) := by
 rcases i with _ | _ | _ | _ | i <;> first | rfl | omega
theorem mixC_set {n m i : Nat} {v : Nat} (h : i < 4) (hv : v = wd n i) : (mixC n m i).set i (.d (.int .u64 (v : Nat))) = mixC n m (i + 1) := by
 subst hv
 rcases i with _ | _ | _ | _ | i <;> first | rfl | omega
theorem mixC_length (n m i : Nat) : (mixC n m i).length = 4 := rfl
def z4 : List AV := [.nat .u64 0, .nat .u64 0, .nat .u64 0, .nat .u64 0]
theorem bn_not64 {a : Nat} (ha : a < 18446744073709551616) : unA .xor (.d (.int .u64 a)) = some (.d (.int .u64 ((18446744073709551615 - a : Nat) : Int))) := by
 have hm : ((a : Nat) : Int) ≤ IntKind.u64.max := by rw [mU]; omega
 have e1 : BitVec.ofInt IntKind.u64.bits (if IntKind.u64.signed then -1 else IntKind.u64.max) = BitVec.allOnes IntKind.u64.bits := by decide
 have e2 : (BitVec.allOnes IntKind.u64.bits ^^^ BitVec.ofInt IntKind.u64.bits (a : Int)).toNat = 18446744073709551615 - a := by
  rw [BitVec.allOnes_xor, BitVec.toNat_not, toInt_ofInt_nat (max_lt hm)]
  rfl
 simp only [unA]
 rw [e1, e2, wrap_bits (by decide) (by rw [mU]; omega)]
section
variable {sl : Slots} {rf : Refs} {df : List (AV × List AV)} {pn : Option (Option AV)} {nb : Nat} {N : St → Prop} {X : Ex → St → Prop} {r : List AOp} {d : Nat} {g : Option (Nat × Bool)} {may : Bool}
theorem o_not64 {x : Opd} {a : Nat} (hg : wantedL sl g = some true) (hx : getO sl x = some (.d (.int .u64 a))) (ha : a < 18446744073709551616) (h : OP T r ⟨(d, .d (.int .u64 ((18446744073709551615 - a : Nat) : Int))) :: sl, rf, df, pn, nb⟩ N X) : OP T (⟨some d, .un .xor x, g, may⟩ :: r) ⟨sl, rf, df, pn, nb⟩ N X :=
 o_pure hg (by simp only [stepOp, hx, bn_not64 ha]; rfl) h
end
theorem rfget0 (rf : Refs) (a : List AV) (x : List (List AV)) : (rf ++ a :: x)[rf.length]? = some a := by simp
theorem rfget1 (rf : Refs) (a b : List AV) (x : List (List AV)) : (rf ++ a :: b :: x)[rf.length + 1]? = some b := by simp
theorem rfget2 (rf : Refs) (a b c : List AV) (x : List (List AV)) : (rf ++ a :: b :: c :: x)[rf.length + 2]? = some c := by simp
theorem rfset0 (rf : Refs) (a y : List AV) (x : List (List AV)) : (rf ++ a :: x).set rf.length y = rf ++ y :: x := by simp
theorem rfset1 (rf : Refs) (a b y : List AV) (x : List (List AV)) : (rf ++ a :: b :: x).set (rf.length + 1) y = rf ++ a :: y :: x := by simp
theorem rfset2 (rf : Refs) (a b c y : List AV) (x : List (List AV)) : (rf ++ a :: b :: c :: x).set (rf.length + 2) y = rf ++ a :: b :: y :: x := by simp
section
variable {sl : Slots} {rf : Refs} {df : List (AV × List AV)} {pn : Option (Option AV)} {nb : Nat} {N : St → Prop} {X : Ex → St → Prop} {r : List AOp} {d : Nat} {g : Option (Nat × Bool)} {may : Bool}
theorem end_cls {af : AFn} {n t q k : Nat} {rf' : Refs} (hk : af.keep = false) (hr : af.res = [.cell t (some 4)]) (hv : sl.get t = some (.ptr q 0)) (hg : rf[q]? = some (clsC k)) (hrf : rf' = rf.take n) : EndX af n (.ret (cls k)) rf' .ret ⟨sl, rf, [], pn, nb⟩ :=
 .ret (v := cls k) rfl (by rw [hr, hk]; simp only [resOf, resAs, resA, hv, loadAt, Refs.cellsAt, hg]; rfl) (by simp [cls, clsC, wdv, AV.nat, AV.refB, AV.refBs]) rfl hrf
theorem o_lcls {a : Opd} {q k : Nat} (hg : wantedL sl g = some true) (ha : getO sl a = some (.ptr q 0)) (hr : rf[q]? = some (clsC k)) (h : OP T r ⟨(d, cls k) :: sl, rf, df, pn, nb⟩ N X) :
  OP T (⟨some d, .load (some 4) a, g, may⟩ :: r) ⟨sl, rf, df, pn, nb⟩ N X :=
 o_loada hg ha hr (Nat.le_refl 4) rfl h
theorem o_scls {a x : Opd} {q k : Nat} {cs : List AV} {rf' : Refs} (hg : wantedL sl g = some true) (ha : getO sl a = some (.ptr q 0)) (hx : rawO sl x = some (cls k)) (hr : rf[q]? = some cs) (hl : cs.length = 4) (hrf : rf.set q (clsC k) = rf') (h : OP T r ⟨sl, rf', df, pn, nb⟩ N X) :
  OP T (⟨none, .store 4 a x, g, may⟩ :: r) ⟨sl, rf, df, pn, nb⟩ N X := by
 subst hrf
 refine o_store hg ha hx (fun _ h => by cases h) rfl rfl rfl hr (by omega) (.inl (by simp [cls, clsC, wdv, AV.nat, AV.cellsO, AV.strips, AV.strip, AV.refBs, AV.refB])) ?_ h
 obtain ⟨a, b, c, d, rfl⟩ : ∃ a b c d, cs = [a, b, c, d] := by
  rcases cs with _ | ⟨a, _ | ⟨b, _ | ⟨c, _ | ⟨d, _ | ⟨e, cs⟩⟩⟩⟩⟩ <;> simp at hl
  exact ⟨a, b, c, d, rfl⟩
 rfl
end
theorem Or_ev (n m : Nat) (rf : Refs) : Ev T f_class_Or [cls n, cls m] rf (.ret (cls (n ||| m))) rf := by
 refine ev_callB rfl rfl ?_
 repeat (first | (first| refine o_movd rfl rfl ?_| refine o_movp rfl rfl ?_| refine o_mova rfl rfl ?_| refine o_mov rfl rfl ?_| refine o_lssn rfl rfl rfl ?_| refine o_asgd rfl rfl ?_| refine o_asgo rfl rfl ?_| refine o_orn rfl rfl rfl (by (first | omega | (simp only [mm]; omega))) (by (first | omega | (simp only [mm]; omega))) (by decide) ?_| refine o_addkn rfl rfl rfl (by decide) (by (first | omega | (simp only [mm]; omega))) ?_| refine o_cat rfl rfl rfl (by (first | omega | (simp only [mm]; omega))) ?_| refine o_add rfl rfl rfl (by omega) (by omega) ?_| refine op_nil ?_| refine o_bin rfl rfl rfl rfl ?_) | (first| refine wp_seq ?_| refine wp_ops ?_| refine wp_keep ?_| refine keepN (by (simp +decide only [Slots.keep, Slots.get, reduceIte]); exact rfl) ?_| refine wp_block ?_| refine wp_skip ?_| refine wp_ret ?_| refine wp_exit ?_| refine bx_ret ?_| refine bx_here ?_| refine bx_exit rfl ?_))
 refine o_box rfl rfl rfl rfl ?_
 refine o_box rfl rfl rfl rfl ?_
 refine o_alloc rfl ?_
 repeat (first | (first| refine o_movd rfl rfl ?_| refine o_movp rfl rfl ?_| refine o_mova rfl rfl ?_| refine o_mov rfl rfl ?_| refine o_lssn rfl rfl rfl ?_| refine o_asgd rfl rfl ?_| refine o_asgo rfl rfl ?_| refine o_orn rfl rfl rfl (by (first | omega | (simp only [mm]; omega))) (by (first | omega | (simp only [mm]; omega))) (by decide) ?_| refine o_addkn rfl rfl rfl (by decide) (by (first | omega | (simp only [mm]; omega))) ?_| refine o_cat rfl rfl rfl (by (first | omega | (simp only [mm]; omega))) ?_| refine o_add rfl rfl rfl (by omega) (by omega) ?_| refine op_nil ?_| refine o_bin rfl rfl rfl rfl ?_) | (first| refine wp_seq ?_| refine wp_ops ?_| refine wp_keep ?_| refine keepN (by (simp +decide only [Slots.keep, Slots.get, reduceIte]); exact rfl) ?_| refine wp_block ?_| refine wp_skip ?_| refine wp_ret ?_| refine wp_exit ?_| refine bx_ret ?_| refine bx_here ?_| refine bx_exit rfl ?_))
 simp only [List.length_append, List.length_cons, List.length_nil, List.append_assoc, List.cons_append, List.nil_append, Nat.zero_add, Nat.add_assoc, Nat.reduceAdd]
 refine wp_loop (m := 4) (fun k st => ∃ i : Nat, i + k = 4 ∧ st = ⟨[(2, .ptr rf.length 0), (3, .ptr (rf.length + 1) 0), (4, .ptr (rf.length + 2) 0), (6, i64 i)], rf ++ [mixC (n ||| m) n i, clsC m, z4], [], none, rf.length⟩) ⟨0, by omega, rfl⟩ ?_
 rintro k st ⟨i, hik, rfl⟩ -
 repeat (first | (first| refine o_movd rfl rfl ?_| refine o_movp rfl rfl ?_| refine o_mova rfl rfl ?_| refine o_mov rfl rfl ?_| refine o_lssn rfl rfl rfl ?_| refine o_asgd rfl rfl ?_| refine o_asgo rfl rfl ?_| refine o_orn rfl rfl rfl (by (first | omega | (simp only [mm]; omega))) (by (first | omega | (simp only [mm]; omega))) (by decide) ?_| refine o_addkn rfl rfl rfl (by decide) (by (first | omega | (simp only [mm]; omega))) ?_| refine o_cat rfl rfl rfl (by (first | omega | (simp only [mm]; omega))) ?_| refine o_add rfl rfl rfl (by omega) (by omega) ?_| refine op_nil ?_| refine o_bin rfl rfl rfl rfl ?_) | (first| refine wp_seq ?_| refine wp_ops ?_| refine wp_keep ?_| refine keepN (by (simp +decide only [Slots.keep, Slots.get, reduceIte]); exact rfl) ?_| refine wp_block ?_| refine wp_skip ?_| refine wp_ret ?_| refine wp_exit ?_| refine bx_ret ?_| refine bx_here ?_| refine bx_exit rfl ?_))
 refine wp_if rfl ?_ ?_ <;> intro hi
 ·have h1 := wd_lt n i
  have h2 := wd_lt m i
  repeat (first | (first| refine o_movd rfl rfl ?_| refine o_movp rfl rfl ?_| refine o_mova rfl rfl ?_| refine o_mov rfl rfl ?_| refine o_lssn rfl rfl rfl ?_| refine o_asgd rfl rfl ?_| refine o_asgo rfl rfl ?_| refine o_orn rfl rfl rfl (by (first | omega | (simp only [mm]; omega))) (by (first | omega | (simp only [mm]; omega))) (by decide) ?_| refine o_addkn rfl rfl rfl (by decide) (by (first | omega | (simp only [mm]; omega))) ?_| refine o_cat rfl rfl rfl (by (first | omega | (simp only [mm]; omega))) ?_| refine o_add rfl rfl rfl (by omega) (by omega) ?_| refine op_nil ?_| refine o_bin rfl rfl rfl rfl ?_) | (first| refine wp_seq ?_| refine wp_ops ?_| refine wp_keep ?_| refine keepN (by (simp +decide only [Slots.keep, Slots.get, reduceIte]); exact rfl) ?_| refine wp_block ?_| refine wp_skip ?_| refine wp_ret ?_| refine wp_exit ?_| refine bx_ret ?_| refine bx_here ?_| refine bx_exit rfl ?_))
  refine o_idxA (j := i) rfl rfl rfl rfl (by omega) ?_
  rw [show 0 + i * 1 = i by omega]
  refine o_load rfl rfl (rfget0 _ _ _) (mixC_get (by omega)) ?_
  repeat (first | (first| refine o_movd rfl rfl ?_| refine o_movp rfl rfl ?_| refine o_mova rfl rfl ?_| refine o_mov rfl rfl ?_| refine o_lssn rfl rfl rfl ?_| refine o_asgd rfl rfl ?_| refine o_asgo rfl rfl ?_| refine o_orn rfl rfl rfl (by (first | omega | (simp only [mm]; omega))) (by (first | omega | (simp only [mm]; omega))) (by decide) ?_| refine o_addkn rfl rfl rfl (by decide) (by (first | omega | (simp only [mm]; omega))) ?_| refine o_cat rfl rfl rfl (by (first | omega | (simp only [mm]; omega))) ?_| refine o_add rfl rfl rfl (by omega) (by omega) ?_| refine op_nil ?_| refine o_bin rfl rfl rfl rfl ?_) | (first| refine wp_seq ?_| refine wp_ops ?_| refine wp_keep ?_| refine keepN (by (simp +decide only [Slots.keep, Slots.get, reduceIte]); exact rfl) ?_| refine wp_block ?_| refine wp_skip ?_| refine wp_ret ?_| refine wp_exit ?_| refine bx_ret ?_| refine bx_here ?_| refine bx_exit rfl ?_))
  refine o_idxA (j := i) rfl rfl rfl rfl (by omega) ?_
  rw [show 0 + i * 1 = i by omega]
  refine o_load rfl rfl (rfget1 _ _ _ _) (clsC_get (by omega)) ?_
  repeat (first | (first| refine o_movd rfl rfl ?_| refine o_movp rfl rfl ?_| refine o_mova rfl rfl ?_| refine o_mov rfl rfl ?_| refine o_lssn rfl rfl rfl ?_| refine o_asgd rfl rfl ?_| refine o_asgo rfl rfl ?_| refine o_orn rfl rfl rfl (by (first | omega | (simp only [mm]; omega))) (by (first | omega | (simp only [mm]; omega))) (by decide) ?_| refine o_addkn rfl rfl rfl (by decide) (by (first | omega | (simp only [mm]; omega))) ?_| refine o_cat rfl rfl rfl (by (first | omega | (simp only [mm]; omega))) ?_| refine o_add rfl rfl rfl (by omega) (by omega) ?_| refine op_nil ?_| refine o_bin rfl rfl rfl rfl ?_) | (first| refine wp_seq ?_| refine wp_ops ?_| refine wp_keep ?_| refine keepN (by (simp +decide only [Slots.keep, Slots.get, reduceIte]); exact rfl) ?_| refine wp_block ?_| refine wp_skip ?_| refine wp_ret ?_| refine wp_exit ?_| refine bx_ret ?_| refine bx_here ?_| refine bx_exit rfl ?_))
  refine o_idxA (j := i) rfl rfl rfl rfl (by omega) ?_
  rw [show 0 + i * 1 = i by omega]
  refine o_store1 rfl rfl rfl (rfget0 _ _ _) (by rw [mixC_length]; omega) (mixC_set (by omega) (wd_or n m i).symm) (rfset0 _ _ _ _) ?_
  repeat (first | (first| refine o_movd rfl rfl ?_| refine o_movp rfl rfl ?_| refine o_mova rfl rfl ?_| refine o_mov rfl rfl ?_| refine o_lssn rfl rfl rfl ?_| refine o_asgd rfl rfl ?_| refine o_asgo rfl rfl ?_| refine o_orn rfl rfl rfl (by (first | omega | (simp only [mm]; omega))) (by (first | omega | (simp only [mm]; omega))) (by decide) ?_| refine o_addkn rfl rfl rfl (by decide) (by (first | omega | (simp only [mm]; omega))) ?_| refine o_cat rfl rfl rfl (by (first | omega | (simp only [mm]; omega))) ?_| refine o_add rfl rfl rfl (by omega) (by omega) ?_| refine op_nil ?_| refine o_bin rfl rfl rfl rfl ?_) | (first| refine wp_seq ?_| refine wp_ops ?_| refine wp_keep ?_| refine keepN (by (simp +decide only [Slots.keep, Slots.get, reduceIte]); exact rfl) ?_| refine wp_block ?_| refine wp_skip ?_| refine wp_ret ?_| refine wp_exit ?_| refine bx_ret ?_| refine bx_here ?_| refine bx_exit rfl ?_))
  refine ⟨by simp, k - 1, by omega, i + 1, by omega, rfl⟩
 ·have : i = 4 := by omega
  subst this
  rw [mixC_4]
  repeat (first | (first| refine o_movd rfl rfl ?_| refine o_movp rfl rfl ?_| refine o_mova rfl rfl ?_| refine o_mov rfl rfl ?_| refine o_lssn rfl rfl rfl ?_| refine o_asgd rfl rfl ?_| refine o_asgo rfl rfl ?_| refine o_orn rfl rfl rfl (by (first | omega | (simp only [mm]; omega))) (by (first | omega | (simp only [mm]; omega))) (by decide) ?_| refine o_addkn rfl rfl rfl (by decide) (by (first | omega | (simp only [mm]; omega))) ?_| refine o_cat rfl rfl rfl (by (first | omega | (simp only [mm]; omega))) ?_| refine o_add rfl rfl rfl (by omega) (by omega) ?_| refine op_nil ?_| refine o_bin rfl rfl rfl rfl ?_) | (first| refine wp_seq ?_| refine wp_ops ?_| refine wp_keep ?_| refine keepN (by (simp +decide only [Slots.keep, Slots.get, reduceIte]); exact rfl) ?_| refine wp_block ?_| refine wp_skip ?_| refine wp_ret ?_| refine wp_exit ?_| refine bx_ret ?_| refine bx_here ?_| refine bx_exit rfl ?_))
  refine o_lcls rfl rfl (rfget0 _ _ _) ?_
  refine o_scls rfl rfl rfl (rfget2 _ _ _ _ _) rfl (rfset2 _ _ _ _ _ _) ?_
  repeat (first | (first| refine o_movd rfl rfl ?_| refine o_movp rfl rfl ?_| refine o_mova rfl rfl ?_| refine o_mov rfl rfl ?_| refine o_lssn rfl rfl rfl ?_| refine o_asgd rfl rfl ?_| refine o_asgo rfl rfl ?_| refine o_orn rfl rfl rfl (by (first | omega | (simp only [mm]; omega))) (by (first | omega | (simp only [mm]; omega))) (by decide) ?_| refine o_addkn rfl rfl rfl (by decide) (by (first | omega | (simp only [mm]; omega))) ?_| refine o_cat rfl rfl rfl (by (first | omega | (simp only [mm]; omega))) ?_| refine o_add rfl rfl rfl (by omega) (by omega) ?_| refine op_nil ?_| refine o_bin rfl rfl rfl rfl ?_) | (first| refine wp_seq ?_| refine wp_ops ?_| refine wp_keep ?_| refine keepN (by (simp +decide only [Slots.keep, Slots.get, reduceIte]); exact rfl) ?_| refine wp_block ?_| refine wp_skip ?_| refine wp_ret ?_| refine wp_exit ?_| refine bx_ret ?_| refine bx_here ?_| refine bx_exit rfl ?_))
  refine end_cls rfl rfl rfl (rfget2 _ _ _ _ _) (by simp)
theorem Not_ev (n : Nat) (rf : Refs) : Ev T f_class_Not [cls n] rf (.ret (cls (notN n))) rf := by
 refine ev_callB rfl rfl ?_
 repeat (first | (first| refine o_movd rfl rfl ?_| refine o_movp rfl rfl ?_| refine o_mova rfl rfl ?_| refine o_mov rfl rfl ?_| refine o_lssn rfl rfl rfl ?_| refine o_asgd rfl rfl ?_| refine o_asgo rfl rfl ?_| refine o_addkn rfl rfl rfl (by decide) (by (first | omega | (simp only [mm]; omega))) ?_| refine o_cat rfl rfl rfl (by (first | omega | (simp only [mm]; omega))) ?_| refine o_add rfl rfl rfl (by omega) (by omega) ?_| refine op_nil ?_| refine o_bin rfl rfl rfl rfl ?_) | (first| refine wp_seq ?_| refine wp_ops ?_| refine wp_keep ?_| refine keepN (by (simp +decide only [Slots.keep, Slots.get, reduceIte]); exact rfl) ?_| refine wp_block ?_| refine wp_skip ?_| refine wp_ret ?_| refine wp_exit ?_| refine bx_ret ?_| refine bx_here ?_| refine bx_exit rfl ?_))
 refine o_box rfl rfl rfl rfl ?_
 refine o_alloc rfl ?_
 repeat (first | (first| refine o_movd rfl rfl ?_| refine o_movp rfl rfl ?_| refine o_mova rfl rfl ?_| refine o_mov rfl rfl ?_| refine o_lssn rfl rfl rfl ?_| refine o_asgd rfl rfl ?_| refine o_asgo rfl rfl ?_| refine o_addkn rfl rfl rfl (by decide) (by (first | omega | (simp only [mm]; omega))) ?_| refine o_cat rfl rfl rfl (by (first | omega | (simp only [mm]; omega))) ?_| refine o_add rfl rfl rfl (by omega) (by omega) ?_| refine op_nil ?_| refine o_bin rfl rfl rfl rfl ?_) | (first| refine wp_seq ?_| refine wp_ops ?_| refine wp_keep ?_| refine keepN (by (simp +decide only [Slots.keep, Slots.get, reduceIte]); exact rfl) ?_| refine wp_block ?_| refine wp_skip ?_| refine wp_ret ?_| refine wp_exit ?_| refine bx_ret ?_| refine bx_here ?_| refine bx_exit rfl ?_))
 simp only [List.length_append, List.length_cons, List.length_nil, List.append_assoc, List.cons_append, List.nil_append, Nat.zero_add, Nat.add_assoc, Nat.reduceAdd]
 refine wp_loop (m := 4) (fun k st => ∃ i : Nat, i + k = 4 ∧ st = ⟨[(1, .ptr rf.length 0), (2, .ptr (rf.length + 1) 0), (4, i64 i)], rf ++ [mixC (notN n) n i, z4], [], none, rf.length⟩) ⟨0, by omega, rfl⟩ ?_
 rintro k st ⟨i, hik, rfl⟩ -
 repeat (first | (first| refine o_movd rfl rfl ?_| refine o_movp rfl rfl ?_| refine o_mova rfl rfl ?_| refine o_mov rfl rfl ?_| refine o_lssn rfl rfl rfl ?_| refine o_asgd rfl rfl ?_| refine o_asgo rfl rfl ?_| refine o_addkn rfl rfl rfl (by decide) (by (first | omega | (simp only [mm]; omega))) ?_| refine o_cat rfl rfl rfl (by (first | omega | (simp only [mm]; omega))) ?_| refine o_add rfl rfl rfl (by omega) (by omega) ?_| refine op_nil ?_| refine o_bin rfl rfl rfl rfl ?_) | (first| refine wp_seq ?_| refine wp_ops ?_| refine wp_keep ?_| refine keepN (by (simp +decide only [Slots.keep, Slots.get, reduceIte]); exact rfl) ?_| refine wp_block ?_| refine wp_skip ?_| refine wp_ret ?_| refine wp_exit ?_| refine bx_ret ?_| refine bx_here ?_| refine bx_exit rfl ?_))
 refine wp_if rfl ?_ ?_ <;> intro hi
 ·have h1 := wd_lt n i
  repeat (first | (first| refine o_movd rfl rfl ?_| refine o_movp rfl rfl ?_| refine o_mova rfl rfl ?_| refine o_mov rfl rfl ?_| refine o_lssn rfl rfl rfl ?_| refine o_asgd rfl rfl ?_| refine o_asgo rfl rfl ?_| refine o_addkn rfl rfl rfl (by decide) (by (first | omega | (simp only [mm]; omega))) ?_| refine o_cat rfl rfl rfl (by (first | omega | (simp only [mm]; omega))) ?_| refine o_add rfl rfl rfl (by omega) (by omega) ?_| refine op_nil ?_| refine o_bin rfl rfl rfl rfl ?_) | (first| refine wp_seq ?_| refine wp_ops ?_| refine wp_keep ?_| refine keepN (by (simp +decide only [Slots.keep, Slots.get, reduceIte]); exact rfl) ?_| refine wp_block ?_| refine wp_skip ?_| refine wp_ret ?_| refine wp_exit ?_| refine bx_ret ?_| refine bx_here ?_| refine bx_exit rfl ?_))
  refine o_idxA (j := i) rfl rfl rfl rfl (by omega) ?_
  rw [show 0 + i * 1 = i by omega]
  refine o_load rfl rfl (rfget0 _ _ _) (mixC_get (by omega)) ?_
  refine o_not64 rfl rfl (by omega) ?_
  refine o_idxA (j := i) rfl rfl rfl rfl (by omega) ?_
  rw [show 0 + i * 1 = i by omega]
  refine o_store1 rfl rfl rfl (rfget0 _ _ _) (by rw [mixC_length]; omega) (mixC_set (by omega) (wd_not n i (by omega)).symm) (rfset0 _ _ _ _) ?_
  repeat (first | (first| refine o_movd rfl rfl ?_| refine o_movp rfl rfl ?_| refine o_mova rfl rfl ?_| refine o_mov rfl rfl ?_| refine o_lssn rfl rfl rfl ?_| refine o_asgd rfl rfl ?_| refine o_asgo rfl rfl ?_| refine o_addkn rfl rfl rfl (by decide) (by (first | omega | (simp only [mm]; omega))) ?_| refine o_cat rfl rfl rfl (by (first | omega | (simp only [mm]; omega))) ?_| refine o_add rfl rfl rfl (by omega) (by omega) ?_| refine op_nil ?_| refine o_bin rfl rfl rfl rfl ?_) | (first| refine wp_seq ?_| refine wp_ops ?_| refine wp_keep ?_| refine keepN (by (simp +decide only [Slots.keep, Slots.get, reduceIte]); exact rfl) ?_| refine wp_block ?_| refine wp_skip ?_| refine wp_ret ?_| refine wp_exit ?_| refine bx_ret ?_| refine bx_here ?_| refine bx_exit rfl ?_))
  refine ⟨by simp, k - 1, by omega, i + 1, by omega, rfl⟩
 ·have : i = 4 := by omega
  subst this
  rw [mixC_4]
  repeat (first | (first| refine o_movd rfl rfl ?_| refine o_movp rfl rfl ?_| refine o_mova rfl rfl ?_| refine o_mov rfl rfl ?_| refine o_lssn rfl rfl rfl ?_| refine o_asgd rfl rfl ?_| refine o_asgo rfl rfl ?_| refine o_addkn rfl rfl rfl (by decide) (by (first | omega | (simp only [mm]; omega))) ?_| refine o_cat rfl rfl rfl (by (first | omega | (simp only [mm]; omega))) ?_| refine o_add rfl rfl rfl (by omega) (by omega) ?_| refine op_nil ?_| refine o_bin rfl rfl rfl rfl ?_) | (first| refine wp_seq ?_| refine wp_ops ?_| refine wp_keep ?_| refine keepN (by (simp +decide only [Slots.keep, Slots.get, reduceIte]); exact rfl) ?_| refine wp_block ?_| refine wp_skip ?_| refine wp_ret ?_| refine wp_exit ?_| refine bx_ret ?_| refine bx_here ?_| refine bx_exit rfl ?_))
  refine o_lcls rfl rfl (rfget0 _ _ _) ?_
  refine o_scls rfl rfl rfl (rfget1 _ _ _ _) rfl (rfset1 _ _ _ _ _) ?_
  repeat (first | (first| refine o_movd rfl rfl ?_| refine o_movp rfl rfl ?_| refine o_mova rfl rfl ?_| refine o_mov rfl rfl ?_| refine o_lssn rfl rfl rfl ?_| refine o_asgd rfl rfl ?_| refine o_asgo rfl rfl ?_| refine o_addkn rfl rfl rfl (by decide) (by (first | omega | (simp only [mm]; omega))) ?_| refine o_cat rfl rfl rfl (by (first | omega | (simp only [mm]; omega))) ?_| refine o_add rfl rfl rfl (by omega) (by omega) ?_| refine op_nil ?_| refine o_bin rfl rfl rfl rfl ?_) | (first| refine wp_seq ?_| refine wp_ops ?_| refine wp_keep ?_| refine keepN (by (simp +decide only [Slots.keep, Slots.get, reduceIte]); exact rfl) ?_| refine wp_block ?_| refine wp_skip ?_| refine wp_ret ?_| refine wp_exit ?_| refine bx_ret ?_| refine bx_here ?_| refine bx_exit rfl ?_))
  refine end_cls rfl rfl rfl (rfget1 _ _ _ _) (by simp)
def spanN (a : Nat) : Nat → Nat
 | 0 => 0
 | k + 1 => spanN a k ||| 2 ^ (a + k)
theorem spanN_bit (a k c : Nat) : (spanN a k).testBit c = decide (a ≤ c ∧ c < a + k) := by
 induction k with
 | zero => simp [spanN]
 | succ k ih =>
   simp only [spanN, Nat.testBit_or, ih, Nat.testBit_two_pow]
   rw [Bool.eq_iff_iff]
   simp
   omega
theorem pop_spanN (a k n : Nat) (h : a + k ≤ n) : pop n (spanN a k) = k := by
 induction k with
 | zero =>
   have : ∀ n, pop n 0 = 0 := fun n => by induction n <;> simp_all [pop]
   exact this n
 | succ k ih =>
   simp only [spanN]
   rw [pop_set n _ _ (by omega) (by rw [spanN_bit]; simp), ih (by omega)]
theorem wd_pow (c i : Nat) (hi : i < 4) : wd (2 ^ c) i = if i = c / 64 then 2 ^ (c % 64) else 0 := by
 apply Nat.eq_of_testBit_eq
 intro j
 rw [wd_testBit, Nat.testBit_two_pow]
 split
 ·rename_i h
  rw [Nat.testBit_two_pow, Bool.eq_iff_iff]
  simp
  omega
 ·rw [Bool.eq_iff_iff]
  simp
  omega
theorem clsC_set (n c : Nat) (hc : c < 256) : (clsC n).set (c / 64) (.d (.int .u64 ((wd n (c / 64) ||| 1 * 2 ^ (c % 64) : Nat) : Int))) = clsC (n ||| 2 ^ c) := by
 have h : ∀ i, i < 4 → wd (n ||| 2 ^ c) i = wd n i ||| (if i = c / 64 then 2 ^ (c % 64) else 0) := fun i hi => by rw [wd_or, wd_pow c i hi]
 simp only [clsC, wdv, h 0 (by omega), h 1 (by omega), h 2 (by omega), h 3 (by omega), Nat.one_mul]
 obtain e | e | e | e : c / 64 = 0 ∨ c / 64 = 1 ∨ c / 64 = 2 ∨ c / 64 = 3 := by omega
 all_goals (rw [e]; simp; try rfl)
theorem clsC_zero (a : Nat) : clsC (spanN a 0) = z4 := by simp [clsC, wdv, wd, spanN, z4]
theorem Span_ev (a b : Nat) (ha : a < 256) (hb : b < 256) (rf : Refs) : Ev T f_class_Span [u8 a, u8 b] rf (.ret (cls (spanN a (b + 1 - a)))) rf := by
 refine ev_callB rfl rfl ?_
 repeat (first | (first| refine o_movd rfl rfl ?_| refine o_movp rfl rfl ?_| refine o_mova rfl rfl ?_| refine o_mov rfl rfl ?_| refine o_toInt rfl rfl (by (first | omega | (simp only [mm]; omega))) (by (first | omega | (simp only [mm]; omega))) ?_| refine o_asgd rfl rfl ?_| refine o_asgo rfl rfl ?_| refine o_leqn rfl rfl rfl ?_| refine o_quon rfl rfl rfl (by (first | omega | (simp only [mm]; omega))) (by decide) (by (first | omega | (simp only [mm]; omega))) ?_| refine o_remn rfl rfl rfl (by (first | omega | (simp only [mm]; omega))) ?_| refine o_shln rfl rfl rfl (by (first | omega | (simp only [mm]; omega))) (by decide) (by (first | omega | (simp only [mm]; omega))) ?_| refine o_orn rfl rfl rfl (by (first | omega | (simp only [mm]; omega))) (by (first | omega | (simp only [mm]; omega))) (by decide) ?_| refine o_addkn rfl rfl rfl (by decide) (by (first | omega | (simp only [mm]; omega))) ?_| refine o_cat rfl rfl rfl (by (first | omega | (simp only [mm]; omega))) ?_| refine o_add rfl rfl rfl (by omega) (by omega) ?_| refine op_nil ?_| refine o_bin rfl rfl rfl rfl ?_) | (first| refine wp_seq ?_| refine wp_ops ?_| refine wp_keep ?_| refine keepN (by (simp +decide only [Slots.keep, Slots.get, reduceIte]); exact rfl) ?_| refine wp_block ?_| refine wp_skip ?_| refine wp_ret ?_| refine wp_exit ?_| refine bx_ret ?_| refine bx_here ?_| refine bx_exit rfl ?_))
 refine o_alloc rfl ?_
 repeat (first | (first| refine o_movd rfl rfl ?_| refine o_movp rfl rfl ?_| refine o_mova rfl rfl ?_| refine o_mov rfl rfl ?_| refine o_toInt rfl rfl (by (first | omega | (simp only [mm]; omega))) (by (first | omega | (simp only [mm]; omega))) ?_| refine o_asgd rfl rfl ?_| refine o_asgo rfl rfl ?_| refine o_leqn rfl rfl rfl ?_| refine o_quon rfl rfl rfl (by (first | omega | (simp only [mm]; omega))) (by decide) (by (first | omega | (simp only [mm]; omega))) ?_| refine o_remn rfl rfl rfl (by (first | omega | (simp only [mm]; omega))) ?_| refine o_shln rfl rfl rfl (by (first | omega | (simp only [mm]; omega))) (by decide) (by (first | omega | (simp only [mm]; omega))) ?_| refine o_orn rfl rfl rfl (by (first | omega | (simp only [mm]; omega))) (by (first | omega | (simp only [mm]; omega))) (by decide) ?_| refine o_addkn rfl rfl rfl (by decide) (by (first | omega | (simp only [mm]; omega))) ?_| refine o_cat rfl rfl rfl (by (first | omega | (simp only [mm]; omega))) ?_| refine o_add rfl rfl rfl (by omega) (by omega) ?_| refine op_nil ?_| refine o_bin rfl rfl rfl rfl ?_) | (first| refine wp_seq ?_| refine wp_ops ?_| refine wp_keep ?_| refine keepN (by (simp +decide only [Slots.keep, Slots.get, reduceIte]); exact rfl) ?_| refine wp_block ?_| refine wp_skip ?_| refine wp_ret ?_| refine wp_exit ?_| refine bx_ret ?_| refine bx_here ?_| refine bx_exit rfl ?_))
 refine o_alloc rfl ?_
 repeat (first | (first| refine o_movd rfl rfl ?_| refine o_movp rfl rfl ?_| refine o_mova rfl rfl ?_| refine o_mov rfl rfl ?_| refine o_toInt rfl rfl (by (first | omega | (simp only [mm]; omega))) (by (first | omega | (simp only [mm]; omega))) ?_| refine o_asgd rfl rfl ?_| refine o_asgo rfl rfl ?_| refine o_leqn rfl rfl rfl ?_| refine o_quon rfl rfl rfl (by (first | omega | (simp only [mm]; omega))) (by decide) (by (first | omega | (simp only [mm]; omega))) ?_| refine o_remn rfl rfl rfl (by (first | omega | (simp only [mm]; omega))) ?_| refine o_shln rfl rfl rfl (by (first | omega | (simp only [mm]; omega))) (by decide) (by (first | omega | (simp only [mm]; omega))) ?_| refine o_orn rfl rfl rfl (by (first | omega | (simp only [mm]; omega))) (by (first | omega | (simp only [mm]; omega))) (by decide) ?_| refine o_addkn rfl rfl rfl (by decide) (by (first | omega | (simp only [mm]; omega))) ?_| refine o_cat rfl rfl rfl (by (first | omega | (simp only [mm]; omega))) ?_| refine o_add rfl rfl rfl (by omega) (by omega) ?_| refine op_nil ?_| refine o_bin rfl rfl rfl rfl ?_) | (first| refine wp_seq ?_| refine wp_ops ?_| refine wp_keep ?_| refine keepN (by (simp +decide only [Slots.keep, Slots.get, reduceIte]); exact rfl) ?_| refine wp_block ?_| refine wp_skip ?_| refine wp_ret ?_| refine wp_exit ?_| refine bx_ret ?_| refine bx_here ?_| refine bx_exit rfl ?_))
 simp only [List.length_append, List.length_cons, List.length_nil, List.append_assoc, List.cons_append, List.nil_append, Nat.zero_add, Nat.add_assoc, Nat.reduceAdd]
 refine wp_loop (m := b + 1 - a) (fun k st => ∃ i : Nat, i + k = b + 1 - a ∧ st = ⟨[(1, u8 b), (4, .ptr rf.length 0), (5, .ptr (rf.length + 1) 0), (6, i64 (a + i : Nat))], rf ++ [z4, clsC (spanN a i)], [], none, rf.length⟩) ⟨0, by omega, by rw [clsC_zero]; rfl⟩ ?_
 rintro k st ⟨i, hik, rfl⟩ -
 repeat (first | (first| refine o_movd rfl rfl ?_| refine o_movp rfl rfl ?_| refine o_mova rfl rfl ?_| refine o_mov rfl rfl ?_| refine o_toInt rfl rfl (by (first | omega | (simp only [mm]; omega))) (by (first | omega | (simp only [mm]; omega))) ?_| refine o_asgd rfl rfl ?_| refine o_asgo rfl rfl ?_| refine o_leqn rfl rfl rfl ?_| refine o_quon rfl rfl rfl (by (first | omega | (simp only [mm]; omega))) (by decide) (by (first | omega | (simp only [mm]; omega))) ?_| refine o_remn rfl rfl rfl (by (first | omega | (simp only [mm]; omega))) ?_| refine o_shln rfl rfl rfl (by (first | omega | (simp only [mm]; omega))) (by decide) (by (first | omega | (simp only [mm]; omega))) ?_| refine o_orn rfl rfl rfl (by (first | omega | (simp only [mm]; omega))) (by (first | omega | (simp only [mm]; omega))) (by decide) ?_| refine o_addkn rfl rfl rfl (by decide) (by (first | omega | (simp only [mm]; omega))) ?_| refine o_cat rfl rfl rfl (by (first | omega | (simp only [mm]; omega))) ?_| refine o_add rfl rfl rfl (by omega) (by omega) ?_| refine op_nil ?_| refine o_bin rfl rfl rfl rfl ?_) | (first| refine wp_seq ?_| refine wp_ops ?_| refine wp_keep ?_| refine keepN (by (simp +decide only [Slots.keep, Slots.get, reduceIte]); exact rfl) ?_| refine wp_block ?_| refine wp_skip ?_| refine wp_ret ?_| refine wp_exit ?_| refine bx_ret ?_| refine bx_here ?_| refine bx_exit rfl ?_))
 refine wp_if rfl ?_ ?_ <;> intro hi
 ·have hc : a + i < 256 := by omega
  have h1 := wd_lt (spanN a i) ((a + i) / 64)
  have h2 : 1 * 2 ^ ((a + i) % 64) ≤ 2 ^ 63 := by rw [Nat.one_mul]; exact Nat.pow_le_pow_right (by omega) (by omega)
  repeat (first | (first| refine o_movd rfl rfl ?_| refine o_movp rfl rfl ?_| refine o_mova rfl rfl ?_| refine o_mov rfl rfl ?_| refine o_toInt rfl rfl (by (first | omega | (simp only [mm]; omega))) (by (first | omega | (simp only [mm]; omega))) ?_| refine o_asgd rfl rfl ?_| refine o_asgo rfl rfl ?_| refine o_leqn rfl rfl rfl ?_| refine o_quon rfl rfl rfl (by (first | omega | (simp only [mm]; omega))) (by decide) (by (first | omega | (simp only [mm]; omega))) ?_| refine o_remn rfl rfl rfl (by (first | omega | (simp only [mm]; omega))) ?_| refine o_shln rfl rfl rfl (by (first | omega | (simp only [mm]; omega))) (by decide) (by (first | omega | (simp only [mm]; omega))) ?_| refine o_orn rfl rfl rfl (by (first | omega | (simp only [mm]; omega))) (by (first | omega | (simp only [mm]; omega))) (by decide) ?_| refine o_addkn rfl rfl rfl (by decide) (by (first | omega | (simp only [mm]; omega))) ?_| refine o_cat rfl rfl rfl (by (first | omega | (simp only [mm]; omega))) ?_| refine o_add rfl rfl rfl (by omega) (by omega) ?_| refine op_nil ?_| refine o_bin rfl rfl rfl rfl ?_) | (first| refine wp_seq ?_| refine wp_ops ?_| refine wp_keep ?_| refine keepN (by (simp +decide only [Slots.keep, Slots.get, reduceIte]); exact rfl) ?_| refine wp_block ?_| refine wp_skip ?_| refine wp_ret ?_| refine wp_exit ?_| refine bx_ret ?_| refine bx_here ?_| refine bx_exit rfl ?_))
  refine o_idxA (j := (a + i) / 64) rfl rfl rfl rfl (by omega) ?_
  rw [show 0 + (a + i) / 64 * 1 = (a + i) / 64 by omega]
  refine o_load rfl rfl (rfget1 _ _ _ _) (clsC_get (by omega)) ?_
  refine o_movd rfl rfl ?_
  refine o_remn rfl rfl rfl (by omega) ?_
  refine o_shln (a := 1) rfl rfl rfl (by show _ ≤ 64; omega) (by decide) (by rw [mU]; omega) ?_
  refine o_orn rfl rfl rfl (by rw [mU]; omega) (by rw [mU]; omega) (by decide) ?_
  refine o_idxA (j := (a + i) / 64) rfl rfl rfl rfl (by omega) ?_
  rw [show 0 + (a + i) / 64 * 1 = (a + i) / 64 by omega]
  refine o_store1 rfl rfl rfl (rfget1 _ _ _ _) (by show _ < 4; omega) (clsC_set _ _ hc) (rfset1 _ _ _ _ _) ?_
  repeat (first | (first| refine o_movd rfl rfl ?_| refine o_movp rfl rfl ?_| refine o_mova rfl rfl ?_| refine o_mov rfl rfl ?_| refine o_toInt rfl rfl (by (first | omega | (simp only [mm]; omega))) (by (first | omega | (simp only [mm]; omega))) ?_| refine o_asgd rfl rfl ?_| refine o_asgo rfl rfl ?_| refine o_leqn rfl rfl rfl ?_| refine o_quon rfl rfl rfl (by (first | omega | (simp only [mm]; omega))) (by decide) (by (first | omega | (simp only [mm]; omega))) ?_| refine o_remn rfl rfl rfl (by (first | omega | (simp only [mm]; omega))) ?_| refine o_shln rfl rfl rfl (by (first | omega | (simp only [mm]; omega))) (by decide) (by (first | omega | (simp only [mm]; omega))) ?_| refine o_orn rfl rfl rfl (by (first | omega | (simp only [mm]; omega))) (by (first | omega | (simp only [mm]; omega))) (by decide) ?_| refine o_addkn rfl rfl rfl (by decide) (by (first | omega | (simp only [mm]; omega))) ?_| refine o_cat rfl rfl rfl (by (first | omega | (simp only [mm]; omega))) ?_| refine o_add rfl rfl rfl (by omega) (by omega) ?_| refine op_nil ?_| refine o_bin rfl rfl rfl rfl ?_) | (first| refine wp_seq ?_| refine wp_ops ?_| refine wp_keep ?_| refine keepN (by (simp +decide only [Slots.keep, Slots.get, reduceIte]); exact rfl) ?_| refine wp_block ?_| refine wp_skip ?_| refine wp_ret ?_| refine wp_exit ?_| refine bx_ret ?_| refine bx_here ?_| refine bx_exit rfl ?_))
  refine ⟨by simp, k - 1, by omega, i + 1, by omega, rfl⟩
 ·have : i = b + 1 - a := by omega
  subst this
  repeat (first | (first| refine o_movd rfl rfl ?_| refine o_movp rfl rfl ?_| refine o_mova rfl rfl ?_| refine o_mov rfl rfl ?_| refine o_toInt rfl rfl (by (first | omega | (simp only [mm]; omega))) (by (first | omega | (simp only [mm]; omega))) ?_| refine o_asgd rfl rfl ?_| refine o_asgo rfl rfl ?_| refine o_leqn rfl rfl rfl ?_| refine o_quon rfl rfl rfl (by (first | omega | (simp only [mm]; omega))) (by decide) (by (first | omega | (simp only [mm]; omega))) ?_| refine o_remn rfl rfl rfl (by (first | omega | (simp only [mm]; omega))) ?_| refine o_shln rfl rfl rfl (by (first | omega | (simp only [mm]; omega))) (by decide) (by (first | omega | (simp only [mm]; omega))) ?_| refine o_orn rfl rfl rfl (by (first | omega | (simp only [mm]; omega))) (by (first | omega | (simp only [mm]; omega))) (by decide) ?_| refine o_addkn rfl rfl rfl (by decide) (by (first | omega | (simp only [mm]; omega))) ?_| refine o_cat rfl rfl rfl (by (first | omega | (simp only [mm]; omega))) ?_| refine o_add rfl rfl rfl (by omega) (by omega) ?_| refine op_nil ?_| refine o_bin rfl rfl rfl rfl ?_) | (first| refine wp_seq ?_| refine wp_ops ?_| refine wp_keep ?_| refine keepN (by (simp +decide only [Slots.keep, Slots.get, reduceIte]); exact rfl) ?_| refine wp_block ?_| refine wp_skip ?_| refine wp_ret ?_| refine wp_exit ?_| refine bx_ret ?_| refine bx_here ?_| refine bx_exit rfl ?_))
  refine o_lcls rfl rfl (rfget1 _ _ _ _) ?_
  refine o_scls rfl rfl rfl (rfget0 _ _ _) rfl (rfset0 _ _ _ _) ?_
  repeat (first | (first| refine o_movd rfl rfl ?_| refine o_movp rfl rfl ?_| refine o_mova rfl rfl ?_| refine o_mov rfl rfl ?_| refine o_toInt rfl rfl (by (first | omega | (simp only [mm]; omega))) (by (first | omega | (simp only [mm]; omega))) ?_| refine o_asgd rfl rfl ?_| refine o_asgo rfl rfl ?_| refine o_leqn rfl rfl rfl ?_| refine o_quon rfl rfl rfl (by (first | omega | (simp only [mm]; omega))) (by decide) (by (first | omega | (simp only [mm]; omega))) ?_| refine o_remn rfl rfl rfl (by (first | omega | (simp only [mm]; omega))) ?_| refine o_shln rfl rfl rfl (by (first | omega | (simp only [mm]; omega))) (by decide) (by (first | omega | (simp only [mm]; omega))) ?_| refine o_orn rfl rfl rfl (by (first | omega | (simp only [mm]; omega))) (by (first | omega | (simp only [mm]; omega))) (by decide) ?_| refine o_addkn rfl rfl rfl (by decide) (by (first | omega | (simp only [mm]; omega))) ?_| refine o_cat rfl rfl rfl (by (first | omega | (simp only [mm]; omega))) ?_| refine o_add rfl rfl rfl (by omega) (by omega) ?_| refine op_nil ?_| refine o_bin rfl rfl rfl rfl ?_) | (first| refine wp_seq ?_| refine wp_ops ?_| refine wp_keep ?_| refine keepN (by (simp +decide only [Slots.keep, Slots.get, reduceIte]); exact rfl) ?_| refine wp_block ?_| refine wp_skip ?_| refine wp_ret ?_| refine wp_exit ?_| refine bx_ret ?_| refine bx_here ?_| refine bx_exit rfl ?_))
  refine end_cls rfl rfl rfl (rfget0 _ _ _) (by simp)
theorem One_ev (a : Nat) (ha : a < 256) (rf : Refs) : Ev T f_class_One [u8 a] rf (.ret (cls (spanN a 1))) rf := by
 have hs := fun rf => Span_ev (T := T) a a ha ha rf
 rw [show a + 1 - a = 1 by omega] at hs
 refine ev_callB rfl rfl ?_
 repeat (first | (first| refine o_movd rfl rfl ?_| refine o_movp rfl rfl ?_| refine o_mova rfl rfl ?_| refine o_mov rfl rfl ?_| refine op_nil ?_) | (first| refine wp_seq ?_| refine wp_ops ?_| refine wp_keep ?_| refine keepN (by (simp +decide only [Slots.keep, Slots.get, reduceIte]); exact rfl) ?_| refine wp_block ?_| refine wp_skip ?_| refine wp_ret ?_| refine wp_exit ?_| refine bx_ret ?_| refine bx_here ?_| refine bx_exit rfl ?_))
 refine o_alloc rfl ?_
 repeat (first | (first| refine o_movd rfl rfl ?_| refine o_movp rfl rfl ?_| refine o_mova rfl rfl ?_| refine o_mov rfl rfl ?_| refine op_nil ?_) | (first| refine wp_seq ?_| refine wp_ops ?_| refine wp_keep ?_| refine keepN (by (simp +decide only [Slots.keep, Slots.get, reduceIte]); exact rfl) ?_| refine wp_block ?_| refine wp_skip ?_| refine wp_ret ?_| refine wp_exit ?_| refine bx_ret ?_| refine bx_here ?_| refine bx_exit rfl ?_))
 refine o_call rfl rfl rfl (hs _) ?_
 refine o_scls rfl rfl rfl (rfget0 _ _ _) rfl (rfset0 _ _ _ _) ?_
 repeat (first | (first| refine o_movd rfl rfl ?_| refine o_movp rfl rfl ?_| refine o_mova rfl rfl ?_| refine o_mov rfl rfl ?_| refine op_nil ?_) | (first| refine wp_seq ?_| refine wp_ops ?_| refine wp_keep ?_| refine keepN (by (simp +decide only [Slots.keep, Slots.get, reduceIte]); exact rfl) ?_| refine wp_block ?_| refine wp_skip ?_| refine wp_ret ?_| refine wp_exit ?_| refine bx_ret ?_| refine bx_here ?_| refine bx_exit rfl ?_))
 refine end_cls rfl rfl rfl (rfget0 _ _ _) (by simp)
theorem OnesCount64_ev (w : Nat) (hw : w < 2 ^ 64) (rf : Refs) : Ev T f_bits_OnesCount64 [.nat .u64 w] rf (.ret (i64 (pop 64 w))) rf := by
 obtain ⟨e1, e2, e3⟩ := sh_eq w hw
 unfold sh f123 f12 f1 f2 f3 at e1
 unfold f123 f12 f1 f2 f3 at e3
 rw [masks.1, masks.2.1, masks.2.2] at e1 e3
 have b1 : w / 2 ^ 1 &&& 6148914691236517205 ≤ 6148914691236517205 := Nat.and_le_right
 have b2 : w &&& 6148914691236517205 ≤ 6148914691236517205 := Nat.and_le_right
 obtain ⟨x, hx⟩ : ∃ x, x = (w / 2 ^ 1 &&& 6148914691236517205) + (w &&& 6148914691236517205) := ⟨_, rfl⟩
 have b3 : x / 2 ^ 2 &&& 3689348814741910323 ≤ 3689348814741910323 := Nat.and_le_right
 have b4 : x &&& 3689348814741910323 ≤ 3689348814741910323 := Nat.and_le_right
 obtain ⟨y, hy⟩ : ∃ y, y = (x / 2 ^ 2 &&& 3689348814741910323) + (x &&& 3689348814741910323) := ⟨_, rfl⟩
 have b5 : y / 2 ^ 4 + y &&& 1085102592571150095 ≤ 1085102592571150095 := Nat.and_le_right
 obtain ⟨z, hz⟩ : ∃ z, z = (y / 2 ^ 4 + y &&& 1085102592571150095) := ⟨_, rfl⟩
 have e1' : (z + z / 2 ^ 8 + (z + z / 2 ^ 8) / 2 ^ 16 + (z + z / 2 ^ 8 + (z + z / 2 ^ 8) / 2 ^ 16) / 2 ^ 32) &&& 127 = pop 64 w := by rw [← e1, hz, hy, hx]
 have e3' : z ≤ 2 ^ 60 := by rw [hz, hy, hx]; exact e3
 clear e1 e3
 refine ev_callB rfl rfl ?_
 repeat (first | refine wp_seq ?_ | refine wp_ops ?_ | refine o_asgd rfl rfl ?_ | refine o_movd rfl rfl ?_ | refine op_nil ?_)
 refine o_shrn (b := 1) rfl rfl rfl (by decide) ?_
 refine o_andn (b := 6148914691236517205) rfl rfl rfl (by rw [mU]; omega) (by decide) (by decide) ?_
 refine o_movd rfl rfl ?_
 refine o_andn (b := 6148914691236517205) rfl rfl rfl (by rw [mU]; omega) (by decide) (by decide) ?_
 refine o_addkn rfl rfl rfl (by decide) (by rw [mU]; omega) ?_
 rw [← hx]
 repeat (first | refine wp_seq ?_ | refine wp_ops ?_ | refine o_asgd rfl rfl ?_ | refine o_movd rfl rfl ?_ | refine op_nil ?_)
 refine o_shrn (b := 2) rfl rfl rfl (by decide) ?_
 refine o_andn (b := 3689348814741910323) rfl rfl rfl (by rw [mU]; omega) (by decide) (by decide) ?_
 refine o_movd rfl rfl ?_
 refine o_andn (b := 3689348814741910323) rfl rfl rfl (by rw [mU]; omega) (by decide) (by decide) ?_
 refine o_addkn rfl rfl rfl (by decide) (by rw [mU]; omega) ?_
 rw [← hy]
 repeat (first | refine wp_seq ?_ | refine wp_ops ?_ | refine o_asgd rfl rfl ?_ | refine o_movd rfl rfl ?_ | refine op_nil ?_)
 refine o_shrn (b := 4) rfl rfl rfl (by decide) ?_
 refine o_movd rfl rfl ?_
 refine o_addkn rfl rfl rfl (by decide) (by rw [mU]; omega) ?_
 refine o_andn (b := 1085102592571150095) rfl rfl rfl (by rw [mU]; omega) (by decide) (by decide) ?_
 rw [← hz]
 clear hx hy hz b1 b2 b3 b4 b5
 repeat (first | refine wp_seq ?_ | refine wp_ops ?_ | refine o_asgd rfl rfl ?_ | refine o_movd rfl rfl ?_ | refine op_nil ?_)
 refine o_shrn (b := 8) rfl rfl rfl (by decide) ?_
 refine o_addkn rfl rfl rfl (by decide) (by rw [mU]; omega) ?_
 repeat (first | refine wp_seq ?_ | refine wp_ops ?_ | refine o_asgd rfl rfl ?_ | refine o_movd rfl rfl ?_ | refine op_nil ?_)
 refine o_shrn (b := 16) rfl rfl rfl (by decide) ?_
 refine o_addkn rfl rfl rfl (by decide) (by rw [mU]; omega) ?_
 repeat (first | refine wp_seq ?_ | refine wp_ops ?_ | refine o_asgd rfl rfl ?_ | refine o_movd rfl rfl ?_ | refine op_nil ?_)
 refine o_shrn (b := 32) rfl rfl rfl (by decide) ?_
 refine o_addkn rfl rfl rfl (by decide) (by rw [mU]; omega) ?_
 repeat (first | refine wp_seq ?_ | refine wp_ops ?_ | refine o_asgd rfl rfl ?_ | refine o_movd rfl rfl ?_ | refine op_nil ?_)
 refine o_toInt rfl rfl (by simp only [n64]; omega) (by simp only [m64]; omega) ?_
 refine o_andn (b := 127) rfl rfl rfl (by simp only [m64]; omega) (by decide) (by decide) ?_
 rw [e1']
 repeat (first | (first| refine o_movd rfl rfl ?_| refine o_movp rfl rfl ?_| refine o_mova rfl rfl ?_| refine o_mov rfl rfl ?_| refine o_asgd rfl rfl ?_| refine o_asgo rfl rfl ?_| refine o_shrn rfl rfl rfl (by (first | omega | (simp only [mm]; omega))) ?_| refine o_andn rfl rfl rfl (by (first | omega | (simp only [mm]; omega))) (by (first | omega | (simp only [mm]; omega))) (by decide) ?_| refine o_addkn rfl rfl rfl (by decide) (by (first | omega | (simp only [mm]; omega))) ?_| refine o_cat rfl rfl rfl (by (first | omega | (simp only [mm]; omega))) ?_| refine o_add rfl rfl rfl (by omega) (by omega) ?_| refine o_toInt rfl rfl (by (first | omega | (simp only [mm]; omega))) (by (first | omega | (simp only [mm]; omega))) ?_| refine op_nil ?_| refine o_bin rfl rfl rfl rfl ?_) | (first| refine wp_seq ?_| refine wp_ops ?_| refine wp_keep ?_| refine keepN (by (simp +decide only [Slots.keep, Slots.get, reduceIte]); exact rfl) ?_| refine wp_block ?_| refine wp_skip ?_| refine wp_ret ?_| refine wp_exit ?_| refine bx_ret ?_| refine bx_here ?_| refine bx_exit rfl ?_))
 refine end1 rfl rfl rfl ?_ (by first | rfl | simp)
 rfl
def popW (n : Nat) : Nat → Nat
 | 0 => 0
 | i + 1 => popW n i + pop 64 (wd n i)
theorem popW_4 (n : Nat) : popW n 4 = pop 256 n := by
 have h : ∀ i, pop 64 (wd n i) = pop 64 (n / 2 ^ (64 * i)) := fun i => by unfold wd; rw [pop_mod]
 rw [show (256 : Nat) = 64 + 192 by rfl, pop_add, show (192 : Nat) = 64 + 128 by rfl, pop_add, show (128 : Nat) = 64 + 64 by rfl, pop_add, Nat.div_div_eq_div_mul, Nat.div_div_eq_div_mul, ← Nat.pow_add, ← Nat.pow_add]
 simp only [popW, h, Nat.reduceMul, Nat.reduceAdd, Nat.pow_zero, Nat.div_one]
 omega
theorem popW_le (n i : Nat) : popW n i ≤ 64 * i := by
 induction i with
 | zero => simp [popW]
 | succ i ih =>
   have := (sh_eq (wd n i) (wd_lt n i)).2.1
   simp only [popW]; omega
theorem clsC_part {n i : Nat} (h : i < 4) : partA none (clsC n) (i * 1) = some (.d (.int .u64 (wd n i : Nat))) := by
 rcases i with _ | _ | _ | _ | i <;> first | rfl | omega
theorem Count_ev (n : Nat) (rf : Refs) : Ev T f_class_Count [cls n] rf (.ret (i64 (pop 256 n))) rf := by
 refine ev_callB rfl rfl ?_
 repeat (first | (first| refine o_asgd rfl rfl ?_| refine o_asgo rfl rfl ?_| refine o_movd rfl rfl ?_| refine o_movp rfl rfl ?_| refine o_mova rfl rfl ?_| refine o_mov rfl rfl ?_| refine o_addkn rfl rfl rfl (by decide) (by (first | omega | (simp only [mm]; omega))) ?_| refine o_cat rfl rfl rfl (by (first | omega | (simp only [mm]; omega))) ?_| refine o_add rfl rfl rfl (by omega) (by omega) ?_| refine o_lssn rfl rfl rfl ?_| refine op_nil ?_| refine o_bin rfl rfl rfl rfl ?_) | (first| refine wp_seq ?_| refine wp_ops ?_| refine wp_keep ?_| refine keepN (by (simp +decide only [Slots.keep, Slots.get, reduceIte]); exact rfl) ?_| refine wp_block ?_| refine wp_skip ?_| refine wp_ret ?_| refine wp_exit ?_| refine bx_ret ?_| refine bx_here ?_| refine bx_exit rfl ?_))
 refine o_box rfl rfl rfl rfl ?_
 repeat (first | (first| refine o_asgd rfl rfl ?_| refine o_asgo rfl rfl ?_| refine o_movd rfl rfl ?_| refine o_movp rfl rfl ?_| refine o_mova rfl rfl ?_| refine o_mov rfl rfl ?_| refine o_addkn rfl rfl rfl (by decide) (by (first | omega | (simp only [mm]; omega))) ?_| refine o_cat rfl rfl rfl (by (first | omega | (simp only [mm]; omega))) ?_| refine o_add rfl rfl rfl (by omega) (by omega) ?_| refine o_lssn rfl rfl rfl ?_| refine op_nil ?_| refine o_bin rfl rfl rfl rfl ?_) | (first| refine wp_seq ?_| refine wp_ops ?_| refine wp_keep ?_| refine keepN (by (simp +decide only [Slots.keep, Slots.get, reduceIte]); exact rfl) ?_| refine wp_block ?_| refine wp_skip ?_| refine wp_ret ?_| refine wp_exit ?_| refine bx_ret ?_| refine bx_here ?_| refine bx_exit rfl ?_))
 refine o_lcls rfl rfl (rfget0 _ _ _) ?_
 repeat (first | (first| refine o_asgd rfl rfl ?_| refine o_asgo rfl rfl ?_| refine o_movd rfl rfl ?_| refine o_movp rfl rfl ?_| refine o_mova rfl rfl ?_| refine o_mov rfl rfl ?_| refine o_addkn rfl rfl rfl (by decide) (by (first | omega | (simp only [mm]; omega))) ?_| refine o_cat rfl rfl rfl (by (first | omega | (simp only [mm]; omega))) ?_| refine o_add rfl rfl rfl (by omega) (by omega) ?_| refine o_lssn rfl rfl rfl ?_| refine op_nil ?_| refine o_bin rfl rfl rfl rfl ?_) | (first| refine wp_seq ?_| refine wp_ops ?_| refine wp_keep ?_| refine keepN (by (simp +decide only [Slots.keep, Slots.get, reduceIte]); exact rfl) ?_| refine wp_block ?_| refine wp_skip ?_| refine wp_ret ?_| refine wp_exit ?_| refine bx_ret ?_| refine bx_here ?_| refine bx_exit rfl ?_))
 refine wp_loop (m := 4) (fun k st => ∃ i : Nat, i + k = 4 ∧ st = ⟨[(3, i64 (popW n i : Nat)), (6, cls n), (7, i64 i)], rf ++ [clsC n], [], none, rf.length⟩) ⟨0, by omega, rfl⟩ ?_
 rintro k st ⟨i, hik, rfl⟩ -
 repeat (first | (first| refine o_asgd rfl rfl ?_| refine o_asgo rfl rfl ?_| refine o_movd rfl rfl ?_| refine o_movp rfl rfl ?_| refine o_mova rfl rfl ?_| refine o_mov rfl rfl ?_| refine o_addkn rfl rfl rfl (by decide) (by (first | omega | (simp only [mm]; omega))) ?_| refine o_cat rfl rfl rfl (by (first | omega | (simp only [mm]; omega))) ?_| refine o_add rfl rfl rfl (by omega) (by omega) ?_| refine o_lssn rfl rfl rfl ?_| refine op_nil ?_| refine o_bin rfl rfl rfl rfl ?_) | (first| refine wp_seq ?_| refine wp_ops ?_| refine wp_keep ?_| refine keepN (by (simp +decide only [Slots.keep, Slots.get, reduceIte]); exact rfl) ?_| refine wp_block ?_| refine wp_skip ?_| refine wp_ret ?_| refine wp_exit ?_| refine bx_ret ?_| refine bx_here ?_| refine bx_exit rfl ?_))
 refine wp_if rfl ?_ ?_ <;> intro hi
 ·have h1 := wd_lt n i
  have h2 := popW_le n (i + 1)
  have h3 : popW n (i + 1) = popW n i + pop 64 (wd n i) := rfl
  repeat (first | (first| refine o_asgd rfl rfl ?_| refine o_asgo rfl rfl ?_| refine o_movd rfl rfl ?_| refine o_movp rfl rfl ?_| refine o_mova rfl rfl ?_| refine o_mov rfl rfl ?_| refine o_addkn rfl rfl rfl (by decide) (by (first | omega | (simp only [mm]; omega))) ?_| refine o_cat rfl rfl rfl (by (first | omega | (simp only [mm]; omega))) ?_| refine o_add rfl rfl rfl (by omega) (by omega) ?_| refine o_lssn rfl rfl rfl ?_| refine op_nil ?_| refine o_bin rfl rfl rfl rfl ?_) | (first| refine wp_seq ?_| refine wp_ops ?_| refine wp_keep ?_| refine keepN (by (simp +decide only [Slots.keep, Slots.get, reduceIte]); exact rfl) ?_| refine wp_block ?_| refine wp_skip ?_| refine wp_ret ?_| refine wp_exit ?_| refine bx_ret ?_| refine bx_here ?_| refine bx_exit rfl ?_))
  refine o_idxV (j := i) rfl rfl rfl rfl (by omega) (clsC_part (by omega)) ?_
  repeat (first | (first| refine o_asgd rfl rfl ?_| refine o_asgo rfl rfl ?_| refine o_movd rfl rfl ?_| refine o_movp rfl rfl ?_| refine o_mova rfl rfl ?_| refine o_mov rfl rfl ?_| refine o_addkn rfl rfl rfl (by decide) (by (first | omega | (simp only [mm]; omega))) ?_| refine o_cat rfl rfl rfl (by (first | omega | (simp only [mm]; omega))) ?_| refine o_add rfl rfl rfl (by omega) (by omega) ?_| refine o_lssn rfl rfl rfl ?_| refine op_nil ?_| refine o_bin rfl rfl rfl rfl ?_) | (first| refine wp_seq ?_| refine wp_ops ?_| refine wp_keep ?_| refine keepN (by (simp +decide only [Slots.keep, Slots.get, reduceIte]); exact rfl) ?_| refine wp_block ?_| refine wp_skip ?_| refine wp_ret ?_| refine wp_exit ?_| refine bx_ret ?_| refine bx_here ?_| refine bx_exit rfl ?_))
  refine o_call rfl rfl rfl (OnesCount64_ev _ h1 _) ?_
  refine o_addkn rfl rfl rfl (by decide) (by simp only [m64]; omega) ?_
  rw [← h3]
  repeat (first | (first| refine o_asgd rfl rfl ?_| refine o_asgo rfl rfl ?_| refine o_movd rfl rfl ?_| refine o_movp rfl rfl ?_| refine o_mova rfl rfl ?_| refine o_mov rfl rfl ?_| refine o_addkn rfl rfl rfl (by decide) (by (first | omega | (simp only [mm]; omega))) ?_| refine o_cat rfl rfl rfl (by (first | omega | (simp only [mm]; omega))) ?_| refine o_add rfl rfl rfl (by omega) (by omega) ?_| refine o_lssn rfl rfl rfl ?_| refine op_nil ?_| refine o_bin rfl rfl rfl rfl ?_) | (first| refine wp_seq ?_| refine wp_ops ?_| refine wp_keep ?_| refine keepN (by (simp +decide only [Slots.keep, Slots.get, reduceIte]); exact rfl) ?_| refine wp_block ?_| refine wp_skip ?_| refine wp_ret ?_| refine wp_exit ?_| refine bx_ret ?_| refine bx_here ?_| refine bx_exit rfl ?_))
  refine ⟨by simp, k - 1, by omega, i + 1, by omega, rfl⟩
 ·have : i = 4 := by omega
  subst this
  rw [popW_4]
  repeat (first | (first| refine o_asgd rfl rfl ?_| refine o_asgo rfl rfl ?_| refine o_movd rfl rfl ?_| refine o_movp rfl rfl ?_| refine o_mova rfl rfl ?_| refine o_mov rfl rfl ?_| refine o_addkn rfl rfl rfl (by decide) (by (first | omega | (simp only [mm]; omega))) ?_| refine o_cat rfl rfl rfl (by (first | omega | (simp only [mm]; omega))) ?_| refine o_add rfl rfl rfl (by omega) (by omega) ?_| refine o_lssn rfl rfl rfl ?_| refine op_nil ?_| refine o_bin rfl rfl rfl rfl ?_) | (first| refine wp_seq ?_| refine wp_ops ?_| refine wp_keep ?_| refine keepN (by (simp +decide only [Slots.keep, Slots.get, reduceIte]); exact rfl) ?_| refine wp_block ?_| refine wp_skip ?_| refine wp_ret ?_| refine wp_exit ?_| refine bx_ret ?_| refine bx_here ?_| refine bx_exit rfl ?_))
  refine end1 rfl rfl rfl ?_ (by first | rfl | simp)
  rfl
end Go.Ab.R05
namespace Go.Ab.R05
set_option maxRecDepth 100000
set_option linter.all false
set_option maxHeartbeats 4000000
variable {T : Tb} [hT : Base T]
theorem add_bit (w j : Nat) (h : w / 2 ^ j % 2 = 0) : w + 2 ^ j = w ||| 2 ^ j := by
 have hl : w % 2 ^ (j + 1) = w % 2 ^ j := by rw [Nat.mod_pow_succ, h]; omega
 have hlt : w % 2 ^ j < 2 ^ j := Nat.mod_lt _ (Nat.two_pow_pos j)
 have hw : w = 2 ^ (j + 1) * (w / 2 ^ (j + 1)) + w % 2 ^ j := by rw [← hl]; exact (Nat.div_add_mod w (2 ^ (j + 1))).symm
 have hp : 2 ^ (j + 1) = 2 ^ j * 2 := Nat.pow_succ 2 j
 generalize w / 2 ^ (j + 1) = q at hw
 generalize w % 2 ^ j = l at *
 have e1 : 2 ^ (j + 1) * q + l = 2 ^ (j + 1) * q ||| l := Nat.two_pow_add_eq_or_of_lt (by omega) q
 have e2 : 2 ^ j * 1 + l = 2 ^ j * 1 ||| l := Nat.two_pow_add_eq_or_of_lt hlt 1
 have e3 : 2 ^ (j + 1) * q + (2 ^ j * 1 + l) = 2 ^ (j + 1) * q ||| (2 ^ j * 1 + l) := Nat.two_pow_add_eq_or_of_lt (by omega) q
 rw [Nat.mul_one] at e2 e3
 rw [hw, e1, Nat.or_assoc, Nat.or_comm l, ← e2, ← e3, ← e1]
 omega
theorem rHas_ev (n c : Nat) (hc : c < 256) (rf : Refs) : Ev T f_ref04_Has [cls n, u8 c] rf (.ret (bl (n.testBit c))) rf := by
 have hb : n.testBit c = decide (wd n (c / 64) / (1 * 2 ^ (c % 64)) % 2 = 1) := by
  rw [Nat.one_mul, wd_bit]; cases n.testBit c <;> rfl
 have hw : wd n (c / 64) < 2 ^ 64 := Nat.mod_lt _ (by omega)
 have h2 : 1 * 2 ^ (c % 64) ≤ 2 ^ 63 := by rw [Nat.one_mul]; exact Nat.pow_le_pow_right (by omega) (by omega)
 have h3 : 1 * 2 ^ (c % 64) ≠ 0 := by have := Nat.two_pow_pos (c % 64); omega
 rw [hb]
 refine ev_callB rfl rfl ?_
 repeat (first | (first| refine o_asgd rfl rfl ?_| refine o_asgo rfl rfl ?_| refine o_movd rfl rfl ?_| refine o_movp rfl rfl ?_| refine o_mova rfl rfl ?_| refine o_mov rfl rfl ?_| refine o_quon rfl rfl rfl (by (first | omega | (simp only [mm]; omega))) (by decide) (by (first | omega | (simp only [mm]; omega))) ?_| refine o_remn rfl rfl rfl (by (first | omega | (simp only [mm]; omega))) ?_| refine o_toInt rfl rfl (by (first | omega | (simp only [mm]; omega))) (by (first | omega | (simp only [mm]; omega))) ?_| refine o_shln rfl rfl rfl (by (first | omega | (simp only [mm]; omega))) (by decide) (by (first | omega | (simp only [mm]; omega))) ?_| refine o_eqln rfl rfl rfl ?_| refine o_eqs rfl rfl rfl ?_| refine op_nil ?_| refine o_bin rfl rfl rfl rfl ?_) | (first| refine wp_seq ?_| refine wp_ops ?_| refine wp_keep ?_| refine keepN (by (simp +decide only [Slots.keep, Slots.get, reduceIte]); exact rfl) ?_| refine wp_block ?_| refine wp_skip ?_| refine wp_ret ?_| refine wp_exit ?_| refine bx_ret ?_| refine bx_here ?_| refine bx_exit rfl ?_))
 refine o_box rfl rfl rfl rfl ?_
 repeat (first | (first| refine o_asgd rfl rfl ?_| refine o_asgo rfl rfl ?_| refine o_movd rfl rfl ?_| refine o_movp rfl rfl ?_| refine o_mova rfl rfl ?_| refine o_mov rfl rfl ?_| refine o_quon rfl rfl rfl (by (first | omega | (simp only [mm]; omega))) (by decide) (by (first | omega | (simp only [mm]; omega))) ?_| refine o_remn rfl rfl rfl (by (first | omega | (simp only [mm]; omega))) ?_| refine o_toInt rfl rfl (by (first | omega | (simp only [mm]; omega))) (by (first | omega | (simp only [mm]; omega))) ?_| refine o_shln rfl rfl rfl (by (first | omega | (simp only [mm]; omega))) (by decide) (by (first | omega | (simp only [mm]; omega))) ?_| refine o_eqln rfl rfl rfl ?_| refine o_eqs rfl rfl rfl ?_| refine op_nil ?_| refine o_bin rfl rfl rfl rfl ?_) | (first| refine wp_seq ?_| refine wp_ops ?_| refine wp_keep ?_| refine keepN (by (simp +decide only [Slots.keep, Slots.get, reduceIte]); exact rfl) ?_| refine wp_block ?_| refine wp_skip ?_| refine wp_ret ?_| refine wp_exit ?_| refine bx_ret ?_| refine bx_here ?_| refine bx_exit rfl ?_))
 refine o_idxA (j := c / 64) rfl rfl rfl rfl (by omega) ?_
 rw [show 0 + c / 64 * 1 = c / 64 by omega]
 refine o_load rfl rfl (get_last _ _) (clsC_get (by omega)) ?_
 refine o_movd rfl rfl ?_
 refine o_remn rfl rfl rfl (by omega) ?_
 refine o_toInt rfl rfl (by simp only [nU]; omega) (by simp only [mU]; omega) ?_
 refine o_shln (a := 1) rfl rfl rfl (by show _ ≤ 64; omega) (by decide) (by rw [mU]; omega) ?_
 refine o_quon rfl rfl rfl (by rw [mU]; omega) (by decide) h3 ?_
 refine o_remn rfl rfl rfl (by omega) ?_
 refine o_eqln rfl rfl rfl ?_
 repeat (first | (first| refine o_asgd rfl rfl ?_| refine o_asgo rfl rfl ?_| refine o_movd rfl rfl ?_| refine o_movp rfl rfl ?_| refine o_mova rfl rfl ?_| refine o_mov rfl rfl ?_| refine o_quon rfl rfl rfl (by (first | omega | (simp only [mm]; omega))) (by decide) (by (first | omega | (simp only [mm]; omega))) ?_| refine o_remn rfl rfl rfl (by (first | omega | (simp only [mm]; omega))) ?_| refine o_toInt rfl rfl (by (first | omega | (simp only [mm]; omega))) (by (first | omega | (simp only [mm]; omega))) ?_| refine o_shln rfl rfl rfl (by (first | omega | (simp only [mm]; omega))) (by decide) (by (first | omega | (simp only [mm]; omega))) ?_| refine o_eqln rfl rfl rfl ?_| refine o_eqs rfl rfl rfl ?_| refine op_nil ?_| refine o_bin rfl rfl rfl rfl ?_) | (first| refine wp_seq ?_| refine wp_ops ?_| refine wp_keep ?_| refine keepN (by (simp +decide only [Slots.keep, Slots.get, reduceIte]); exact rfl) ?_| refine wp_block ?_| refine wp_skip ?_| refine wp_ret ?_| refine wp_exit ?_| refine bx_ret ?_| refine bx_here ?_| refine bx_exit rfl ?_))
 refine end1 rfl rfl rfl ?_ (by first | rfl | simp)
 rfl
theorem with_ev (n c : Nat) (hc : c < 256) (rf : Refs) : Ev T f_ref04_with [cls n, u8 c] rf (.ret (cls (n ||| 2 ^ c))) rf := by
 have hw : wd n (c / 64) < 2 ^ 64 := Nat.mod_lt _ (by omega)
 have h2 : 1 * 2 ^ (c % 64) ≤ 2 ^ 63 := by rw [Nat.one_mul]; exact Nat.pow_le_pow_right (by omega) (by omega)
 have hH := fun rf => rHas_ev (T := T) n c hc rf
 have hset := clsC_set n c hc
 have hbit := wd_bit n c
 cases hx : n.testBit c
 ·rw [hx] at hbit hH
  have hadd := add_bit (wd n (c / 64)) (c % 64) hbit
  rw [← Nat.one_mul (2 ^ (c % 64))] at hadd
  rw [← hadd] at hset
  have hlt : wd n (c / 64) + 1 * 2 ^ (c % 64) < 2 ^ 64 := by
   rw [hadd]; exact Nat.or_lt_two_pow hw (by omega)
  refine ev_callB rfl rfl ?_
  repeat (first | (first| refine o_movd rfl rfl ?_| refine o_movp rfl rfl ?_| refine o_mova rfl rfl ?_| refine o_mov rfl rfl ?_| refine o_quon rfl rfl rfl (by (first | omega | (simp only [mm]; omega))) (by decide) (by (first | omega | (simp only [mm]; omega))) ?_| refine o_asgd rfl rfl ?_| refine o_asgo rfl rfl ?_| refine o_not rfl rfl ?_| refine o_remn rfl rfl rfl (by (first | omega | (simp only [mm]; omega))) ?_| refine o_toInt rfl rfl (by (first | omega | (simp only [mm]; omega))) (by (first | omega | (simp only [mm]; omega))) ?_| refine o_shln rfl rfl rfl (by (first | omega | (simp only [mm]; omega))) (by decide) (by (first | omega | (simp only [mm]; omega))) ?_| refine o_addkn rfl rfl rfl (by decide) (by (first | omega | (simp only [mm]; omega))) ?_| refine o_cat rfl rfl rfl (by (first | omega | (simp only [mm]; omega))) ?_| refine o_add rfl rfl rfl (by omega) (by omega) ?_| refine op_nil ?_| refine o_bin rfl rfl rfl rfl ?_) | (first| refine wp_seq ?_| refine wp_ops ?_| refine wp_keep ?_| refine keepN (by (simp +decide only [Slots.keep, Slots.get, reduceIte]); exact rfl) ?_| refine wp_block ?_| refine wp_skip ?_| refine wp_ret ?_| refine wp_exit ?_| refine bx_ret ?_| refine bx_here ?_| refine bx_exit rfl ?_))
  refine o_box (cs := clsC n) rfl rfl rfl rfl ?_
  refine o_alloc rfl ?_
  repeat (first | (first| refine o_movd rfl rfl ?_| refine o_movp rfl rfl ?_| refine o_mova rfl rfl ?_| refine o_mov rfl rfl ?_| refine o_quon rfl rfl rfl (by (first | omega | (simp only [mm]; omega))) (by decide) (by (first | omega | (simp only [mm]; omega))) ?_| refine o_asgd rfl rfl ?_| refine o_asgo rfl rfl ?_| refine o_not rfl rfl ?_| refine o_remn rfl rfl rfl (by (first | omega | (simp only [mm]; omega))) ?_| refine o_toInt rfl rfl (by (first | omega | (simp only [mm]; omega))) (by (first | omega | (simp only [mm]; omega))) ?_| refine o_shln rfl rfl rfl (by (first | omega | (simp only [mm]; omega))) (by decide) (by (first | omega | (simp only [mm]; omega))) ?_| refine o_addkn rfl rfl rfl (by decide) (by (first | omega | (simp only [mm]; omega))) ?_| refine o_cat rfl rfl rfl (by (first | omega | (simp only [mm]; omega))) ?_| refine o_add rfl rfl rfl (by omega) (by omega) ?_| refine op_nil ?_| refine o_bin rfl rfl rfl rfl ?_) | (first| refine wp_seq ?_| refine wp_ops ?_| refine wp_keep ?_| refine keepN (by (simp +decide only [Slots.keep, Slots.get, reduceIte]); exact rfl) ?_| refine wp_block ?_| refine wp_skip ?_| refine wp_ret ?_| refine wp_exit ?_| refine bx_ret ?_| refine bx_here ?_| refine bx_exit rfl ?_))
  simp only [List.length_append, List.length_cons, List.length_nil, List.append_assoc, List.cons_append, List.nil_append, Nat.zero_add, Nat.add_assoc, Nat.reduceAdd]
  refine o_lcls (k := n) rfl rfl (rfget0 _ _ _) ?_
  refine o_movd rfl rfl ?_
  refine o_call rfl rfl rfl (hH _) ?_
  repeat (first | (first| refine o_movd rfl rfl ?_| refine o_movp rfl rfl ?_| refine o_mova rfl rfl ?_| refine o_mov rfl rfl ?_| refine o_quon rfl rfl rfl (by (first | omega | (simp only [mm]; omega))) (by decide) (by (first | omega | (simp only [mm]; omega))) ?_| refine o_asgd rfl rfl ?_| refine o_asgo rfl rfl ?_| refine o_not rfl rfl ?_| refine o_remn rfl rfl rfl (by (first | omega | (simp only [mm]; omega))) ?_| refine o_toInt rfl rfl (by (first | omega | (simp only [mm]; omega))) (by (first | omega | (simp only [mm]; omega))) ?_| refine o_shln rfl rfl rfl (by (first | omega | (simp only [mm]; omega))) (by decide) (by (first | omega | (simp only [mm]; omega))) ?_| refine o_addkn rfl rfl rfl (by decide) (by (first | omega | (simp only [mm]; omega))) ?_| refine o_cat rfl rfl rfl (by (first | omega | (simp only [mm]; omega))) ?_| refine o_add rfl rfl rfl (by omega) (by omega) ?_| refine op_nil ?_| refine o_bin rfl rfl rfl rfl ?_) | (first| refine wp_seq ?_| refine wp_ops ?_| refine wp_keep ?_| refine keepN (by (simp +decide only [Slots.keep, Slots.get, reduceIte]); exact rfl) ?_| refine wp_block ?_| refine wp_skip ?_| refine wp_ret ?_| refine wp_exit ?_| refine bx_ret ?_| refine bx_here ?_| refine bx_exit rfl ?_))
  refine wp_cond (b := true) rfl (fun _ => ?_) (fun h => absurd h (by decide))
  repeat (first | (first| refine o_movd rfl rfl ?_| refine o_movp rfl rfl ?_| refine o_mova rfl rfl ?_| refine o_mov rfl rfl ?_| refine o_quon rfl rfl rfl (by (first | omega | (simp only [mm]; omega))) (by decide) (by (first | omega | (simp only [mm]; omega))) ?_| refine o_asgd rfl rfl ?_| refine o_asgo rfl rfl ?_| refine o_not rfl rfl ?_| refine o_remn rfl rfl rfl (by (first | omega | (simp only [mm]; omega))) ?_| refine o_toInt rfl rfl (by (first | omega | (simp only [mm]; omega))) (by (first | omega | (simp only [mm]; omega))) ?_| refine o_shln rfl rfl rfl (by (first | omega | (simp only [mm]; omega))) (by decide) (by (first | omega | (simp only [mm]; omega))) ?_| refine o_addkn rfl rfl rfl (by decide) (by (first | omega | (simp only [mm]; omega))) ?_| refine o_cat rfl rfl rfl (by (first | omega | (simp only [mm]; omega))) ?_| refine o_add rfl rfl rfl (by omega) (by omega) ?_| refine op_nil ?_| refine o_bin rfl rfl rfl rfl ?_) | (first| refine wp_seq ?_| refine wp_ops ?_| refine wp_keep ?_| refine keepN (by (simp +decide only [Slots.keep, Slots.get, reduceIte]); exact rfl) ?_| refine wp_block ?_| refine wp_skip ?_| refine wp_ret ?_| refine wp_exit ?_| refine bx_ret ?_| refine bx_here ?_| refine bx_exit rfl ?_))
  refine o_idxA (j := c / 64) rfl rfl rfl rfl (by omega) ?_
  rw [show 0 + c / 64 * 1 = c / 64 by omega]
  refine o_load rfl rfl (rfget0 _ _ _) (clsC_get (by omega)) ?_
  refine o_movd rfl rfl ?_
  refine o_remn rfl rfl rfl (by omega) ?_
  refine o_toInt rfl rfl (by simp only [nU]; omega) (by simp only [mU]; omega) ?_
  refine o_shln (a := 1) rfl rfl rfl (by show _ ≤ 64; omega) (by decide) (by rw [mU]; omega) ?_
  refine o_addkn rfl rfl rfl (by decide) (by rw [mU]; omega) ?_
  refine o_idxA (j := c / 64) rfl rfl rfl rfl (by omega) ?_
  rw [show 0 + c / 64 * 1 = c / 64 by omega]
  refine o_store1 rfl rfl rfl (rfget0 _ _ _) (by show _ < 4; omega) hset (rfset0 _ _ _ _) ?_
  repeat (first | (first| refine o_movd rfl rfl ?_| refine o_movp rfl rfl ?_| refine o_mova rfl rfl ?_| refine o_mov rfl rfl ?_| refine o_quon rfl rfl rfl (by (first | omega | (simp only [mm]; omega))) (by decide) (by (first | omega | (simp only [mm]; omega))) ?_| refine o_asgd rfl rfl ?_| refine o_asgo rfl rfl ?_| refine o_not rfl rfl ?_| refine o_remn rfl rfl rfl (by (first | omega | (simp only [mm]; omega))) ?_| refine o_toInt rfl rfl (by (first | omega | (simp only [mm]; omega))) (by (first | omega | (simp only [mm]; omega))) ?_| refine o_shln rfl rfl rfl (by (first | omega | (simp only [mm]; omega))) (by decide) (by (first | omega | (simp only [mm]; omega))) ?_| refine o_addkn rfl rfl rfl (by decide) (by (first | omega | (simp only [mm]; omega))) ?_| refine o_cat rfl rfl rfl (by (first | omega | (simp only [mm]; omega))) ?_| refine o_add rfl rfl rfl (by omega) (by omega) ?_| refine op_nil ?_| refine o_bin rfl rfl rfl rfl ?_) | (first| refine wp_seq ?_| refine wp_ops ?_| refine wp_keep ?_| refine keepN (by (simp +decide only [Slots.keep, Slots.get, reduceIte]); exact rfl) ?_| refine wp_block ?_| refine wp_skip ?_| refine wp_ret ?_| refine wp_exit ?_| refine bx_ret ?_| refine bx_here ?_| refine bx_exit rfl ?_))
  refine o_lcls rfl rfl (rfget0 _ _ _) ?_
  refine o_scls rfl rfl rfl (rfget1 _ _ _ _) rfl (rfset1 _ _ _ _ _) ?_
  repeat (first | (first| refine o_movd rfl rfl ?_| refine o_movp rfl rfl ?_| refine o_mova rfl rfl ?_| refine o_mov rfl rfl ?_| refine o_quon rfl rfl rfl (by (first | omega | (simp only [mm]; omega))) (by decide) (by (first | omega | (simp only [mm]; omega))) ?_| refine o_asgd rfl rfl ?_| refine o_asgo rfl rfl ?_| refine o_not rfl rfl ?_| refine o_remn rfl rfl rfl (by (first | omega | (simp only [mm]; omega))) ?_| refine o_toInt rfl rfl (by (first | omega | (simp only [mm]; omega))) (by (first | omega | (simp only [mm]; omega))) ?_| refine o_shln rfl rfl rfl (by (first | omega | (simp only [mm]; omega))) (by decide) (by (first | omega | (simp only [mm]; omega))) ?_| refine o_addkn rfl rfl rfl (by decide) (by (first | omega | (simp only [mm]; omega))) ?_| refine o_cat rfl rfl rfl (by (first | omega | (simp only [mm]; omega))) ?_| refine o_add rfl rfl rfl (by omega) (by omega) ?_| refine op_nil ?_| refine o_bin rfl rfl rfl rfl ?_) | (first| refine wp_seq ?_| refine wp_ops ?_| refine wp_keep ?_| refine keepN (by (simp +decide only [Slots.keep, Slots.get, reduceIte]); exact rfl) ?_| refine wp_block ?_| refine wp_skip ?_| refine wp_ret ?_| refine wp_exit ?_| refine bx_ret ?_| refine bx_here ?_| refine bx_exit rfl ?_))
  refine end_cls rfl rfl rfl (rfget1 _ _ _ _) (by simp)
 ·rw [hx] at hH
  have hsame : n ||| 2 ^ c = n := by
   apply Nat.eq_of_testBit_eq
   intro i
   rw [Nat.testBit_or, Nat.testBit_two_pow]
   by_cases h : c = i
   ·subst h; simp [hx]
   ·simp [h]
  rw [hsame]
  clear hset
  refine ev_callB rfl rfl ?_
  repeat (first | (first| refine o_movd rfl rfl ?_| refine o_movp rfl rfl ?_| refine o_mova rfl rfl ?_| refine o_mov rfl rfl ?_| refine o_quon rfl rfl rfl (by (first | omega | (simp only [mm]; omega))) (by decide) (by (first | omega | (simp only [mm]; omega))) ?_| refine o_asgd rfl rfl ?_| refine o_asgo rfl rfl ?_| refine o_not rfl rfl ?_| refine o_remn rfl rfl rfl (by (first | omega | (simp only [mm]; omega))) ?_| refine o_toInt rfl rfl (by (first | omega | (simp only [mm]; omega))) (by (first | omega | (simp only [mm]; omega))) ?_| refine o_shln rfl rfl rfl (by (first | omega | (simp only [mm]; omega))) (by decide) (by (first | omega | (simp only [mm]; omega))) ?_| refine o_addkn rfl rfl rfl (by decide) (by (first | omega | (simp only [mm]; omega))) ?_| refine o_cat rfl rfl rfl (by (first | omega | (simp only [mm]; omega))) ?_| refine o_add rfl rfl rfl (by omega) (by omega) ?_| refine op_nil ?_| refine o_bin rfl rfl rfl rfl ?_) | (first| refine wp_seq ?_| refine wp_ops ?_| refine wp_keep ?_| refine keepN (by (simp +decide only [Slots.keep, Slots.get, reduceIte]); exact rfl) ?_| refine wp_block ?_| refine wp_skip ?_| refine wp_ret ?_| refine wp_exit ?_| refine bx_ret ?_| refine bx_here ?_| refine bx_exit rfl ?_))
  refine o_box (cs := clsC n) rfl rfl rfl rfl ?_
  refine o_alloc rfl ?_
  repeat (first | (first| refine o_movd rfl rfl ?_| refine o_movp rfl rfl ?_| refine o_mova rfl rfl ?_| refine o_mov rfl rfl ?_| refine o_quon rfl rfl rfl (by (first | omega | (simp only [mm]; omega))) (by decide) (by (first | omega | (simp only [mm]; omega))) ?_| refine o_asgd rfl rfl ?_| refine o_asgo rfl rfl ?_| refine o_not rfl rfl ?_| refine o_remn rfl rfl rfl (by (first | omega | (simp only [mm]; omega))) ?_| refine o_toInt rfl rfl (by (first | omega | (simp only [mm]; omega))) (by (first | omega | (simp only [mm]; omega))) ?_| refine o_shln rfl rfl rfl (by (first | omega | (simp only [mm]; omega))) (by decide) (by (first | omega | (simp only [mm]; omega))) ?_| refine o_addkn rfl rfl rfl (by decide) (by (first | omega | (simp only [mm]; omega))) ?_| refine o_cat rfl rfl rfl (by (first | omega | (simp only [mm]; omega))) ?_| refine o_add rfl rfl rfl (by omega) (by omega) ?_| refine op_nil ?_| refine o_bin rfl rfl rfl rfl ?_) | (first| refine wp_seq ?_| refine wp_ops ?_| refine wp_keep ?_| refine keepN (by (simp +decide only [Slots.keep, Slots.get, reduceIte]); exact rfl) ?_| refine wp_block ?_| refine wp_skip ?_| refine wp_ret ?_| refine wp_exit ?_| refine bx_ret ?_| refine bx_here ?_| refine bx_exit rfl ?_))
  simp only [List.length_append, List.length_cons, List.length_nil, List.append_assoc, List.cons_append, List.nil_append, Nat.zero_add, Nat.add_assoc, Nat.reduceAdd]
  refine o_lcls (k := n) rfl rfl (rfget0 _ _ _) ?_
  refine o_movd rfl rfl ?_
  refine o_call rfl rfl rfl (hH _) ?_
  repeat (first | (first| refine o_movd rfl rfl ?_| refine o_movp rfl rfl ?_| refine o_mova rfl rfl ?_| refine o_mov rfl rfl ?_| refine o_quon rfl rfl rfl (by (first | omega | (simp only [mm]; omega))) (by decide) (by (first | omega | (simp only [mm]; omega))) ?_| refine o_asgd rfl rfl ?_| refine o_asgo rfl rfl ?_| refine o_not rfl rfl ?_| refine o_remn rfl rfl rfl (by (first | omega | (simp only [mm]; omega))) ?_| refine o_toInt rfl rfl (by (first | omega | (simp only [mm]; omega))) (by (first | omega | (simp only [mm]; omega))) ?_| refine o_shln rfl rfl rfl (by (first | omega | (simp only [mm]; omega))) (by decide) (by (first | omega | (simp only [mm]; omega))) ?_| refine o_addkn rfl rfl rfl (by decide) (by (first | omega | (simp only [mm]; omega))) ?_| refine o_cat rfl rfl rfl (by (first | omega | (simp only [mm]; omega))) ?_| refine o_add rfl rfl rfl (by omega) (by omega) ?_| refine op_nil ?_| refine o_bin rfl rfl rfl rfl ?_) | (first| refine wp_seq ?_| refine wp_ops ?_| refine wp_keep ?_| refine keepN (by (simp +decide only [Slots.keep, Slots.get, reduceIte]); exact rfl) ?_| refine wp_block ?_| refine wp_skip ?_| refine wp_ret ?_| refine wp_exit ?_| refine bx_ret ?_| refine bx_here ?_| refine bx_exit rfl ?_))
  refine wp_cond (b := false) rfl (fun h => absurd h (by decide)) (fun _ => ?_)
  repeat (first | (first| refine o_movd rfl rfl ?_| refine o_movp rfl rfl ?_| refine o_mova rfl rfl ?_| refine o_mov rfl rfl ?_| refine o_quon rfl rfl rfl (by (first | omega | (simp only [mm]; omega))) (by decide) (by (first | omega | (simp only [mm]; omega))) ?_| refine o_asgd rfl rfl ?_| refine o_asgo rfl rfl ?_| refine o_not rfl rfl ?_| refine o_remn rfl rfl rfl (by (first | omega | (simp only [mm]; omega))) ?_| refine o_toInt rfl rfl (by (first | omega | (simp only [mm]; omega))) (by (first | omega | (simp only [mm]; omega))) ?_| refine o_shln rfl rfl rfl (by (first | omega | (simp only [mm]; omega))) (by decide) (by (first | omega | (simp only [mm]; omega))) ?_| refine o_addkn rfl rfl rfl (by decide) (by (first | omega | (simp only [mm]; omega))) ?_| refine o_cat rfl rfl rfl (by (first | omega | (simp only [mm]; omega))) ?_| refine o_add rfl rfl rfl (by omega) (by omega) ?_| refine op_nil ?_| refine o_bin rfl rfl rfl rfl ?_) | (first| refine wp_seq ?_| refine wp_ops ?_| refine wp_keep ?_| refine keepN (by (simp +decide only [Slots.keep, Slots.get, reduceIte]); exact rfl) ?_| refine wp_block ?_| refine wp_skip ?_| refine wp_ret ?_| refine wp_exit ?_| refine bx_ret ?_| refine bx_here ?_| refine bx_exit rfl ?_))
  refine o_lcls rfl rfl (rfget0 _ _ _) ?_
  refine o_scls rfl rfl rfl (rfget1 _ _ _ _) rfl (rfset1 _ _ _ _ _) ?_
  repeat (first | (first| refine o_movd rfl rfl ?_| refine o_movp rfl rfl ?_| refine o_mova rfl rfl ?_| refine o_mov rfl rfl ?_| refine o_quon rfl rfl rfl (by (first | omega | (simp only [mm]; omega))) (by decide) (by (first | omega | (simp only [mm]; omega))) ?_| refine o_asgd rfl rfl ?_| refine o_asgo rfl rfl ?_| refine o_not rfl rfl ?_| refine o_remn rfl rfl rfl (by (first | omega | (simp only [mm]; omega))) ?_| refine o_toInt rfl rfl (by (first | omega | (simp only [mm]; omega))) (by (first | omega | (simp only [mm]; omega))) ?_| refine o_shln rfl rfl rfl (by (first | omega | (simp only [mm]; omega))) (by decide) (by (first | omega | (simp only [mm]; omega))) ?_| refine o_addkn rfl rfl rfl (by decide) (by (first | omega | (simp only [mm]; omega))) ?_| refine o_cat rfl rfl rfl (by (first | omega | (simp only [mm]; omega))) ?_| refine o_add rfl rfl rfl (by omega) (by omega) ?_| refine op_nil ?_| refine o_bin rfl rfl rfl rfl ?_) | (first| refine wp_seq ?_| refine wp_ops ?_| refine wp_keep ?_| refine keepN (by (simp +decide only [Slots.keep, Slots.get, reduceIte]); exact rfl) ?_| refine wp_block ?_| refine wp_skip ?_| refine wp_ret ?_| refine wp_exit ?_| refine bx_ret ?_| refine bx_here ?_| refine bx_exit rfl ?_))
  refine end_cls rfl rfl rfl (rfget1 _ _ _ _) (by simp)
theorem rSpan_ev (a b : Nat) (ha : a < 256) (hb : b < 256) (rf : Refs) : Ev T f_ref04_Span [u8 a, u8 b] rf (.ret (cls (spanN a (b + 1 - a)))) rf := by
 refine ev_callB rfl rfl ?_
 repeat (first | (first| refine o_movd rfl rfl ?_| refine o_movp rfl rfl ?_| refine o_mova rfl rfl ?_| refine o_mov rfl rfl ?_| refine o_toInt rfl rfl (by (first | omega | (simp only [mm]; omega))) (by (first | omega | (simp only [mm]; omega))) ?_| refine o_asgd rfl rfl ?_| refine o_asgo rfl rfl ?_| refine o_leqn rfl rfl rfl ?_| refine o_addkn rfl rfl rfl (by decide) (by (first | omega | (simp only [mm]; omega))) ?_| refine o_cat rfl rfl rfl (by (first | omega | (simp only [mm]; omega))) ?_| refine o_add rfl rfl rfl (by omega) (by omega) ?_| refine op_nil ?_| refine o_bin rfl rfl rfl rfl ?_) | (first| refine wp_seq ?_| refine wp_ops ?_| refine wp_keep ?_| refine keepN (by (simp +decide only [Slots.keep, Slots.get, reduceIte]); exact rfl) ?_| refine wp_block ?_| refine wp_skip ?_| refine wp_ret ?_| refine wp_exit ?_| refine bx_ret ?_| refine bx_here ?_| refine bx_exit rfl ?_))
 refine o_alloc rfl ?_
 repeat (first | (first| refine o_movd rfl rfl ?_| refine o_movp rfl rfl ?_| refine o_mova rfl rfl ?_| refine o_mov rfl rfl ?_| refine o_toInt rfl rfl (by (first | omega | (simp only [mm]; omega))) (by (first | omega | (simp only [mm]; omega))) ?_| refine o_asgd rfl rfl ?_| refine o_asgo rfl rfl ?_| refine o_leqn rfl rfl rfl ?_| refine o_addkn rfl rfl rfl (by decide) (by (first | omega | (simp only [mm]; omega))) ?_| refine o_cat rfl rfl rfl (by (first | omega | (simp only [mm]; omega))) ?_| refine o_add rfl rfl rfl (by omega) (by omega) ?_| refine op_nil ?_| refine o_bin rfl rfl rfl rfl ?_) | (first| refine wp_seq ?_| refine wp_ops ?_| refine wp_keep ?_| refine keepN (by (simp +decide only [Slots.keep, Slots.get, reduceIte]); exact rfl) ?_| refine wp_block ?_| refine wp_skip ?_| refine wp_ret ?_| refine wp_exit ?_| refine bx_ret ?_| refine bx_here ?_| refine bx_exit rfl ?_))
 refine o_build (cs := clsC 0) rfl rfl ?_
 refine o_alloc rfl ?_
 simp only [List.length_append, List.length_cons, List.length_nil, List.append_assoc, List.cons_append, List.nil_append, Nat.zero_add, Nat.add_assoc, Nat.reduceAdd]
 refine o_scls (k := 0) rfl rfl rfl (rfget1 _ _ _ _) rfl (rfset1 _ _ _ _ _) ?_
 repeat (first | (first| refine o_movd rfl rfl ?_| refine o_movp rfl rfl ?_| refine o_mova rfl rfl ?_| refine o_mov rfl rfl ?_| refine o_toInt rfl rfl (by (first | omega | (simp only [mm]; omega))) (by (first | omega | (simp only [mm]; omega))) ?_| refine o_asgd rfl rfl ?_| refine o_asgo rfl rfl ?_| refine o_leqn rfl rfl rfl ?_| refine o_addkn rfl rfl rfl (by decide) (by (first | omega | (simp only [mm]; omega))) ?_| refine o_cat rfl rfl rfl (by (first | omega | (simp only [mm]; omega))) ?_| refine o_add rfl rfl rfl (by omega) (by omega) ?_| refine op_nil ?_| refine o_bin rfl rfl rfl rfl ?_) | (first| refine wp_seq ?_| refine wp_ops ?_| refine wp_keep ?_| refine keepN (by (simp +decide only [Slots.keep, Slots.get, reduceIte]); exact rfl) ?_| refine wp_block ?_| refine wp_skip ?_| refine wp_ret ?_| refine wp_exit ?_| refine bx_ret ?_| refine bx_here ?_| refine bx_exit rfl ?_))
 refine wp_loop (m := b + 1 - a) (fun k st => ∃ i : Nat, i + k = b + 1 - a ∧ st = ⟨[(1, u8 b), (4, .ptr rf.length 0), (5, .ptr (rf.length + 1) 0), (6, i64 (a + i : Nat))], rf ++ [z4, clsC (spanN a i)], [], none, rf.length⟩) ⟨0, by omega, rfl⟩ ?_
 rintro k st ⟨i, hik, rfl⟩ -
 repeat (first | (first| refine o_movd rfl rfl ?_| refine o_movp rfl rfl ?_| refine o_mova rfl rfl ?_| refine o_mov rfl rfl ?_| refine o_toInt rfl rfl (by (first | omega | (simp only [mm]; omega))) (by (first | omega | (simp only [mm]; omega))) ?_| refine o_asgd rfl rfl ?_| refine o_asgo rfl rfl ?_| refine o_leqn rfl rfl rfl ?_| refine o_addkn rfl rfl rfl (by decide) (by (first | omega | (simp only [mm]; omega))) ?_| refine o_cat rfl rfl rfl (by (first | omega | (simp only [mm]; omega))) ?_| refine o_add rfl rfl rfl (by omega) (by omega) ?_| refine op_nil ?_| refine o_bin rfl rfl rfl rfl ?_) | (first| refine wp_seq ?_| refine wp_ops ?_| refine wp_keep ?_| refine keepN (by (simp +decide only [Slots.keep, Slots.get, reduceIte]); exact rfl) ?_| refine wp_block ?_| refine wp_skip ?_| refine wp_ret ?_| refine wp_exit ?_| refine bx_ret ?_| refine bx_here ?_| refine bx_exit rfl ?_))
 refine wp_if rfl ?_ ?_ <;> intro hi
 ·have hc : a + i < 256 := by omega
  repeat (first | (first| refine o_movd rfl rfl ?_| refine o_movp rfl rfl ?_| refine o_mova rfl rfl ?_| refine o_mov rfl rfl ?_| refine o_toInt rfl rfl (by (first | omega | (simp only [mm]; omega))) (by (first | omega | (simp only [mm]; omega))) ?_| refine o_asgd rfl rfl ?_| refine o_asgo rfl rfl ?_| refine o_leqn rfl rfl rfl ?_| refine o_addkn rfl rfl rfl (by decide) (by (first | omega | (simp only [mm]; omega))) ?_| refine o_cat rfl rfl rfl (by (first | omega | (simp only [mm]; omega))) ?_| refine o_add rfl rfl rfl (by omega) (by omega) ?_| refine op_nil ?_| refine o_bin rfl rfl rfl rfl ?_) | (first| refine wp_seq ?_| refine wp_ops ?_| refine wp_keep ?_| refine keepN (by (simp +decide only [Slots.keep, Slots.get, reduceIte]); exact rfl) ?_| refine wp_block ?_| refine wp_skip ?_| refine wp_ret ?_| refine wp_exit ?_| refine bx_ret ?_| refine bx_here ?_| refine bx_exit rfl ?_))
  refine o_lcls rfl rfl (rfget1 _ _ _ _) ?_
  repeat (first | (first| refine o_movd rfl rfl ?_| refine o_movp rfl rfl ?_| refine o_mova rfl rfl ?_| refine o_mov rfl rfl ?_| refine o_toInt rfl rfl (by (first | omega | (simp only [mm]; omega))) (by (first | omega | (simp only [mm]; omega))) ?_| refine o_asgd rfl rfl ?_| refine o_asgo rfl rfl ?_| refine o_leqn rfl rfl rfl ?_| refine o_addkn rfl rfl rfl (by decide) (by (first | omega | (simp only [mm]; omega))) ?_| refine o_cat rfl rfl rfl (by (first | omega | (simp only [mm]; omega))) ?_| refine o_add rfl rfl rfl (by omega) (by omega) ?_| refine op_nil ?_| refine o_bin rfl rfl rfl rfl ?_) | (first| refine wp_seq ?_| refine wp_ops ?_| refine wp_keep ?_| refine keepN (by (simp +decide only [Slots.keep, Slots.get, reduceIte]); exact rfl) ?_| refine wp_block ?_| refine wp_skip ?_| refine wp_ret ?_| refine wp_exit ?_| refine bx_ret ?_| refine bx_here ?_| refine bx_exit rfl ?_))
  refine o_call rfl rfl rfl (with_ev _ _ hc _) ?_
  refine o_scls rfl rfl rfl (rfget1 _ _ _ _) rfl (rfset1 _ _ _ _ _) ?_
  repeat (first | (first| refine o_movd rfl rfl ?_| refine o_movp rfl rfl ?_| refine o_mova rfl rfl ?_| refine o_mov rfl rfl ?_| refine o_toInt rfl rfl (by (first | omega | (simp only [mm]; omega))) (by (first | omega | (simp only [mm]; omega))) ?_| refine o_asgd rfl rfl ?_| refine o_asgo rfl rfl ?_| refine o_leqn rfl rfl rfl ?_| refine o_addkn rfl rfl rfl (by decide) (by (first | omega | (simp only [mm]; omega))) ?_| refine o_cat rfl rfl rfl (by (first | omega | (simp only [mm]; omega))) ?_| refine o_add rfl rfl rfl (by omega) (by omega) ?_| refine op_nil ?_| refine o_bin rfl rfl rfl rfl ?_) | (first| refine wp_seq ?_| refine wp_ops ?_| refine wp_keep ?_| refine keepN (by (simp +decide only [Slots.keep, Slots.get, reduceIte]); exact rfl) ?_| refine wp_block ?_| refine wp_skip ?_| refine wp_ret ?_| refine wp_exit ?_| refine bx_ret ?_| refine bx_here ?_| refine bx_exit rfl ?_))
  refine ⟨by simp, k - 1, by omega, i + 1, by omega, rfl⟩
 ·have : i = b + 1 - a := by omega
  subst this
  repeat (first | (first| refine o_movd rfl rfl ?_| refine o_movp rfl rfl ?_| refine o_mova rfl rfl ?_| refine o_mov rfl rfl ?_| refine o_toInt rfl rfl (by (first | omega | (simp only [mm]; omega))) (by (first | omega | (simp only [mm]; omega))) ?_| refine o_asgd rfl rfl ?_| refine o_asgo rfl rfl ?_| refine o_leqn rfl rfl rfl ?_| refine o_addkn rfl rfl rfl (by decide) (by (first | omega | (simp only [mm]; omega))) ?_| refine o_cat rfl rfl rfl (by (first | omega | (simp only [mm]; omega))) ?_| refine o_add rfl rfl rfl (by omega) (by omega) ?_| refine op_nil ?_| refine o_bin rfl rfl rfl rfl ?_) | (first| refine wp_seq ?_| refine wp_ops ?_| refine wp_keep ?_| refine keepN (by (simp +decide only [Slots.keep, Slots.get, reduceIte]); exact rfl) ?_| refine wp_block ?_| refine wp_skip ?_| refine wp_ret ?_| refine wp_exit ?_| refine bx_ret ?_| refine bx_here ?_| refine bx_exit rfl ?_))
  refine o_lcls rfl rfl (rfget1 _ _ _ _) ?_
  refine o_scls rfl rfl rfl (rfget0 _ _ _) rfl (rfset0 _ _ _ _) ?_
  repeat (first | (first| refine o_movd rfl rfl ?_| refine o_movp rfl rfl ?_| refine o_mova rfl rfl ?_| refine o_mov rfl rfl ?_| refine o_toInt rfl rfl (by (first | omega | (simp only [mm]; omega))) (by (first | omega | (simp only [mm]; omega))) ?_| refine o_asgd rfl rfl ?_| refine o_asgo rfl rfl ?_| refine o_leqn rfl rfl rfl ?_| refine o_addkn rfl rfl rfl (by decide) (by (first | omega | (simp only [mm]; omega))) ?_| refine o_cat rfl rfl rfl (by (first | omega | (simp only [mm]; omega))) ?_| refine o_add rfl rfl rfl (by omega) (by omega) ?_| refine op_nil ?_| refine o_bin rfl rfl rfl rfl ?_) | (first| refine wp_seq ?_| refine wp_ops ?_| refine wp_keep ?_| refine keepN (by (simp +decide only [Slots.keep, Slots.get, reduceIte]); exact rfl) ?_| refine wp_block ?_| refine wp_skip ?_| refine wp_ret ?_| refine wp_exit ?_| refine bx_ret ?_| refine bx_here ?_| refine bx_exit rfl ?_))
  refine end_cls rfl rfl rfl (rfget0 _ _ _) (by simp)
def orTo (n m : Nat) : Nat → Nat
 | 0 => n
 | i + 1 => if m.testBit i then orTo n m i ||| 2 ^ i else orTo n m i
theorem orTo_bit (n m i c : Nat) : (orTo n m i).testBit c = (n.testBit c || (decide (c < i) && m.testBit c)) := by
 induction i with
 | zero => simp [orTo]
 | succ i ih =>
   simp only [orTo]
   by_cases h : m.testBit i
   ·rw [if_pos h, Nat.testBit_or, ih, Nat.testBit_two_pow]
    by_cases hc : i = c
    ·subst hc; simp [h]
    ·rw [show decide (c < i + 1) = decide (c < i) by rw [Bool.eq_iff_iff]; simp; omega]
     simp [hc]
   ·rw [if_neg h, ih]
    by_cases hc : i = c
    ·subst hc; simp [h]
    ·rw [show decide (c < i + 1) = decide (c < i) by rw [Bool.eq_iff_iff]; simp; omega]
theorem orTo_all (n m : Nat) (hm : m < 2 ^ 256) : orTo n m 256 = n ||| m := by
 apply Nat.eq_of_testBit_eq
 intro i
 rw [orTo_bit, Nat.testBit_or]
 by_cases h : i < 256
 ·simp [h]
 ·rw [Nat.testBit_lt_two_pow (Nat.lt_of_lt_of_le hm (Nat.pow_le_pow_right (by omega) (by omega)))]
  simp
theorem rOr_ev (n m : Nat) (hm : m < 2 ^ 256) (rf : Refs) : Ev T f_ref04_Or [cls n, cls m] rf (.ret (cls (n ||| m))) rf := by
 rw [← orTo_all n m hm]
 refine ev_callB rfl rfl ?_
 repeat (first | (first| refine o_movd rfl rfl ?_| refine o_movp rfl rfl ?_| refine o_mova rfl rfl ?_| refine o_mov rfl rfl ?_| refine o_asgd rfl rfl ?_| refine o_asgo rfl rfl ?_| refine o_toInt rfl rfl (by (first | omega | (simp only [mm]; omega))) (by (first | omega | (simp only [mm]; omega))) ?_| refine o_lssn rfl rfl rfl ?_| refine o_addkn rfl rfl rfl (by decide) (by (first | omega | (simp only [mm]; omega))) ?_| refine o_cat rfl rfl rfl (by (first | omega | (simp only [mm]; omega))) ?_| refine o_add rfl rfl rfl (by omega) (by omega) ?_| refine op_nil ?_| refine o_bin rfl rfl rfl rfl ?_) | (first| refine wp_seq ?_| refine wp_ops ?_| refine wp_keep ?_| refine keepN (by (simp +decide only [Slots.keep, Slots.get, reduceIte]); exact rfl) ?_| refine wp_block ?_| refine wp_skip ?_| refine wp_ret ?_| refine wp_exit ?_| refine bx_ret ?_| refine bx_here ?_| refine bx_exit rfl ?_))
 refine o_box (cs := clsC n) rfl rfl rfl rfl ?_
 refine o_box (cs := clsC m) rfl rfl rfl rfl ?_
 refine o_alloc rfl ?_
 repeat (first | (first| refine o_movd rfl rfl ?_| refine o_movp rfl rfl ?_| refine o_mova rfl rfl ?_| refine o_mov rfl rfl ?_| refine o_asgd rfl rfl ?_| refine o_asgo rfl rfl ?_| refine o_toInt rfl rfl (by (first | omega | (simp only [mm]; omega))) (by (first | omega | (simp only [mm]; omega))) ?_| refine o_lssn rfl rfl rfl ?_| refine o_addkn rfl rfl rfl (by decide) (by (first | omega | (simp only [mm]; omega))) ?_| refine o_cat rfl rfl rfl (by (first | omega | (simp only [mm]; omega))) ?_| refine o_add rfl rfl rfl (by omega) (by omega) ?_| refine op_nil ?_| refine o_bin rfl rfl rfl rfl ?_) | (first| refine wp_seq ?_| refine wp_ops ?_| refine wp_keep ?_| refine keepN (by (simp +decide only [Slots.keep, Slots.get, reduceIte]); exact rfl) ?_| refine wp_block ?_| refine wp_skip ?_| refine wp_ret ?_| refine wp_exit ?_| refine bx_ret ?_| refine bx_here ?_| refine bx_exit rfl ?_))
 simp only [List.length_append, List.length_cons, List.length_nil, List.append_assoc, List.cons_append, List.nil_append, Nat.zero_add, Nat.add_assoc, Nat.reduceAdd]
 refine wp_loop (m := 256) (fun k st => ∃ i : Nat, i + k = 256 ∧ st = ⟨[(2, .ptr rf.length 0), (3, .ptr (rf.length + 1) 0), (4, .ptr (rf.length + 2) 0), (5, i64 i)], rf ++ [clsC (orTo n m i), clsC m, z4], [], none, rf.length⟩) ⟨0, by omega, rfl⟩ ?_
 rintro k st ⟨i, hik, rfl⟩ -
 repeat (first | (first| refine o_movd rfl rfl ?_| refine o_movp rfl rfl ?_| refine o_mova rfl rfl ?_| refine o_mov rfl rfl ?_| refine o_asgd rfl rfl ?_| refine o_asgo rfl rfl ?_| refine o_toInt rfl rfl (by (first | omega | (simp only [mm]; omega))) (by (first | omega | (simp only [mm]; omega))) ?_| refine o_lssn rfl rfl rfl ?_| refine o_addkn rfl rfl rfl (by decide) (by (first | omega | (simp only [mm]; omega))) ?_| refine o_cat rfl rfl rfl (by (first | omega | (simp only [mm]; omega))) ?_| refine o_add rfl rfl rfl (by omega) (by omega) ?_| refine op_nil ?_| refine o_bin rfl rfl rfl rfl ?_) | (first| refine wp_seq ?_| refine wp_ops ?_| refine wp_keep ?_| refine keepN (by (simp +decide only [Slots.keep, Slots.get, reduceIte]); exact rfl) ?_| refine wp_block ?_| refine wp_skip ?_| refine wp_ret ?_| refine wp_exit ?_| refine bx_ret ?_| refine bx_here ?_| refine bx_exit rfl ?_))
 refine wp_if rfl ?_ ?_ <;> intro hi
 ·have hs : orTo n m (i + 1) = if m.testBit i then orTo n m i ||| 2 ^ i else orTo n m i := rfl
  have hH := fun rf => rHas_ev (T := T) m i hi rf
  repeat (first | (first| refine o_movd rfl rfl ?_| refine o_movp rfl rfl ?_| refine o_mova rfl rfl ?_| refine o_mov rfl rfl ?_| refine o_asgd rfl rfl ?_| refine o_asgo rfl rfl ?_| refine o_toInt rfl rfl (by (first | omega | (simp only [mm]; omega))) (by (first | omega | (simp only [mm]; omega))) ?_| refine o_lssn rfl rfl rfl ?_| refine o_addkn rfl rfl rfl (by decide) (by (first | omega | (simp only [mm]; omega))) ?_| refine o_cat rfl rfl rfl (by (first | omega | (simp only [mm]; omega))) ?_| refine o_add rfl rfl rfl (by omega) (by omega) ?_| refine op_nil ?_| refine o_bin rfl rfl rfl rfl ?_) | (first| refine wp_seq ?_| refine wp_ops ?_| refine wp_keep ?_| refine keepN (by (simp +decide only [Slots.keep, Slots.get, reduceIte]); exact rfl) ?_| refine wp_block ?_| refine wp_skip ?_| refine wp_ret ?_| refine wp_exit ?_| refine bx_ret ?_| refine bx_here ?_| refine bx_exit rfl ?_))
  refine o_lcls rfl rfl (rfget1 _ _ _ _) ?_
  repeat (first | (first| refine o_movd rfl rfl ?_| refine o_movp rfl rfl ?_| refine o_mova rfl rfl ?_| refine o_mov rfl rfl ?_| refine o_asgd rfl rfl ?_| refine o_asgo rfl rfl ?_| refine o_toInt rfl rfl (by (first | omega | (simp only [mm]; omega))) (by (first | omega | (simp only [mm]; omega))) ?_| refine o_lssn rfl rfl rfl ?_| refine o_addkn rfl rfl rfl (by decide) (by (first | omega | (simp only [mm]; omega))) ?_| refine o_cat rfl rfl rfl (by (first | omega | (simp only [mm]; omega))) ?_| refine o_add rfl rfl rfl (by omega) (by omega) ?_| refine op_nil ?_| refine o_bin rfl rfl rfl rfl ?_) | (first| refine wp_seq ?_| refine wp_ops ?_| refine wp_keep ?_| refine keepN (by (simp +decide only [Slots.keep, Slots.get, reduceIte]); exact rfl) ?_| refine wp_block ?_| refine wp_skip ?_| refine wp_ret ?_| refine wp_exit ?_| refine bx_ret ?_| refine bx_here ?_| refine bx_exit rfl ?_))
  refine o_call rfl rfl rfl (hH _) ?_
  cases hx : m.testBit i
  ·rw [hx] at hs
   repeat (first | (first| refine o_movd rfl rfl ?_| refine o_movp rfl rfl ?_| refine o_mova rfl rfl ?_| refine o_mov rfl rfl ?_| refine o_asgd rfl rfl ?_| refine o_asgo rfl rfl ?_| refine o_toInt rfl rfl (by (first | omega | (simp only [mm]; omega))) (by (first | omega | (simp only [mm]; omega))) ?_| refine o_lssn rfl rfl rfl ?_| refine o_addkn rfl rfl rfl (by decide) (by (first | omega | (simp only [mm]; omega))) ?_| refine o_cat rfl rfl rfl (by (first | omega | (simp only [mm]; omega))) ?_| refine o_add rfl rfl rfl (by omega) (by omega) ?_| refine op_nil ?_| refine o_bin rfl rfl rfl rfl ?_) | (first| refine wp_seq ?_| refine wp_ops ?_| refine wp_keep ?_| refine keepN (by (simp +decide only [Slots.keep, Slots.get, reduceIte]); exact rfl) ?_| refine wp_block ?_| refine wp_skip ?_| refine wp_ret ?_| refine wp_exit ?_| refine bx_ret ?_| refine bx_here ?_| refine bx_exit rfl ?_))
   refine wp_cond (b := false) rfl (fun h => absurd h (by decide)) (fun _ => ?_)
   repeat (first | (first| refine o_movd rfl rfl ?_| refine o_movp rfl rfl ?_| refine o_mova rfl rfl ?_| refine o_mov rfl rfl ?_| refine o_asgd rfl rfl ?_| refine o_asgo rfl rfl ?_| refine o_toInt rfl rfl (by (first | omega | (simp only [mm]; omega))) (by (first | omega | (simp only [mm]; omega))) ?_| refine o_lssn rfl rfl rfl ?_| refine o_addkn rfl rfl rfl (by decide) (by (first | omega | (simp only [mm]; omega))) ?_| refine o_cat rfl rfl rfl (by (first | omega | (simp only [mm]; omega))) ?_| refine o_add rfl rfl rfl (by omega) (by omega) ?_| refine op_nil ?_| refine o_bin rfl rfl rfl rfl ?_) | (first| refine wp_seq ?_| refine wp_ops ?_| refine wp_keep ?_| refine keepN (by (simp +decide only [Slots.keep, Slots.get, reduceIte]); exact rfl) ?_| refine wp_block ?_| refine wp_skip ?_| refine wp_ret ?_| refine wp_exit ?_| refine bx_ret ?_| refine bx_here ?_| refine bx_exit rfl ?_))
   refine ⟨by simp, k - 1, by omega, i + 1, by omega, ?_⟩
   rw [hs]; rfl
  ·rw [hx] at hs
   repeat (first | (first| refine o_movd rfl rfl ?_| refine o_movp rfl rfl ?_| refine o_mova rfl rfl ?_| refine o_mov rfl rfl ?_| refine o_asgd rfl rfl ?_| refine o_asgo rfl rfl ?_| refine o_toInt rfl rfl (by (first | omega | (simp only [mm]; omega))) (by (first | omega | (simp only [mm]; omega))) ?_| refine o_lssn rfl rfl rfl ?_| refine o_addkn rfl rfl rfl (by decide) (by (first | omega | (simp only [mm]; omega))) ?_| refine o_cat rfl rfl rfl (by (first | omega | (simp only [mm]; omega))) ?_| refine o_add rfl rfl rfl (by omega) (by omega) ?_| refine op_nil ?_| refine o_bin rfl rfl rfl rfl ?_) | (first| refine wp_seq ?_| refine wp_ops ?_| refine wp_keep ?_| refine keepN (by (simp +decide only [Slots.keep, Slots.get, reduceIte]); exact rfl) ?_| refine wp_block ?_| refine wp_skip ?_| refine wp_ret ?_| refine wp_exit ?_| refine bx_ret ?_| refine bx_here ?_| refine bx_exit rfl ?_))
   refine wp_cond (b := true) rfl (fun _ => ?_) (fun h => absurd h (by decide))
   repeat (first | (first| refine o_movd rfl rfl ?_| refine o_movp rfl rfl ?_| refine o_mova rfl rfl ?_| refine o_mov rfl rfl ?_| refine o_asgd rfl rfl ?_| refine o_asgo rfl rfl ?_| refine o_toInt rfl rfl (by (first | omega | (simp only [mm]; omega))) (by (first | omega | (simp only [mm]; omega))) ?_| refine o_lssn rfl rfl rfl ?_| refine o_addkn rfl rfl rfl (by decide) (by (first | omega | (simp only [mm]; omega))) ?_| refine o_cat rfl rfl rfl (by (first | omega | (simp only [mm]; omega))) ?_| refine o_add rfl rfl rfl (by omega) (by omega) ?_| refine op_nil ?_| refine o_bin rfl rfl rfl rfl ?_) | (first| refine wp_seq ?_| refine wp_ops ?_| refine wp_keep ?_| refine keepN (by (simp +decide only [Slots.keep, Slots.get, reduceIte]); exact rfl) ?_| refine wp_block ?_| refine wp_skip ?_| refine wp_ret ?_| refine wp_exit ?_| refine bx_ret ?_| refine bx_here ?_| refine bx_exit rfl ?_))
   refine o_lcls rfl rfl (rfget0 _ _ _) ?_
   repeat (first | (first| refine o_movd rfl rfl ?_| refine o_movp rfl rfl ?_| refine o_mova rfl rfl ?_| refine o_mov rfl rfl ?_| refine o_asgd rfl rfl ?_| refine o_asgo rfl rfl ?_| refine o_toInt rfl rfl (by (first | omega | (simp only [mm]; omega))) (by (first | omega | (simp only [mm]; omega))) ?_| refine o_lssn rfl rfl rfl ?_| refine o_addkn rfl rfl rfl (by decide) (by (first | omega | (simp only [mm]; omega))) ?_| refine o_cat rfl rfl rfl (by (first | omega | (simp only [mm]; omega))) ?_| refine o_add rfl rfl rfl (by omega) (by omega) ?_| refine op_nil ?_| refine o_bin rfl rfl rfl rfl ?_) | (first| refine wp_seq ?_| refine wp_ops ?_| refine wp_keep ?_| refine keepN (by (simp +decide only [Slots.keep, Slots.get, reduceIte]); exact rfl) ?_| refine wp_block ?_| refine wp_skip ?_| refine wp_ret ?_| refine wp_exit ?_| refine bx_ret ?_| refine bx_here ?_| refine bx_exit rfl ?_))
   refine o_call rfl rfl rfl (with_ev _ _ hi _) ?_
   refine o_scls rfl rfl rfl (rfget0 _ _ _) rfl (rfset0 _ _ _ _) ?_
   repeat (first | (first| refine o_movd rfl rfl ?_| refine o_movp rfl rfl ?_| refine o_mova rfl rfl ?_| refine o_mov rfl rfl ?_| refine o_asgd rfl rfl ?_| refine o_asgo rfl rfl ?_| refine o_toInt rfl rfl (by (first | omega | (simp only [mm]; omega))) (by (first | omega | (simp only [mm]; omega))) ?_| refine o_lssn rfl rfl rfl ?_| refine o_addkn rfl rfl rfl (by decide) (by (first | omega | (simp only [mm]; omega))) ?_| refine o_cat rfl rfl rfl (by (first | omega | (simp only [mm]; omega))) ?_| refine o_add rfl rfl rfl (by omega) (by omega) ?_| refine op_nil ?_| refine o_bin rfl rfl rfl rfl ?_) | (first| refine wp_seq ?_| refine wp_ops ?_| refine wp_keep ?_| refine keepN (by (simp +decide only [Slots.keep, Slots.get, reduceIte]); exact rfl) ?_| refine wp_block ?_| refine wp_skip ?_| refine wp_ret ?_| refine wp_exit ?_| refine bx_ret ?_| refine bx_here ?_| refine bx_exit rfl ?_))
   refine ⟨by simp, k - 1, by omega, i + 1, by omega, ?_⟩
   rw [hs]; rfl
 ·have : i = 256 := by omega
  subst this
  repeat (first | (first| refine o_movd rfl rfl ?_| refine o_movp rfl rfl ?_| refine o_mova rfl rfl ?_| refine o_mov rfl rfl ?_| refine o_asgd rfl rfl ?_| refine o_asgo rfl rfl ?_| refine o_toInt rfl rfl (by (first | omega | (simp only [mm]; omega))) (by (first | omega | (simp only [mm]; omega))) ?_| refine o_lssn rfl rfl rfl ?_| refine o_addkn rfl rfl rfl (by decide) (by (first | omega | (simp only [mm]; omega))) ?_| refine o_cat rfl rfl rfl (by (first | omega | (simp only [mm]; omega))) ?_| refine o_add rfl rfl rfl (by omega) (by omega) ?_| refine op_nil ?_| refine o_bin rfl rfl rfl rfl ?_) | (first| refine wp_seq ?_| refine wp_ops ?_| refine wp_keep ?_| refine keepN (by (simp +decide only [Slots.keep, Slots.get, reduceIte]); exact rfl) ?_| refine wp_block ?_| refine wp_skip ?_| refine wp_ret ?_| refine wp_exit ?_| refine bx_ret ?_| refine bx_here ?_| refine bx_exit rfl ?_))
  refine o_lcls rfl rfl (rfget0 _ _ _) ?_
  refine o_scls rfl rfl rfl (rfget2 _ _ _ _ _) rfl (rfset2 _ _ _ _ _ _) ?_
  repeat (first | (first| refine o_movd rfl rfl ?_| refine o_movp rfl rfl ?_| refine o_mova rfl rfl ?_| refine o_mov rfl rfl ?_| refine o_asgd rfl rfl ?_| refine o_asgo rfl rfl ?_| refine o_toInt rfl rfl (by (first | omega | (simp only [mm]; omega))) (by (first | omega | (simp only [mm]; omega))) ?_| refine o_lssn rfl rfl rfl ?_| refine o_addkn rfl rfl rfl (by decide) (by (first | omega | (simp only [mm]; omega))) ?_| refine o_cat rfl rfl rfl (by (first | omega | (simp only [mm]; omega))) ?_| refine o_add rfl rfl rfl (by omega) (by omega) ?_| refine op_nil ?_| refine o_bin rfl rfl rfl rfl ?_) | (first| refine wp_seq ?_| refine wp_ops ?_| refine wp_keep ?_| refine keepN (by (simp +decide only [Slots.keep, Slots.get, reduceIte]); exact rfl) ?_| refine wp_block ?_| refine wp_skip ?_| refine wp_ret ?_| refine wp_exit ?_| refine bx_ret ?_| refine bx_here ?_| refine bx_exit rfl ?_))
  refine end_cls rfl rfl rfl (rfget2 _ _ _ _ _) (by simp)
def notTo (n : Nat) : Nat → Nat
 | 0 => 0
 | i + 1 => if n.testBit i then notTo n i else notTo n i ||| 2 ^ i
theorem notTo_bit (n i c : Nat) : (notTo n i).testBit c = (decide (c < i) && !n.testBit c) := by
 induction i with
 | zero => simp [notTo]
 | succ i ih =>
   simp only [notTo]
   by_cases h : n.testBit i
   ·rw [if_pos h, ih]
    by_cases hc : i = c
    ·subst hc; simp [h]
    ·rw [show decide (c < i + 1) = decide (c < i) by rw [Bool.eq_iff_iff]; simp; omega]
   ·rw [if_neg h, Nat.testBit_or, ih, Nat.testBit_two_pow]
    by_cases hc : i = c
    ·subst hc; simp [h]
    ·rw [show decide (c < i + 1) = decide (c < i) by rw [Bool.eq_iff_iff]; simp; omega]
     simp [hc]
theorem notTo_all (n : Nat) : notTo n 256 = notN n := by
 apply Nat.eq_of_testBit_eq
 intro i
 rw [notTo_bit, notN_bit]
theorem rNot_ev (n : Nat) (rf : Refs) : Ev T f_ref04_Not [cls n] rf (.ret (cls (notN n))) rf := by
 rw [← notTo_all n]
 refine ev_callB rfl rfl ?_
 repeat (first | (first| refine o_movd rfl rfl ?_| refine o_movp rfl rfl ?_| refine o_mova rfl rfl ?_| refine o_mov rfl rfl ?_| refine o_asgd rfl rfl ?_| refine o_asgo rfl rfl ?_| refine o_toInt rfl rfl (by (first | omega | (simp only [mm]; omega))) (by (first | omega | (simp only [mm]; omega))) ?_| refine o_lssn rfl rfl rfl ?_| refine o_not rfl rfl ?_| refine o_addkn rfl rfl rfl (by decide) (by (first | omega | (simp only [mm]; omega))) ?_| refine o_cat rfl rfl rfl (by (first | omega | (simp only [mm]; omega))) ?_| refine o_add rfl rfl rfl (by omega) (by omega) ?_| refine op_nil ?_| refine o_bin rfl rfl rfl rfl ?_) | (first| refine wp_seq ?_| refine wp_ops ?_| refine wp_keep ?_| refine keepN (by (simp +decide only [Slots.keep, Slots.get, reduceIte]); exact rfl) ?_| refine wp_block ?_| refine wp_skip ?_| refine wp_ret ?_| refine wp_exit ?_| refine bx_ret ?_| refine bx_here ?_| refine bx_exit rfl ?_))
 refine o_box (cs := clsC n) rfl rfl rfl rfl ?_
 refine o_alloc rfl ?_
 repeat (first | (first| refine o_movd rfl rfl ?_| refine o_movp rfl rfl ?_| refine o_mova rfl rfl ?_| refine o_mov rfl rfl ?_| refine o_asgd rfl rfl ?_| refine o_asgo rfl rfl ?_| refine o_toInt rfl rfl (by (first | omega | (simp only [mm]; omega))) (by (first | omega | (simp only [mm]; omega))) ?_| refine o_lssn rfl rfl rfl ?_| refine o_not rfl rfl ?_| refine o_addkn rfl rfl rfl (by decide) (by (first | omega | (simp only [mm]; omega))) ?_| refine o_cat rfl rfl rfl (by (first | omega | (simp only [mm]; omega))) ?_| refine o_add rfl rfl rfl (by omega) (by omega) ?_| refine op_nil ?_| refine o_bin rfl rfl rfl rfl ?_) | (first| refine wp_seq ?_| refine wp_ops ?_| refine wp_keep ?_| refine keepN (by (simp +decide only [Slots.keep, Slots.get, reduceIte]); exact rfl) ?_| refine wp_block ?_| refine wp_skip ?_| refine wp_ret ?_| refine wp_exit ?_| refine bx_ret ?_| refine bx_here ?_| refine bx_exit rfl ?_))
 refine o_build (cs := clsC 0) rfl rfl ?_
 refine o_alloc rfl ?_
 simp only [List.length_append, List.length_cons, List.length_nil, List.append_assoc, List.cons_append, List.nil_append, Nat.zero_add, Nat.add_assoc, Nat.reduceAdd]
 refine o_scls (k := 0) rfl rfl rfl (rfget2 _ _ _ _ _) rfl (rfset2 _ _ _ _ _ _) ?_
 repeat (first | (first| refine o_movd rfl rfl ?_| refine o_movp rfl rfl ?_| refine o_mova rfl rfl ?_| refine o_mov rfl rfl ?_| refine o_asgd rfl rfl ?_| refine o_asgo rfl rfl ?_| refine o_toInt rfl rfl (by (first | omega | (simp only [mm]; omega))) (by (first | omega | (simp only [mm]; omega))) ?_| refine o_lssn rfl rfl rfl ?_| refine o_not rfl rfl ?_| refine o_addkn rfl rfl rfl (by decide) (by (first | omega | (simp only [mm]; omega))) ?_| refine o_cat rfl rfl rfl (by (first | omega | (simp only [mm]; omega))) ?_| refine o_add rfl rfl rfl (by omega) (by omega) ?_| refine op_nil ?_| refine o_bin rfl rfl rfl rfl ?_) | (first| refine wp_seq ?_| refine wp_ops ?_| refine wp_keep ?_| refine keepN (by (simp +decide only [Slots.keep, Slots.get, reduceIte]); exact rfl) ?_| refine wp_block ?_| refine wp_skip ?_| refine wp_ret ?_| refine wp_exit ?_| refine bx_ret ?_| refine bx_here ?_| refine bx_exit rfl ?_))
 refine wp_loop (m := 256) (fun k st => ∃ i : Nat, i + k = 256 ∧ st = ⟨[(1, .ptr rf.length 0), (2, .ptr (rf.length + 1) 0), (3, .ptr (rf.length + 2) 0), (4, i64 i)], rf ++ [clsC n, z4, clsC (notTo n i)], [], none, rf.length⟩) ⟨0, by omega, rfl⟩ ?_
 rintro k st ⟨i, hik, rfl⟩ -
 repeat (first | (first| refine o_movd rfl rfl ?_| refine o_movp rfl rfl ?_| refine o_mova rfl rfl ?_| refine o_mov rfl rfl ?_| refine o_asgd rfl rfl ?_| refine o_asgo rfl rfl ?_| refine o_toInt rfl rfl (by (first | omega | (simp only [mm]; omega))) (by (first | omega | (simp only [mm]; omega))) ?_| refine o_lssn rfl rfl rfl ?_| refine o_not rfl rfl ?_| refine o_addkn rfl rfl rfl (by decide) (by (first | omega | (simp only [mm]; omega))) ?_| refine o_cat rfl rfl rfl (by (first | omega | (simp only [mm]; omega))) ?_| refine o_add rfl rfl rfl (by omega) (by omega) ?_| refine op_nil ?_| refine o_bin rfl rfl rfl rfl ?_) | (first| refine wp_seq ?_| refine wp_ops ?_| refine wp_keep ?_| refine keepN (by (simp +decide only [Slots.keep, Slots.get, reduceIte]); exact rfl) ?_| refine wp_block ?_| refine wp_skip ?_| refine wp_ret ?_| refine wp_exit ?_| refine bx_ret ?_| refine bx_here ?_| refine bx_exit rfl ?_))
 refine wp_if rfl ?_ ?_ <;> intro hi
 ·have hs : notTo n (i + 1) = if n.testBit i then notTo n i else notTo n i ||| 2 ^ i := rfl
  have hH := fun rf => rHas_ev (T := T) n i hi rf
  repeat (first | (first| refine o_movd rfl rfl ?_| refine o_movp rfl rfl ?_| refine o_mova rfl rfl ?_| refine o_mov rfl rfl ?_| refine o_asgd rfl rfl ?_| refine o_asgo rfl rfl ?_| refine o_toInt rfl rfl (by (first | omega | (simp only [mm]; omega))) (by (first | omega | (simp only [mm]; omega))) ?_| refine o_lssn rfl rfl rfl ?_| refine o_not rfl rfl ?_| refine o_addkn rfl rfl rfl (by decide) (by (first | omega | (simp only [mm]; omega))) ?_| refine o_cat rfl rfl rfl (by (first | omega | (simp only [mm]; omega))) ?_| refine o_add rfl rfl rfl (by omega) (by omega) ?_| refine op_nil ?_| refine o_bin rfl rfl rfl rfl ?_) | (first| refine wp_seq ?_| refine wp_ops ?_| refine wp_keep ?_| refine keepN (by (simp +decide only [Slots.keep, Slots.get, reduceIte]); exact rfl) ?_| refine wp_block ?_| refine wp_skip ?_| refine wp_ret ?_| refine wp_exit ?_| refine bx_ret ?_| refine bx_here ?_| refine bx_exit rfl ?_))
  refine o_lcls rfl rfl (rfget0 _ _ _) ?_
  repeat (first | (first| refine o_movd rfl rfl ?_| refine o_movp rfl rfl ?_| refine o_mova rfl rfl ?_| refine o_mov rfl rfl ?_| refine o_asgd rfl rfl ?_| refine o_asgo rfl rfl ?_| refine o_toInt rfl rfl (by (first | omega | (simp only [mm]; omega))) (by (first | omega | (simp only [mm]; omega))) ?_| refine o_lssn rfl rfl rfl ?_| refine o_not rfl rfl ?_| refine o_addkn rfl rfl rfl (by decide) (by (first | omega | (simp only [mm]; omega))) ?_| refine o_cat rfl rfl rfl (by (first | omega | (simp only [mm]; omega))) ?_| refine o_add rfl rfl rfl (by omega) (by omega) ?_| refine op_nil ?_| refine o_bin rfl rfl rfl rfl ?_) | (first| refine wp_seq ?_| refine wp_ops ?_| refine wp_keep ?_| refine keepN (by (simp +decide only [Slots.keep, Slots.get, reduceIte]); exact rfl) ?_| refine wp_block ?_| refine wp_skip ?_| refine wp_ret ?_| refine wp_exit ?_| refine bx_ret ?_| refine bx_here ?_| refine bx_exit rfl ?_))
  refine o_call rfl rfl rfl (hH _) ?_
  cases hx : n.testBit i
  ·rw [hx] at hs
   repeat (first | (first| refine o_movd rfl rfl ?_| refine o_movp rfl rfl ?_| refine o_mova rfl rfl ?_| refine o_mov rfl rfl ?_| refine o_asgd rfl rfl ?_| refine o_asgo rfl rfl ?_| refine o_toInt rfl rfl (by (first | omega | (simp only [mm]; omega))) (by (first | omega | (simp only [mm]; omega))) ?_| refine o_lssn rfl rfl rfl ?_| refine o_not rfl rfl ?_| refine o_addkn rfl rfl rfl (by decide) (by (first | omega | (simp only [mm]; omega))) ?_| refine o_cat rfl rfl rfl (by (first | omega | (simp only [mm]; omega))) ?_| refine o_add rfl rfl rfl (by omega) (by omega) ?_| refine op_nil ?_| refine o_bin rfl rfl rfl rfl ?_) | (first| refine wp_seq ?_| refine wp_ops ?_| refine wp_keep ?_| refine keepN (by (simp +decide only [Slots.keep, Slots.get, reduceIte]); exact rfl) ?_| refine wp_block ?_| refine wp_skip ?_| refine wp_ret ?_| refine wp_exit ?_| refine bx_ret ?_| refine bx_here ?_| refine bx_exit rfl ?_))
   refine wp_cond (b := true) rfl (fun _ => ?_) (fun h => absurd h (by decide))
   repeat (first | (first| refine o_movd rfl rfl ?_| refine o_movp rfl rfl ?_| refine o_mova rfl rfl ?_| refine o_mov rfl rfl ?_| refine o_asgd rfl rfl ?_| refine o_asgo rfl rfl ?_| refine o_toInt rfl rfl (by (first | omega | (simp only [mm]; omega))) (by (first | omega | (simp only [mm]; omega))) ?_| refine o_lssn rfl rfl rfl ?_| refine o_not rfl rfl ?_| refine o_addkn rfl rfl rfl (by decide) (by (first | omega | (simp only [mm]; omega))) ?_| refine o_cat rfl rfl rfl (by (first | omega | (simp only [mm]; omega))) ?_| refine o_add rfl rfl rfl (by omega) (by omega) ?_| refine op_nil ?_| refine o_bin rfl rfl rfl rfl ?_) | (first| refine wp_seq ?_| refine wp_ops ?_| refine wp_keep ?_| refine keepN (by (simp +decide only [Slots.keep, Slots.get, reduceIte]); exact rfl) ?_| refine wp_block ?_| refine wp_skip ?_| refine wp_ret ?_| refine wp_exit ?_| refine bx_ret ?_| refine bx_here ?_| refine bx_exit rfl ?_))
   refine o_lcls rfl rfl (rfget2 _ _ _ _ _) ?_
   repeat (first | (first| refine o_movd rfl rfl ?_| refine o_movp rfl rfl ?_| refine o_mova rfl rfl ?_| refine o_mov rfl rfl ?_| refine o_asgd rfl rfl ?_| refine o_asgo rfl rfl ?_| refine o_toInt rfl rfl (by (first | omega | (simp only [mm]; omega))) (by (first | omega | (simp only [mm]; omega))) ?_| refine o_lssn rfl rfl rfl ?_| refine o_not rfl rfl ?_| refine o_addkn rfl rfl rfl (by decide) (by (first | omega | (simp only [mm]; omega))) ?_| refine o_cat rfl rfl rfl (by (first | omega | (simp only [mm]; omega))) ?_| refine o_add rfl rfl rfl (by omega) (by omega) ?_| refine op_nil ?_| refine o_bin rfl rfl rfl rfl ?_) | (first| refine wp_seq ?_| refine wp_ops ?_| refine wp_keep ?_| refine keepN (by (simp +decide only [Slots.keep, Slots.get, reduceIte]); exact rfl) ?_| refine wp_block ?_| refine wp_skip ?_| refine wp_ret ?_| refine wp_exit ?_| refine bx_ret ?_| refine bx_here ?_| refine bx_exit rfl ?_))
   refine o_call rfl rfl rfl (with_ev _ _ hi _) ?_
   refine o_scls rfl rfl rfl (rfget2 _ _ _ _ _) rfl (rfset2 _ _ _ _ _ _) ?_
   repeat (first | (first| refine o_movd rfl rfl ?_| refine o_movp rfl rfl ?_| refine o_mova rfl rfl ?_| refine o_mov rfl rfl ?_| refine o_asgd rfl rfl ?_| refine o_asgo rfl rfl ?_| refine o_toInt rfl rfl (by (first | omega | (simp only [mm]; omega))) (by (first | omega | (simp only [mm]; omega))) ?_| refine o_lssn rfl rfl rfl ?_| refine o_not rfl rfl ?_| refine o_addkn rfl rfl rfl (by decide) (by (first | omega | (simp only [mm]; omega))) ?_| refine o_cat rfl rfl rfl (by (first | omega | (simp only [mm]; omega))) ?_| refine o_add rfl rfl rfl (by omega) (by omega) ?_| refine op_nil ?_| refine o_bin rfl rfl rfl rfl ?_) | (first| refine wp_seq ?_| refine wp_ops ?_| refine wp_keep ?_| refine keepN (by (simp +decide only [Slots.keep, Slots.get, reduceIte]); exact rfl) ?_| refine wp_block ?_| refine wp_skip ?_| refine wp_ret ?_| refine wp_exit ?_| refine bx_ret ?_| refine bx_here ?_| refine bx_exit rfl ?_))
   refine ⟨by simp, k - 1, by omega, i + 1, by omega, ?_⟩
   rw [hs]; rfl
  ·rw [hx] at hs
   repeat (first | (first| refine o_movd rfl rfl ?_| refine o_movp rfl rfl ?_| refine o_mova rfl rfl ?_| refine o_mov rfl rfl ?_| refine o_asgd rfl rfl ?_| refine o_asgo rfl rfl ?_| refine o_toInt rfl rfl (by (first | omega | (simp only [mm]; omega))) (by (first | omega | (simp only [mm]; omega))) ?_| refine o_lssn rfl rfl rfl ?_| refine o_not rfl rfl ?_| refine o_addkn rfl rfl rfl (by decide) (by (first | omega | (simp only [mm]; omega))) ?_| refine o_cat rfl rfl rfl (by (first | omega | (simp only [mm]; omega))) ?_| refine o_add rfl rfl rfl (by omega) (by omega) ?_| refine op_nil ?_| refine o_bin rfl rfl rfl rfl ?_) | (first| refine wp_seq ?_| refine wp_ops ?_| refine wp_keep ?_| refine keepN (by (simp +decide only [Slots.keep, Slots.get, reduceIte]); exact rfl) ?_| refine wp_block ?_| refine wp_skip ?_| refine wp_ret ?_| refine wp_exit ?_| refine bx_ret ?_| refine bx_here ?_| refine bx_exit rfl ?_))
   refine wp_cond (b := false) rfl (fun h => absurd h (by decide)) (fun _ => ?_)
   repeat (first | (first| refine o_movd rfl rfl ?_| refine o_movp rfl rfl ?_| refine o_mova rfl rfl ?_| refine o_mov rfl rfl ?_| refine o_asgd rfl rfl ?_| refine o_asgo rfl rfl ?_| refine o_toInt rfl rfl (by (first | omega | (simp only [mm]; omega))) (by (first | omega | (simp only [mm]; omega))) ?_| refine o_lssn rfl rfl rfl ?_| refine o_not rfl rfl ?_| refine o_addkn rfl rfl rfl (by decide) (by (first | omega | (simp only [mm]; omega))) ?_| refine o_cat rfl rfl rfl (by (first | omega | (simp only [mm]; omega))) ?_| refine o_add rfl rfl rfl (by omega) (by omega) ?_| refine op_nil ?_| refine o_bin rfl rfl rfl rfl ?_) | (first| refine wp_seq ?_| refine wp_ops ?_| refine wp_keep ?_| refine keepN (by (simp +decide only [Slots.keep, Slots.get, reduceIte]); exact rfl) ?_| refine wp_block ?_| refine wp_skip ?_| refine wp_ret ?_| refine wp_exit ?_| refine bx_ret ?_| refine bx_here ?_| refine bx_exit rfl ?_))
   refine ⟨by simp, k - 1, by omega, i + 1, by omega, ?_⟩
   rw [hs]; rfl
 ·have : i = 256 := by omega
  subst this
  repeat (first | (first| refine o_movd rfl rfl ?_| refine o_movp rfl rfl ?_| refine o_mova rfl rfl ?_| refine o_mov rfl rfl ?_| refine o_asgd rfl rfl ?_| refine o_asgo rfl rfl ?_| refine o_toInt rfl rfl (by (first | omega | (simp only [mm]; omega))) (by (first | omega | (simp only [mm]; omega))) ?_| refine o_lssn rfl rfl rfl ?_| refine o_not rfl rfl ?_| refine o_addkn rfl rfl rfl (by decide) (by (first | omega | (simp only [mm]; omega))) ?_| refine o_cat rfl rfl rfl (by (first | omega | (simp only [mm]; omega))) ?_| refine o_add rfl rfl rfl (by omega) (by omega) ?_| refine op_nil ?_| refine o_bin rfl rfl rfl rfl ?_) | (first| refine wp_seq ?_| refine wp_ops ?_| refine wp_keep ?_| refine keepN (by (simp +decide only [Slots.keep, Slots.get, reduceIte]); exact rfl) ?_| refine wp_block ?_| refine wp_skip ?_| refine wp_ret ?_| refine wp_exit ?_| refine bx_ret ?_| refine bx_here ?_| refine bx_exit rfl ?_))
  refine o_lcls rfl rfl (rfget2 _ _ _ _ _) ?_
  refine o_scls rfl rfl rfl (rfget1 _ _ _ _) rfl (rfset1 _ _ _ _ _) ?_
  repeat (first | (first| refine o_movd rfl rfl ?_| refine o_movp rfl rfl ?_| refine o_mova rfl rfl ?_| refine o_mov rfl rfl ?_| refine o_asgd rfl rfl ?_| refine o_asgo rfl rfl ?_| refine o_toInt rfl rfl (by (first | omega | (simp only [mm]; omega))) (by (first | omega | (simp only [mm]; omega))) ?_| refine o_lssn rfl rfl rfl ?_| refine o_not rfl rfl ?_| refine o_addkn rfl rfl rfl (by decide) (by (first | omega | (simp only [mm]; omega))) ?_| refine o_cat rfl rfl rfl (by (first | omega | (simp only [mm]; omega))) ?_| refine o_add rfl rfl rfl (by omega) (by omega) ?_| refine op_nil ?_| refine o_bin rfl rfl rfl rfl ?_) | (first| refine wp_seq ?_| refine wp_ops ?_| refine wp_keep ?_| refine keepN (by (simp +decide only [Slots.keep, Slots.get, reduceIte]); exact rfl) ?_| refine wp_block ?_| refine wp_skip ?_| refine wp_ret ?_| refine wp_exit ?_| refine bx_ret ?_| refine bx_here ?_| refine bx_exit rfl ?_))
  refine end_cls rfl rfl rfl (rfget1 _ _ _ _) (by simp)
end Go.Ab.R05
namespace Go.Ab.R05
set_option maxRecDepth 100000
set_option linter.all false
set_option maxHeartbeats 4000000
variable {T : Tb} [hT : Base T]
def hit (s : List UInt8) (i c : Nat) : Bool :=
 match s[i]? with
 | some b => decide (b.toNat = c)
 | none => false
theorem hit_none {s : List UInt8} {i c : Nat} (h : s.length ≤ i) : hit s i c = false := by
 unfold hit; rw [List.getElem?_eq_none h]
theorem hit_some {s : List UInt8} {i c : Nat} {b : UInt8} (h : s[i]? = some b) : hit s i c = decide (b.toNat = c) := by
 unfold hit; rw [h]
def itm (s : List UInt8) (i : Nat) : Option (Nat × Nat × Nat) :=
 match sign (s.drop i) with
 | none => none
 | some (a, n) =>
   if hit s (i + n) 45 then
    match sign (s.drop (i + n + 1)) with
    | none => none
    | some (b, m) => if b < a then none else some (a, b, i + n + 1 + m)
   else some (a, a, i + n)
def itms (s : List UInt8) : Nat → Nat → Nat → Option (Nat × Nat)
 | 0, _, _ => none
 | f + 1, i, k =>
   match itm s i with
   | none => none
   | some (a, b, j) => if hit s j 93 then some (k ||| spanN a (b + 1 - a), j + 1) else itms s f j (k ||| spanN a (b + 1 - a))
def readS (s : List UInt8) : Option (Nat × Nat) :=
 if hit s 0 91 then
  match itms s s.length (if hit s 1 94 then 2 else 1) 0 with
  | none => none
  | some (k, i) => some (if hit s 1 94 then notN (k ||| spanN 10 1) else k, i)
 else none
def readA : Option (Nat × Nat) → AV
 | none => .tup [cls 0, i64 (0 : Nat), i64 (2 : Nat)]
 | some (k, n) => .tup [cls k, i64 n, i64 (0 : Nat)]
theorem digit_le (c : Nat) (h : 0 ≤ digit c) : (digit c).toNat < 16 := by have := @digit_lt c; omega
theorem sign_len {s : List UInt8} {a n : Nat} (h : sign s = some (a, n)) : 1 ≤ n ∧ n ≤ s.length ∧ a < 256 := by
 unfold sign at h
 rcases h0 : s[0]? with _ | c
 ·rw [h0] at h; cases h
 have l0 := (List.getElem?_eq_some_iff.1 h0).1
 have hc := c.toNat_lt
 rw [h0] at h
 simp only at h
 split at h
 ·split at h
  ·cases h
  ·cases h; omega
 ·rcases h1 : s[1]? with _ | e
  ·rw [h1] at h; cases h
  have l1 := (List.getElem?_eq_some_iff.1 h1).1
  have he := e.toNat_lt
  rw [h1] at h
  simp only at h
  split at h
  ·cases h; omega
  ·rcases h2 : s[2]? with _ | x
   ·rw [h2] at h; cases h
   rcases h3 : s[3]? with _ | y
   ·rw [h2, h3] at h; cases h
   have l3 := (List.getElem?_eq_some_iff.1 h3).1
   rw [h2, h3] at h
   simp only at h
   split at h
   ·rename_i hh
    have := digit_le _ hh.2.1
    have := digit_le _ hh.2.2
    cases h; omega
   ·cases h
theorem sign_drop {s : List UInt8} {i a n : Nat} (h : sign (s.drop i) = some (a, n)) : 1 ≤ n ∧ i + n ≤ s.length ∧ a < 256 := by
 have := sign_len h
 rw [List.length_drop] at this
 omega
theorem itm_len {s : List UInt8} {i a b j : Nat} (h : itm s i = some (a, b, j)) : i < j ∧ j ≤ s.length ∧ a ≤ b ∧ b < 256 := by
 unfold itm at h
 rcases h1 : sign (s.drop i) with _ | ⟨x, n⟩
 ·rw [h1] at h; cases h
 have l1 := sign_drop h1
 rw [h1] at h
 simp only at h
 split at h
 ·rcases h2 : sign (s.drop (i + n + 1)) with _ | ⟨y, m⟩
  ·rw [h2] at h; cases h
  have l2 := sign_drop h2
  rw [h2] at h
  simp only at h
  split at h
  ·cases h
  ·cases h; omega
 ·cases h; omega
theorem sign_nil : sign [] = none := rfl
theorem itm_end {s : List UInt8} {i : Nat} (h : s.length ≤ i) : itm s i = none := by
 unfold itm; rw [List.drop_eq_nil_of_le h, sign_nil]
theorem itms_step {s : List UInt8} {f i k : Nat} (h : s.length ≤ i + f) : itms s f i k = match itm s i with
  | none => none
  | some (a, b, j) => if hit s j 93 then some (k ||| spanN a (b + 1 - a), j + 1) else itms s (f - 1) j (k ||| spanN a (b + 1 - a)) := by
 cases f with
 | zero => rw [itm_end (by omega)]; rfl
 | succ f => rfl
theorem spanN_lt (a k : Nat) (h : a + k ≤ 256) : spanN a k < 2 ^ 256 := by
 apply Nat.lt_pow_two_of_testBit
 intro i hi
 rw [spanN_bit]
 simp; omega
theorem spanN_one (a : Nat) : spanN a (a + 1 - a) = 2 ^ a := by
 rw [show a + 1 - a = 1 by omega]; simp [spanN]
theorem hit_lt {s : List UInt8} {i c : Nat} (h : hit s i c = true) : i < s.length := by
 by_cases h' : i < s.length
 ·exact h'
 ·rw [hit_none (by omega)] at h; cases h
theorem itms_fuel {s : List UInt8} : ∀ {f f' i k : Nat}, s.length ≤ i + f → s.length ≤ i + f' → itms s f i k = itms s f' i k
 | 0, f', i, k, h, h' => by rw [itms_step h, itms_step h', itm_end (by omega)]
 | f + 1, f', i, k, h, h' => by
   rw [itms_step h, itms_step h']
   rcases hi : itm s i with _ | ⟨a, b, j⟩
   ·rfl
   ·have := itm_len hi
    simp only
    rw [itms_fuel (f := f + 1 - 1) (f' := f' - 1) (by omega) (by omega)]
def itmsW (s : List UInt8) (i k : Nat) : Option (Nat × Nat) := itms s s.length i k
theorem itmsW_step {s : List UInt8} {i k : Nat} : itmsW s i k = match itm s i with
  | none => none
  | some (a, b, j) => if hit s j 93 then some (k ||| spanN a (b + 1 - a), j + 1) else itmsW s j (k ||| spanN a (b + 1 - a)) := by
 unfold itmsW
 rw [itms_step (by omega)]
 rcases hi : itm s i with _ | ⟨a, b, j⟩
 ·rfl
 ·have := itm_len hi
  simp only
  rw [itms_fuel (f := s.length - 1) (f' := s.length) (by omega) (by omega)]
theorem w_none {s : List UInt8} {i k : Nat} (h : sign (s.drop i) = none) : itmsW s i k = none := by rw [itmsW_step]; unfold itm; rw [h]
theorem w_two_none {s : List UInt8} {i k a n : Nat} (h : sign (s.drop i) = some (a, n)) (hh : hit s (i + n) 45 = true) (h2 : sign (s.drop (i + n + 1)) = none) : itmsW s i k = none := by
 rw [itmsW_step]; unfold itm; rw [h]; simp only [hh, if_true]; rw [h2]
theorem w_two_bad {s : List UInt8} {i k a n b m : Nat} (h : sign (s.drop i) = some (a, n)) (hh : hit s (i + n) 45 = true) (h2 : sign (s.drop (i + n + 1)) = some (b, m)) (hb : b < a) : itmsW s i k = none := by
 rw [itmsW_step]; unfold itm; rw [h]; simp only [hh, if_true]; rw [h2]; simp only [hb, if_true]
theorem w_two {s : List UInt8} {i k a n b m : Nat} (h : sign (s.drop i) = some (a, n)) (hh : hit s (i + n) 45 = true) (h2 : sign (s.drop (i + n + 1)) = some (b, m)) (hb : ¬ b < a) :
  itmsW s i k = if hit s (i + n + 1 + m) 93 then some (k ||| spanN a (b + 1 - a), i + n + 1 + m + 1) else itmsW s (i + n + 1 + m) (k ||| spanN a (b + 1 - a)) := by
 rw [itmsW_step]; unfold itm; rw [h]; simp only [hh, if_true]; rw [h2]; simp only [hb, if_false]
theorem w_one {s : List UInt8} {i k a n : Nat} (h : sign (s.drop i) = some (a, n)) (hh : hit s (i + n) 45 = false) :
  itmsW s i k = if hit s (i + n) 93 then some (k ||| spanN a (a + 1 - a), i + n + 1) else itmsW s (i + n) (k ||| spanN a (a + 1 - a)) := by
 rw [itmsW_step]; unfold itm; rw [h]; simp only [hh, Bool.false_eq_true, if_false]
def fin (b : Bool) : Option (Nat × Nat) → Option (Nat × Nat)
 | none => none
 | some (k, i) => some (if b then notN (k ||| spanN 10 1) else k, i)
theorem readS_eq {s : List UInt8} (h : hit s 0 91 = true) : readS s = fin (hit s 1 94) (itmsW s (if hit s 1 94 then 2 else 1) 0) := by
 unfold readS; rw [if_pos h]; unfold fin itmsW
 rcases itms s s.length (if hit s 1 94 then 2 else 1) 0 with _ | ⟨k, i⟩ <;> rfl
theorem readS_no {s : List UInt8} (h : hit s 0 91 = false) : readS s = none := by unfold readS; rw [h]; rfl
def nx (s : List UInt8) (j i k : Nat) : Option (Nat × Nat) := if 0 < j ∧ hit s i 93 = true then some (k, i + 1) else itmsW s i k
theorem nx_end {s : List UInt8} {j i k : Nat} (hj : 0 < j) (h : hit s i 93 = true) : nx s j i k = some (k, i + 1) := if_pos ⟨hj, h⟩
theorem nx_0 {s : List UInt8} {j i k : Nat} (hj : ¬ 0 < j) : nx s j i k = itmsW s i k := if_neg fun h => hj h.1
theorem nx_go {s : List UInt8} {j i k : Nat} (h : hit s i 93 = false) : nx s j i k = itmsW s i k := if_neg fun h' => by rw [h] at h'; cases h'.2
theorem nx_w {s : List UInt8} {j i k : Nat} (hj : 0 < j) : nx s j i k = if hit s i 93 then some (k, i + 1) else itmsW s i k := by
 unfold nx; simp [hj]
theorem itms_len {s : List UInt8} : ∀ {f i k k' j : Nat}, itms s f i k = some (k', j) → i < j ∧ j ≤ s.length
 | 0, i, k, k', j, h => by cases h
 | f + 1, i, k, k', j, h => by
   unfold itms at h
   rcases hi : itm s i with _ | ⟨a, b, m⟩
   ·rw [hi] at h; cases h
   ·rw [hi] at h
    have hl := itm_len hi
    simp only at h
    split at h
    ·rename_i hh
     have := hit_lt hh
     cases h; omega
    ·have := itms_len h; omega
theorem readS_len {s : List UInt8} {k n : Nat} (h : readS s = some (k, n)) : 1 ≤ n ∧ n ≤ s.length := by
 cases h0 : hit s 0 91
 ·rw [readS_no h0] at h; cases h
 ·rw [readS_eq h0] at h
  unfold itmsW at h
  rcases hi : itms s s.length (if hit s 1 94 then 2 else 1) 0 with _ | ⟨a, m⟩
  ·rw [hi] at h; cases h
  ·rw [hi] at h
   have := itms_len hi
   simp only [fin, Option.some.injEq, Prod.mk.injEq] at h
   omega
theorem takes_ev (s : List UInt8) (i c : Nat) (hi : i < 2 ^ 40) (hc : c < 256) :
  Ev T f_class_Read_1 [u8 c, .ptr 1 0, .ptr 0 0] [[str s], [i64 i]] (.ret (bl (hit s i c))) [[str s], [i64 (if hit s i c then i + 1 else i : Nat)]] := by
 refine ev_fn rfl rfl ?_
 (repeat' (first| (intro (u_ : Unit); clear u_)| refine condT ?_| refine condF ?_| refine condp (by assumption) ?_| refine condn (by assumption) ?_| refine condN ?_| refine idxSb (by assumption) ?_| (refine condD ?_ ?_ <;> intro hq_ <;> first | (exfalso; omega) | skip)| (refine idxS (by omega) ?_; intro b_ hb_; have hl_ := b_.toNat_lt)| refine wrA (by omega) ?_| refine wrS (by omega) (by omega) ?_| refine wrI (by omega) (by omega) ?_| refine wrBA (by omega) ?_| refine wrB (by omega) (by omega) ?_| refine strC (by omega) ?_| refine nilB rfl ?_))
 ·rw [hit_some hb_]; refine ⟨?_, ?_⟩ <;> simp [Int.ofNat_inj.1 hq_]
 ·rw [hit_some hb_]; have hne : ¬ b_.toNat = c := fun e => hq_ (by rw [e]); rw [decide_eq_false hne, decide_eq_false hq_]; exact ⟨rfl, rfl⟩
 ·rw [hit_none (by omega)]; exact ⟨rfl, rfl⟩
section
variable {rf : Refs} {k : Out → Refs → Prop}
theorem takesE {s : List UInt8} {i c : Nat} {A B : List AV} (hi : i < 2 ^ 40) (hc : c < 256) (h1 : hit s i c = true → i < s.length → k (.ret (bl true)) [[str s], A, B, [i64 (i + 1 : Nat)]]) (h2 : hit s i c = false → k (.ret (bl false)) [[str s], A, B, [i64 i]]) :
  CallE T f_class_Read_1 [u8 c, .ptr 3 0, .ptr 0 0] [[str s], A, B, [i64 i]] k := by
 refine callE_at [0, 3] (takes_ev s i c hi hc) rfl rfl rfl rfl rfl ?_
 cases h : hit s i c
 ·exact h2 h
 ·exact h1 h (hit_lt h)
theorem signE {s : List UInt8} (h0 : sign s = none → k (.ret (.tup [u8 0, i64 (0 : Nat), i64 (2 : Nat)])) rf) (h1 : ∀ a n : Nat, sign s = some (a, n) → a < 256 → 1 ≤ n → n ≤ s.length → k (.ret (.tup [u8 a, i64 n, i64 (0 : Nat)])) rf) : CallE T f_class_Sign [str s] rf k := by
 refine callE_ev (Sign_ev s rf) ?_
 rcases h : sign s with _ | ⟨a, n⟩
 ·exact h0 h
 ·have := sign_len h; exact h1 a n h this.2.2 this.1 this.2.1
theorem rsignE {s : List UInt8} (h0 : sign s = none → k (.ret (.tup [u8 0, i64 (0 : Nat), i64 (2 : Nat)])) rf) (h1 : ∀ a n : Nat, sign s = some (a, n) → a < 256 → 1 ≤ n → n ≤ s.length → k (.ret (.tup [u8 a, i64 n, i64 (0 : Nat)])) rf) : CallE T f_ref04_Sign [str s] rf k := by
 refine callE_ev (rSign_ev s rf) ?_
 rcases h : sign s with _ | ⟨a, n⟩
 ·exact h0 h
 ·have := sign_len h; exact h1 a n h this.2.2 this.1 this.2.1
end
theorem readA_none : readA none = .tup [cls 0, i64 (0 : Nat), i64 (2 : Nat)] := rfl
theorem Read_ev (s : List UInt8) (hs : s.length < 2 ^ 38) (rf : Refs) : Ev T f_class_Read [str s] rf (.ret (readA (readS s))) rf := by
 refine Ev.any ?_ rfl rf
 refine ev_fn rfl rfl ?_
 (repeat' (first| (intro (u_ : Unit); clear u_)| refine condT ?_| refine condF ?_| refine condp (by assumption) ?_| refine condn (by assumption) ?_| refine condN ?_| refine idxSb (by assumption) ?_| (refine takesE (by omega) (by omega) (fun hh_ hl_ => ?_) (fun hh_ => ?_))| (refine condD ?_ ?_ <;> intro hq_ <;> first | (exfalso; omega) | skip)| (refine idxS (by omega) ?_; intro b_ hb_; have hl_ := b_.toNat_lt)| refine wrA (by omega) ?_| refine wrS (by omega) (by omega) ?_| refine wrI (by omega) (by omega) ?_| refine wrBA (by omega) ?_| refine wrB (by omega) (by omega) ?_| refine strC (by omega) ?_| refine nilB rfl ?_))
 rotate_right
 ·rw [readS_no hh_]; exact ⟨rfl, rfl⟩
 all_goals
  have h91 : hit s 0 91 = true := by assumption
  have hR := readS_eq h91
  have hb1 : hit s 1 94 = _ := hh_
  rw [hb1] at hR
  simp only [if_true, Bool.false_eq_true, if_false] at hR
  refine loopR3 (fun _ _ j : Nat => [(9, i64 j)]) (fun i k _ => [(2, clsC k), (3, [i64 i])]) (fun i k j => s.length - i) (fun i k j => i ≤ s.length ∧ j ≤ i ∧ readS s = fin (hit s 1 94) (nx s j i k)) _ 0 0 ⟨?_, ?_, ?_⟩ (by rfl) (by rfl) ?_
  rotate_right
  ·rintro i k j ⟨hi, hj, hP⟩
   (repeat' (first| (intro (u_ : Unit); clear u_)| refine condT ?_| refine condF ?_| refine condp (by assumption) ?_| refine condn (by assumption) ?_| refine condN ?_| refine idxSb (by assumption) ?_| (refine takesE (by omega) (by omega) (fun hh_ hl_ => ?_) (fun hh_ => ?_))| refine subLo (by omega) ?_| refine signE (fun hs_ => ?_) (fun a_ n_ hs_ ha_ hn1_ hn2_ => ?_)| rw [List.length_drop] at hn2_| refine callE_ev (Span_ev _ _ (by omega) (by omega) _) ?_| refine callE_ev (One_ev 10 (by omega) _) ?_| refine callE_ev (Or_ev _ _ _) ?_| refine callE_ev (Not_ev _ _) ?_| (refine condD ?_ ?_ <;> intro hq_ <;> first | (exfalso; omega) | skip)| (refine idxS (by omega) ?_; intro b_ hb_; have hl_ := b_.toNat_lt)| refine wrA (by omega) ?_| refine wrS (by omega) (by omega) ?_| refine wrI (by omega) (by omega) ?_| refine wrBA (by omega) ?_| refine wrB (by omega) (by omega) ?_| refine strC (by omega) ?_| refine nilB rfl ?_))
   all_goals first
    | (rw [hP, nx_end (by omega) (by assumption), hb1]; exact ⟨rfl, rfl⟩)
    | (have hN : nx s j i k = itmsW s i k := (by first | exact nx_0 (by omega) | exact nx_go (by assumption))
       first
       | (rw [hP, hN, w_none (by assumption)]; exact ⟨rfl, rfl⟩)
       | (rw [hP, hN, w_two_none (by assumption) (by assumption) (by assumption)]; exact ⟨rfl, rfl⟩)
       | (rw [hP, hN, w_two_bad (by assumption) (by assumption) (by assumption) (by omega)]; exact ⟨rfl, rfl⟩)
       | exact ⟨_, _, j + 1, ⟨by omega, by omega, by rw [hP, hN, w_two (by assumption) (by assumption) (by assumption) (by omega), nx_w (by omega)]⟩, by omega, rfl, rfl, rfl, rfl⟩
       | exact ⟨_, _, j + 1, ⟨by omega, by omega, by rw [hP, hN, w_one (by assumption) (by assumption), nx_w (by omega)]⟩, by omega, rfl, rfl, rfl, rfl⟩)
  ·omega
  ·omega
  ·rw [nx_0 (by omega), hb1]; exact hR
theorem readE {s : List UInt8} {rf : Refs} {k : Out → Refs → Prop} (hs : s.length < 2 ^ 38) (h0 : readS s = none → k (.ret (.tup [cls 0, i64 (0 : Nat), i64 (2 : Nat)])) rf) (h1 : ∀ a n : Nat, readS s = some (a, n) → 1 ≤ n → n ≤ s.length → k (.ret (.tup [cls a, i64 n, i64 (0 : Nat)])) rf) : CallE T f_class_Read [str s] rf k := by
 refine callE_ev (Read_ev s hs rf) ?_
 rcases h : readS s with _ | ⟨a, n⟩
 ·exact h0 h
 ·have := readS_len h; exact h1 a n h this.1 this.2
end Go.Ab.R05
namespace Go.Ab.R05
set_option maxRecDepth 100000
set_option linter.all false
set_option maxHeartbeats 4000000
variable {T : Tb} [hT : Base T]
theorem hitT {s : List UInt8} {i c : Nat} {b : UInt8} (h : s[i]? = some b) (hb : (b.toNat : Int) = (c : Int)) : hit s i c = true := by rw [hit_some h]; exact decide_eq_true (by omega)
theorem hitF {s : List UInt8} {i c : Nat} {b : UInt8} (h : s[i]? = some b) (hb : (b.toNat : Int) ≠ (c : Int)) : hit s i c = false := by rw [hit_some h]; exact decide_eq_false (by omega)
theorem hitN {s : List UInt8} {i c : Nat} (h : ¬ (i : Int) < (s.length : Int)) : hit s i c = false := hit_none (by omega)
theorem itmsW_end {s : List UInt8} {i k : Nat} (h : s.length ≤ i) : itmsW s i k = none := by rw [itmsW_step, itm_end h]
theorem w_two_end {s : List UInt8} {i k a n b m : Nat} (h : sign (s.drop i) = some (a, n)) (hh : hit s (i + n) 45 = true) (h2 : sign (s.drop (i + n + 1)) = some (b, m)) (hb : ¬ b < a) (hl : s.length ≤ i + n + 1 + m) : itmsW s i k = none := by
 rw [w_two h hh h2 hb, hit_none hl, itmsW_end hl]; rfl
theorem w_one_end {s : List UInt8} {i k a n : Nat} (h : sign (s.drop i) = some (a, n)) (hh : hit s (i + n) 45 = false) (hl : s.length ≤ i + n) : itmsW s i k = none := by
 rw [w_one h hh, hit_none hl, itmsW_end hl]; rfl
theorem spanN_1 (a : Nat) : spanN a 1 = 2 ^ a := by simp [spanN]
theorem readS_short {s : List UInt8} (h : s.length < 2) : readS s = none := by
 cases h0 : hit s 0 91
 ·exact readS_no h0
 ·rw [readS_eq h0, hit_none (show s.length ≤ 1 by omega), itmsW_end (by simp; omega)]; rfl
theorem rRead_ev (s : List UInt8) (hs : s.length < 2 ^ 38) (rf : Refs) : Ev T f_ref04_Read [str s] rf (.ret (readA (readS s))) rf := by
 refine Ev.any ?_ rfl rf
 refine ev_fn rfl rfl ?_
 (repeat' (first| (intro (u_ : Unit); clear u_)| refine condT ?_| refine condF ?_| refine condp (by assumption) ?_| refine condn (by assumption) ?_| refine condN ?_| refine idxSb (by assumption) ?_| (refine condD ?_ ?_ <;> intro hq_ <;> first | (exfalso; omega) | skip)| (refine idxS (by omega) ?_; intro b_ hb_; have hl_ := b_.toNat_lt)| refine wrA (by omega) ?_| refine wrS (by omega) (by omega) ?_| refine wrI (by omega) (by omega) ?_| refine wrBA (by omega) ?_| refine wrB (by omega) (by omega) ?_| refine strC (by omega) ?_| refine nilB rfl ?_))
 ·rw [readS_short (by omega)]; exact ⟨rfl, rfl⟩
 ·rw [readS_no (hitF hb_ (by omega))]; exact ⟨rfl, rfl⟩
 all_goals
  have h91 : hit s 0 91 = true := hitT (by assumption) (by omega)
  have hR := readS_eq h91
  first | have hb1 : hit s 1 94 = true := hitT (by assumption) (by omega) | have hb1 : hit s 1 94 = false := hitF (by assumption) (by omega)
  rw [hb1] at hR
  simp only [if_true, Bool.false_eq_true, if_false] at hR
  refine loopR3 (fun (i _ : Nat) (b : Bool) => [(5, i64 i), (8, bl b)]) (fun i k b => [(1, clsC k)]) (fun i k b => s.length - i) (fun i k b => i ≤ s.length ∧ (b = false → i < s.length) ∧ readS s = fin (hit s 1 94) (nx s (if b then 0 else 1) i k)) _ 0 true ⟨?_, ?_, ?_⟩ (by rfl) (by rfl) ?_
  rotate_right
  ·rintro i k b ⟨hi, hb, hP⟩
   cases b <;> (try have hb := hb rfl) <;> simp only [if_true, Bool.false_eq_true, if_false] at hP
   all_goals (repeat' (first
    | (intro (u_ : Unit); clear u_)
    | refine condT ?_
    | refine condF ?_
    | refine condp (by assumption) ?_
    | refine condn (by assumption) ?_
    | refine condN ?_
    | refine idxSb (by assumption) ?_
    | refine subLo (by omega) ?_
    | (refine rsignE (fun hs_ => ?_) (fun a_ n_ hs_ ha_ hn1_ hn2_ => ?_) <;> try rw [List.length_drop] at hn2_)
    | refine callE_ev (rSpan_ev _ _ (by omega) (by omega) _) ?_
    | refine callE_ev (rOr_ev _ _ (spanN_lt _ _ (by omega)) _) ?_
    | refine callE_ev (with_ev _ _ (by omega) _) ?_
    | refine callE_ev (rNot_ev _ _) ?_
    | (refine condD ?_ ?_ <;> intro hq_ <;> first | (exfalso; omega) | skip)
    | (refine idxS (by omega) ?_; intro b_ hb_; have hl_ := b_.toNat_lt)
    | refine wrA (by omega) ?_
    | refine wrS (by omega) (by omega) ?_
    | refine wrI (by omega) (by omega) ?_
    | refine wrBA (by omega) ?_
    | refine wrB (by omega) (by omega) ?_
    | refine strC (by omega) ?_
    | refine nilB rfl ?_))
   all_goals first
    | (rw [hP, nx_end (by omega) (hitT (by assumption) (by omega)), hb1]; refine ⟨?_, rfl⟩; simp only [fin, if_true, Bool.false_eq_true, if_false, spanN_1]; rfl)
    | (first | have hN : nx s 1 i k = itmsW s i k := nx_go (by first | exact hitN (by omega) | exact hitF (by assumption) (by omega)) | have hN : nx s 0 i k = itmsW s i k := nx_0 (by omega)
       first
       | (rw [hP, hN, w_none (by assumption)]; exact ⟨rfl, rfl⟩)
       | (rw [hP, hN, w_two_none (by assumption) (hitT (by assumption) (by omega)) (by assumption)]; exact ⟨rfl, rfl⟩)
       | (rw [hP, hN, w_two_bad (by assumption) (hitT (by assumption) (by omega)) (by assumption) (by omega)]; exact ⟨rfl, rfl⟩)
       | (rw [hP, hN, w_two_end (by assumption) (hitT (by assumption) (by omega)) (by assumption) (by omega) (by omega)]; exact ⟨rfl, rfl⟩)
       | (rw [hP, hN, w_one_end (by assumption) (by first | exact hitN (by omega) | exact hitF (by assumption) (by omega)) (by omega)]; exact ⟨rfl, rfl⟩)
       | exact ⟨_, _, false, ⟨by omega, fun _ => by omega, by rw [hP, hN, w_two (by assumption) (hitT (by assumption) (by omega)) (by assumption) (by omega)]; exact congrArg (fin _) (nx_w (by decide)).symm⟩, by omega, rfl, rfl, rfl, rfl⟩
       | exact ⟨_, _, false, ⟨by omega, fun _ => by omega, by rw [hP, hN, w_one (by assumption) (by first | exact hitN (by omega) | exact hitF (by assumption) (by omega)), spanN_one]; exact congrArg (fin _) (nx_w (by decide)).symm⟩, by omega, rfl, rfl, rfl, rfl⟩)
  ·omega
  ·intro h; cases h
  ·rw [if_pos rfl, nx_0 (by omega), hb1]; exact hR
theorem rreadE {s : List UInt8} {rf : Refs} {k : Out → Refs → Prop} (hs : s.length < 2 ^ 38) (h0 : readS s = none → k (.ret (.tup [cls 0, i64 (0 : Nat), i64 (2 : Nat)])) rf) (h1 : ∀ a n : Nat, readS s = some (a, n) → 1 ≤ n → n ≤ s.length → k (.ret (.tup [cls a, i64 n, i64 (0 : Nat)])) rf) : CallE T f_ref04_Read [str s] rf k := by
 refine callE_ev (rRead_ev s hs rf) ?_
 rcases h : readS s with _ | ⟨a, n⟩
 ·exact h0 h
 ·have := readS_len h; exact h1 a n h this.1 this.2
end Go.Ab.R05
namespace Go.Ab.R05
set_option maxRecDepth 100000
set_option linter.all false
set_option maxHeartbeats 4000000
variable {T : Tb} [hT : Base T]
structure Re where
 kind : Int
 set : Nat
 k0 : Int
 k1 : Int
def reD (r : Re) : List D := [.int .i64 r.kind, .int .u64 (wd r.set 0 : Nat), .int .u64 (wd r.set 1 : Nat), .int .u64 (wd r.set 2 : Nat), .int .u64 (wd r.set 3 : Nat), .int .i64 r.k0, .int .i64 r.k1]
def reC (r : Re) : List AV := [i64 r.kind, wdv r.set 0, wdv r.set 1, wdv r.set 2, wdv r.set 3, i64 r.k0, i64 r.k1]
def tc : List Re → AV
 | [] => .nil
 | r :: l => .own ((r :: l).map reD)
def rd (s : List UInt8) (at_ deep : Nat) (t : List Re) : List AV := [str s, i64 at_, i64 deep, tc t]
def fault (e : Nat) : AV := .ifc 50 (.agg [i64 e])
inductive R where
 | ok (a at_ deep : Nat) (t : List Re)
 | err (e : Nat)
def R.bind : R → (Nat → Nat → Nat → List Re → R) → R
 | .ok a i d t, f => f a i d t
 | .err e, _ => .err e
def putM (r : Re) (i d : Nat) (t : List Re) : R := if 2000 ≤ t.length then .err 6 else .ok t.length i d (t ++ [r])
def dotN : Nat := notN (spanN 10 1)
def badP : List UInt8 := [42, 43, 63, 41, 124, 123, 125, 47]
def atomM (s : List UInt8) (G : Nat → Nat → List Re → R) (i d : Nat) (t : List Re) : R :=
 match s[i]? with
 | none => .err 9
 | some c =>
   if c.toNat = 40 then G i d t
   else if c.toNat = 46 then putM ⟨1, dotN, 0, 0⟩ (i + 1) d t
   else if c.toNat = 94 then putM ⟨7, 0, 0, 0⟩ (i + 1) d t
   else if c.toNat = 36 then putM ⟨8, 0, 0, 0⟩ (i + 1) d t
   else if c.toNat = 91 then
    match readS (s.drop i) with
    | none => .err 9
    | some (k, n) => putM ⟨1, k, 0, 0⟩ (i + n) d t
   else if c ∈ badP then .err 9
   else
    match sign (s.drop i) with
    | none => .err 9
    | some (b, n) => putM ⟨1, spanN b 1, 0, 0⟩ (i + n) d t
def postL (s : List UInt8) : Nat → Nat → Nat → Nat → List Re → R
 | 0, a, i, d, t => .ok a i d t
 | f + 1, a, i, d, t =>
   if hit s i 42 then (putM ⟨4, 0, a, 0⟩ (i + 1) d t).bind (postL s f)
   else if hit s i 43 then (putM ⟨5, 0, a, 0⟩ (i + 1) d t).bind (postL s f)
   else if hit s i 63 then (putM ⟨6, 0, a, 0⟩ (i + 1) d t).bind (postL s f)
   else .ok a i d t
def pieceM (s : List UInt8) (G : Nat → Nat → List Re → R) (i d : Nat) (t : List Re) : R := (atomM s G i d t).bind (postL s (s.length + 1))
def stop (s : List UInt8) (i : Nat) : Bool := decide (s.length ≤ i) || hit s i 124 || hit s i 41
def catL (s : List UInt8) (G : Nat → Nat → List Re → R) : Nat → Nat → Nat → Nat → List Re → R
 | 0, a, i, d, t => .ok a i d t
 | f + 1, a, i, d, t => if stop s i then .ok a i d t else (pieceM s G i d t).bind fun b i d t => (putM ⟨2, 0, a, b⟩ i d t).bind (catL s G f)
def catM (s : List UInt8) (G : Nat → Nat → List Re → R) (i d : Nat) (t : List Re) : R :=
 if stop s i then putM ⟨0, 0, 0, 0⟩ i d t else (pieceM s G i d t).bind (catL s G (s.length + 1))
def altL (s : List UInt8) (G : Nat → Nat → List Re → R) : Nat → Nat → Nat → Nat → List Re → R
 | 0, a, i, d, t => .ok a i d t
 | f + 1, a, i, d, t => if hit s i 124 then (catM s G (i + 1) d t).bind fun b i d t => (putM ⟨3, 0, a, b⟩ i d t).bind (altL s G f) else .ok a i d t
def allB (s : List UInt8) (G : Nat → Nat → List Re → R) (i d : Nat) (t : List Re) : R := (catM s G i d t).bind (altL s G (s.length + 1))
def grpM (s : List UInt8) (A : Nat → Nat → List Re → R) (i d : Nat) (t : List Re) : R :=
 if 30 ≤ d then .err 7 else (A (i + 1) (d + 1) t).bind fun a i d t => if hit s i 41 then .ok a (i + 1) (d - 1) t else .err 9
def allM (s : List UInt8) : Nat → Nat → Nat → List Re → R
 | 0 => fun _ _ _ => .err 7
 | n + 1 => allB s (grpM s (allM s n))
def parse (s : List UInt8) : Except Nat (List Re) :=
 match allM s 31 0 0 [] with
 | .err e => .error e
 | .ok _ i _ t => if i < s.length then .error 9 else .ok t
def Post (s : List UInt8) : R → Out → Refs → Prop
 | .ok a i d t, o, rf => o = .ret (i64 a) ∧ rf = [rd s i d t]
 | .err e, o, rf => ∃ i d t, o = .pan (fault e) ∧ rf = [rd s i d t]
def Fits (T : Tb) (f : FuncId) (more : List AV) (s : List UInt8) (i d : Nat) (t : List Re) (r : R) : Prop := CallE T f (.ptr 0 0 :: more) [rd s i d t] (Post s r)
theorem tc_b (t : List Re) : (tc t).refB = 0 := by cases t <;> rfl
theorem rd_b (s : List UInt8) (i d : Nat) (t : List Re) : AV.refBs (rd s i d t) = 0 := by
 simp [rd, AV.refBs, AV.refB, tc_b]
theorem at0 {f : FuncId} {more : List AV} {c c' : List AV} {X : Refs} {o : Out} (hm : AV.refBs more = 0) (hc : AV.refBs c = 0) (hc' : AV.refBs c' = 0) (ho : o.val.refB = 0) (h : Ev T f (.ptr 0 0 :: more) [c] o [c']) :
  Ev T f (.ptr 0 0 :: more) (c :: X) o (c' :: X) := by
 have hl : okL [0] (c :: X).length = true := rfl
 have h1 := h.at [0] (RF := c :: X) hl rfl rfl (by simp only [List.map_cons, List.map_nil, mvs_clean _ hc]; rfl)
 rw [Out.mv_clean ho] at h1
 simp only [List.map_cons, List.map_nil, mvs_clean _ hc', AV.mvs, mvs_clean _ hm, scat, List.set_cons_zero] at h1
 exact h1
section
variable {f : FuncId} {more : List AV} {s : List UInt8} {i d : Nat} {t : List Re} {r : R} {X : Refs} {k : Out → Refs → Prop}
theorem fitE (h : Fits T f more s i d t r) (hm : AV.refBs more = 0) (hok : ∀ a i d t, r = .ok a i d t → k (.ret (i64 a)) (rd s i d t :: X)) (herr : ∀ e i d t, r = .err e → k (.pan (fault e)) (rd s i d t :: X)) :
  CallE T f (.ptr 0 0 :: more) (rd s i d t :: X) k := by
 obtain ⟨o, rf', he, hp⟩ := h
 cases r with
 | ok a i' d' t' =>
   obtain ⟨rfl, rfl⟩ := hp
   exact ⟨_, _, at0 hm (rd_b _ _ _ _) (rd_b _ _ _ _) rfl he, hok _ _ _ _ rfl⟩
 | err e =>
   obtain ⟨i', d', t', rfl, rfl⟩ := hp
   exact ⟨_, _, at0 hm (rd_b _ _ _ _) (rd_b _ _ _ _) rfl he, herr _ _ _ _ rfl⟩
end
theorem sees_ev (s : List UInt8) (i d c : Nat) (t : List Re) : Ev T f_regex_reader_sees [.ptr 0 0, u8 c] [rd s i d t] (.ret (bl (hit s i c))) [rd s i d t] := by
 refine ev_fn rfl rfl ?_
 (repeat' (first| (intro (u_ : Unit); clear u_)| refine condT ?_| refine condF ?_| refine condp (by assumption) ?_| refine condn (by assumption) ?_| refine condN ?_| refine idxSb (by assumption) ?_| (refine condD ?_ ?_ <;> intro hq_ <;> first | (exfalso; omega) | skip)| (refine idxS (by omega) ?_; intro b_ hb_; have hl_ := b_.toNat_lt)| refine wrA (by omega) ?_| refine wrS (by omega) (by omega) ?_| refine wrI (by omega) (by omega) ?_| refine wrBA (by omega) ?_| refine wrB (by omega) (by omega) ?_| refine strC (by omega) ?_| refine nilB rfl ?_))
 ·rw [hit_some hb_, show decide ((b_.toNat : Int) = (c : Int)) = decide (b_.toNat = c) from by rw [Bool.eq_iff_iff]; simp; omega]; exact ⟨rfl, rfl⟩
 ·rw [hitN hq_]; exact ⟨rfl, rfl⟩
section
variable {s : List UInt8} {i d c : Nat} {t : List Re} {X : Refs} {k : Out → Refs → Prop}
theorem seesE (h1 : hit s i c = true → i < s.length → k (.ret (bl true)) (rd s i d t :: X)) (h2 : hit s i c = false → k (.ret (bl false)) (rd s i d t :: X)) :
  CallE T f_regex_reader_sees [.ptr 0 0, u8 c] (rd s i d t :: X) k := by
 refine ⟨_, _, at0 rfl (rd_b _ _ _ _) (rd_b _ _ _ _) rfl (sees_ev s i d c t), ?_⟩
 cases h : hit s i c
 ·exact h2 h
 ·exact h1 h (hit_lt h)
end
theorem put_ev (r : Re) (s : List UInt8) (i d : Nat) (t : List Re) (ht : t.length ≤ 2000) : Fits T f_regex_reader_put [.agg (reC r)] s i d t (putM r i d t) := by
 cases t with
 | nil =>
   refine call_fn rfl rfl ?_
   (repeat' (first| (intro (u_ : Unit); clear u_)| refine condT ?_| refine condF ?_| refine condp (by assumption) ?_| refine condn (by assumption) ?_| refine condN ?_| refine idxSb (by assumption) ?_| refine appN1 (by simp) rfl ?_| refine wrS (b := 1) (by simp) (by simp) ?_| (refine condD ?_ ?_ <;> intro hq_ <;> first | (exfalso; omega) | skip)| (refine idxS (by omega) ?_; intro b_ hb_; have hl_ := b_.toNat_lt)| refine wrA (by omega) ?_| refine wrS (by omega) (by omega) ?_| refine wrI (by omega) (by omega) ?_| refine wrBA (by omega) ?_| refine wrB (by omega) (by omega) ?_| refine strC (by omega) ?_| refine nilB rfl ?_))
   exact ⟨rfl, rfl⟩
 | cons r0 l =>
   simp only [List.length_cons] at ht
   have hl : (List.map reD (r0 :: l)).length = l.length + 1 := by simp
   refine call_fn rfl rfl ?_
   (repeat' (first| (intro (u_ : Unit); clear u_)| refine condT ?_| refine condF ?_| refine condp (by assumption) ?_| refine condn (by assumption) ?_| refine condN ?_| refine idxSb (by assumption) ?_| refine appL (by simp; omega) rfl rfl ?_| refine wrS (b := 1) (by simp) (by simp; omega) ?_| (refine condD ?_ ?_ <;> intro hq_ <;> first | (exfalso; omega) | skip)| (refine idxS (by omega) ?_; intro b_ hb_; have hl_ := b_.toNat_lt)| refine wrA (by omega) ?_| refine wrS (by omega) (by omega) ?_| refine wrI (by omega) (by omega) ?_| refine wrBA (by omega) ?_| refine wrB (by omega) (by omega) ?_| refine strC (by omega) ?_| refine nilB rfl ?_))
   ·rw [hl] at hq_
    unfold putM; rw [if_pos (by simp; omega)]
    exact ⟨_, _, _, rfl, rfl⟩
   ·rw [hl] at hq_
    unfold putM; rw [if_neg (by simp; omega)]
    refine ⟨by simp, ?_⟩
    show [[_, _, _, _]] = [[_, _, _, AV.own _]]
    simp [reD, List.map_append]
section
variable {s : List UInt8} {i d : Nat} {t : List Re} {X : Refs} {k : Out → Refs → Prop}
theorem putE {kd : Int} {st : Nat} {k0 k1 : Int} (ht : t.length ≤ 2000) (hok : ∀ a i' d' t', putM ⟨kd, st, k0, k1⟩ i d t = .ok a i' d' t' → k (.ret (i64 a)) (rd s i' d' t' :: X)) (herr : ∀ e i' d' t', putM ⟨kd, st, k0, k1⟩ i d t = .err e → k (.pan (fault e)) (rd s i' d' t' :: X)) :
  CallE T f_regex_reader_put [.ptr 0 0, .agg [i64 kd, wdv st 0, wdv st 1, wdv st 2, wdv st 3, i64 k0, i64 k1]] (rd s i d t :: X) k :=
 fitE (put_ev ⟨kd, st, k0, k1⟩ s i d t ht) rfl hok herr
end
theorem dot_ev (rf : Refs) : Ev T f_regex_dot [] rf (.ret (cls dotN)) rf := by
 refine Ev.any ?_ rfl rf
 refine ev_fn rfl rfl ?_
 (repeat' (first| (intro (u_ : Unit); clear u_)| refine condT ?_| refine condF ?_| refine condp (by assumption) ?_| refine condn (by assumption) ?_| refine condN ?_| refine idxSb (by assumption) ?_| refine callE_ev (One_ev 10 (by omega) _) ?_| refine callE_ev (Not_ev _ _) ?_| (refine condD ?_ ?_ <;> intro hq_ <;> first | (exfalso; omega) | skip)| (refine idxS (by omega) ?_; intro b_ hb_; have hl_ := b_.toNat_lt)| refine wrA (by omega) ?_| refine wrS (by omega) (by omega) ?_| refine wrI (by omega) (by omega) ?_| refine wrBA (by omega) ?_| refine wrB (by omega) (by omega) ?_| refine strC (by omega) ?_| refine nilB rfl ?_))
 exact ⟨rfl, rfl⟩
theorem badE {c : UInt8} {rf : Refs} {k : Out → Refs → Prop} (h : ∀ n : Int, (0 ≤ n → c ∈ badP) → (n < 0 → ¬ c ∈ badP) → k (.ret (i64 n)) rf) : CallE T f_strings_IndexByte [str badP, u8 c.toNat] rf k := ixbE h
section
variable {s : List UInt8} {G : Nat → Nat → List Re → R} {i d : Nat} {t : List Re} {c : UInt8}
theorem atom_g (h : s[i]? = some c) (hc : c.toNat = 40) : atomM s G i d t = G i d t := by simp [atomM, h, hc]
theorem atom_d (h : s[i]? = some c) (hc : c.toNat = 46) : atomM s G i d t = putM ⟨1, dotN, 0, 0⟩ (i + 1) d t := by simp [atomM, h, hc]
theorem atom_b (h : s[i]? = some c) (hc : c.toNat = 94) : atomM s G i d t = putM ⟨7, 0, 0, 0⟩ (i + 1) d t := by simp [atomM, h, hc]
theorem atom_e (h : s[i]? = some c) (hc : c.toNat = 36) : atomM s G i d t = putM ⟨8, 0, 0, 0⟩ (i + 1) d t := by simp [atomM, h, hc]
theorem atom_k0 (h : s[i]? = some c) (hc : c.toNat = 91) (hr : readS (s.drop i) = none) : atomM s G i d t = .err 9 := by simp [atomM, h, hc, hr]
theorem atom_k (h : s[i]? = some c) (hc : c.toNat = 91) {k n : Nat} (hr : readS (s.drop i) = some (k, n)) : atomM s G i d t = putM ⟨1, k, 0, 0⟩ (i + n) d t := by simp [atomM, h, hc, hr]
theorem atom_bad (h : s[i]? = some c) (h1 : c.toNat ≠ 40) (h2 : c.toNat ≠ 46) (h3 : c.toNat ≠ 94) (h4 : c.toNat ≠ 36) (h5 : c.toNat ≠ 91) (hc : c ∈ badP) : atomM s G i d t = .err 9 := by simp [atomM, h, h1, h2, h3, h4, h5, hc]
theorem atom_s0 (h : s[i]? = some c) (h1 : c.toNat ≠ 40) (h2 : c.toNat ≠ 46) (h3 : c.toNat ≠ 94) (h4 : c.toNat ≠ 36) (h5 : c.toNat ≠ 91) (hc : c ∉ badP) (hr : sign (s.drop i) = none) : atomM s G i d t = .err 9 := by simp [atomM, h, h1, h2, h3, h4, h5, hc, hr]
theorem atom_s (h : s[i]? = some c) (h1 : c.toNat ≠ 40) (h2 : c.toNat ≠ 46) (h3 : c.toNat ≠ 94) (h4 : c.toNat ≠ 36) (h5 : c.toNat ≠ 91) (hc : c ∉ badP) {b n : Nat} (hr : sign (s.drop i) = some (b, n)) : atomM s G i d t = putM ⟨1, spanN b 1, 0, 0⟩ (i + n) d t := by simp [atomM, h, h1, h2, h3, h4, h5, hc, hr]
end
theorem post_ok {s : List UInt8} {r : R} {a i d : Nat} {t : List Re} (h : r = .ok a i d t) : Post s r (.ret (i64 a)) [rd s i d t] := by subst h; exact ⟨rfl, rfl⟩
theorem post_err {s : List UInt8} {r : R} {e i d : Nat} {t : List Re} (h : r = .err e) : Post s r (.pan (fault e)) [rd s i d t] := by subst h; exact ⟨_, _, _, rfl, rfl⟩
theorem atom_ev (G : Nat → Nat → List Re → R) (s : List UInt8) (hs : s.length ≤ 2 ^ 30) (i d : Nat) (t : List Re) (hi : i < s.length) (ht : t.length ≤ 2000) (hG : Fits T f_regex_reader_group [] s i d t (G i d t)) : Fits T f_regex_reader_atom [] s i d t (atomM s G i d t) := by
 refine call_fn rfl rfl ?_
 (repeat' (first| (intro (u_ : Unit); clear u_)| refine condT ?_| refine condF ?_| refine condp (by assumption) ?_| refine condn (by assumption) ?_| refine condN ?_| refine idxSb (by assumption) ?_| refine fitE hG rfl (fun a_ i_ d_ t_ hr_ => ?_) (fun e_ i_ d_ t_ hr_ => ?_)| refine putE ht (fun a_ i_ d_ t_ hr_ => ?_) (fun e_ i_ d_ t_ hr_ => ?_)| refine putE (st := 0) ht (fun a_ i_ d_ t_ hr_ => ?_) (fun e_ i_ d_ t_ hr_ => ?_)| refine callE_ev (dot_ev _) ?_| refine callE_ev (One_ev _ (by omega) _) ?_| refine subLo (by omega) ?_| (refine badE ?_; intro n_ hn_ hm_)| (refine signE (fun hs_ => ?_) (fun a_ n_ hs_ ha_ hn1_ hn2_ => ?_) <;> try rw [List.length_drop] at hn2_)| (refine readE (by rw [List.length_drop]; omega) (fun hs_ => ?_) (fun a_ n_ hs_ hn1_ hn2_ => ?_) <;> try rw [List.length_drop] at hn2_)| (refine condD ?_ ?_ <;> intro hq_ <;> first | (exfalso; omega) | skip)| (refine idxS (by omega) ?_; intro b_ hb_; have hl_ := b_.toNat_lt)| refine wrA (by omega) ?_| refine wrS (by omega) (by omega) ?_| refine wrI (by omega) (by omega) ?_| refine wrBA (by omega) ?_| refine wrB (by omega) (by omega) ?_| refine strC (by omega) ?_| refine nilB rfl ?_))
 all_goals first
  | exact post_ok ((atom_g hb_ (by omega)).trans hr_)
  | exact post_err ((atom_g hb_ (by omega)).trans hr_)
  | exact post_ok ((atom_d hb_ (by omega)).trans hr_)
  | exact post_err ((atom_d hb_ (by omega)).trans hr_)
  | exact post_ok ((atom_b hb_ (by omega)).trans hr_)
  | exact post_err ((atom_b hb_ (by omega)).trans hr_)
  | exact post_ok ((atom_e hb_ (by omega)).trans hr_)
  | exact post_err ((atom_e hb_ (by omega)).trans hr_)
  | exact post_err (atom_k0 hb_ (by omega) hs_)
  | exact post_ok ((atom_k hb_ (by omega) hs_).trans hr_)
  | exact post_err ((atom_k hb_ (by omega) hs_).trans hr_)
  | exact post_err (atom_bad hb_ (by omega) (by omega) (by omega) (by omega) (by omega) (hn_ (by omega)))
  | exact post_err (atom_s0 hb_ (by omega) (by omega) (by omega) (by omega) (by omega) (hm_ (by omega)) hs_)
  | exact post_ok ((atom_s hb_ (by omega) (by omega) (by omega) (by omega) (by omega) (hm_ (by omega)) hs_).trans hr_)
  | exact post_err ((atom_s hb_ (by omega) (by omega) (by omega) (by omega) (by omega) (hm_ (by omega)) hs_).trans hr_)
end Go.Ab.R05
namespace Go.Ab.R05
set_option maxRecDepth 100000
set_option linter.all false
set_option maxHeartbeats 4000000
variable {T : Tb} [hT : Base T]
def Adv (s : List UInt8) (m i d : Nat) (r : R) : Prop := ∀ a i' d' t', r = .ok a i' d' t' → i + m ≤ i' ∧ i' ≤ s.length ∧ d' = d ∧ t'.length ≤ 2000
theorem Adv.bind {s : List UInt8} {m n i d : Nat} {r : R} {f : Nat → Nat → Nat → List Re → R} (h : Adv s m i d r) (hf : ∀ a i' t', i + m ≤ i' → i' ≤ s.length → t'.length ≤ 2000 → Adv s n i' d (f a i' d t')) : Adv s (m + n) i d (r.bind f) := by
 intro a i' d' t' e
 cases r with
 | err x => cases e
 | ok b j e' u =>
   obtain ⟨h1, h2, h3, h4⟩ := h _ _ _ _ rfl
   subst h3
   have := hf b j u h1 h2 h4 a i' d' t' e
   omega
theorem Adv.at {s : List UInt8} {m n i j d : Nat} {r : R} (h : Adv s m j d r) (hm : i + n ≤ j + m) : Adv s n i d r := fun a i' d' t' e => by
 have := h a i' d' t' e; omega
theorem adv_ok {s : List UInt8} {a i d : Nat} {t : List Re} (hi : i ≤ s.length) (ht : t.length ≤ 2000) : Adv s 0 i d (.ok a i d t) := by
 intro a' i' d' t' e; cases e; exact ⟨Nat.le_refl _, hi, rfl, ht⟩
theorem adv_err {s : List UInt8} {m i d e : Nat} : Adv s m i d (.err e) := by intro a' i' d' t' h; cases h
theorem putM_ok {r : Re} {a i d i' d' : Nat} {t t' : List Re} (h : putM r i d t = .ok a i' d' t') : a = t.length ∧ i' = i ∧ d' = d ∧ t' = t ++ [r] ∧ t.length < 2000 := by
 unfold putM at h
 split at h
 ·cases h
 ·cases h; exact ⟨rfl, rfl, rfl, rfl, by omega⟩
theorem adv_put {s : List UInt8} {r : Re} {i d : Nat} {t : List Re} (hi : i ≤ s.length) : Adv s 0 i d (putM r i d t) := by
 intro a i' d' t' h
 obtain ⟨rfl, rfl, rfl, rfl, h5⟩ := putM_ok h
 exact ⟨Nat.le_refl _, hi, rfl, by simp; omega⟩
def AdvG (s : List UInt8) (G : Nat → Nat → List Re → R) : Prop := ∀ i d t, i < s.length → t.length ≤ 2000 → Adv s 1 i d (G i d t)
theorem adv_atom {s : List UInt8} {G : Nat → Nat → List Re → R} (hG : AdvG s G) {i d : Nat} {t : List Re} (hi : i < s.length) (ht : t.length ≤ 2000) : Adv s 1 i d (atomM s G i d t) := by
 unfold atomM
 repeat' split
 all_goals first
  | exact adv_err
  | exact hG i d t hi ht
  | exact (adv_put (by omega)).at (by omega)
  | (rename_i h; have := readS_len h; rw [List.length_drop] at this; exact (adv_put (by omega)).at (by omega))
  | (rename_i h; have := sign_drop h; exact (adv_put (by omega)).at (by omega))
theorem adv_post {s : List UInt8} {d : Nat} : ∀ {f a i : Nat} {t : List Re}, i ≤ s.length → t.length ≤ 2000 → Adv s 0 i d (postL s f a i d t)
 | 0, a, i, t, hi, ht => adv_ok hi ht
 | f + 1, a, i, t, hi, ht => by
   unfold postL
   repeat' split
   all_goals first
    | exact adv_ok hi ht
    | (rename_i h; have := hit_lt h; exact (((adv_put (by omega)).bind (n := 0) fun a i' t' h1 h2 h3 => adv_post h2 h3)).at (by omega))
theorem adv_piece {s : List UInt8} {G : Nat → Nat → List Re → R} (hG : AdvG s G) {i d : Nat} {t : List Re} (hi : i < s.length) (ht : t.length ≤ 2000) : Adv s 1 i d (pieceM s G i d t) :=
 (adv_atom hG hi ht).bind fun a i' t' h1 h2 h3 => adv_post h2 h3
theorem stop_lt {s : List UInt8} {i : Nat} (h : ¬ stop s i = true) : i < s.length := by
 unfold stop at h; simp at h; omega
theorem adv_cat {s : List UInt8} {G : Nat → Nat → List Re → R} (hG : AdvG s G) {d : Nat} : ∀ {f a i : Nat} {t : List Re}, i ≤ s.length → t.length ≤ 2000 → Adv s 0 i d (catL s G f a i d t)
 | 0, a, i, t, hi, ht => adv_ok hi ht
 | f + 1, a, i, t, hi, ht => by
   unfold catL
   split
   ·exact adv_ok hi ht
   ·rename_i h
    exact ((adv_piece hG (stop_lt h) ht).bind (n := 0) fun b i' t' h1 h2 h3 => ((adv_put h2).bind (n := 0) fun a i'' t'' h4 h5 h6 => adv_cat hG h5 h6)).at (by omega)
theorem adv_catM {s : List UInt8} {G : Nat → Nat → List Re → R} (hG : AdvG s G) {i d : Nat} {t : List Re} (hi : i ≤ s.length) (ht : t.length ≤ 2000) : Adv s 0 i d (catM s G i d t) := by
 unfold catM
 split
 ·exact adv_put hi
 ·rename_i h
  exact ((adv_piece hG (stop_lt h) ht).bind (n := 0) fun b i' t' h1 h2 h3 => adv_cat hG h2 h3).at (by omega)
theorem adv_alt {s : List UInt8} {G : Nat → Nat → List Re → R} (hG : AdvG s G) {d : Nat} : ∀ {f a i : Nat} {t : List Re}, i ≤ s.length → t.length ≤ 2000 → Adv s 0 i d (altL s G f a i d t)
 | 0, a, i, t, hi, ht => adv_ok hi ht
 | f + 1, a, i, t, hi, ht => by
   unfold altL
   split
   ·rename_i h
    have := hit_lt h
    exact ((adv_catM hG (by omega) ht).bind (n := 0) fun b i' t' h1 h2 h3 => ((adv_put h2).bind (n := 0) fun a i'' t'' h4 h5 h6 => adv_alt hG h5 h6)).at (by omega)
   ·exact adv_ok hi ht
theorem adv_all {s : List UInt8} {G : Nat → Nat → List Re → R} (hG : AdvG s G) {i d : Nat} {t : List Re} (hi : i ≤ s.length) (ht : t.length ≤ 2000) : Adv s 0 i d (allB s G i d t) :=
 (adv_catM hG hi ht).bind fun a i' t' h1 h2 h3 => adv_alt hG h2 h3
theorem adv_grp {s : List UInt8} {A : Nat → Nat → List Re → R} (hA : ∀ i d t, i ≤ s.length → t.length ≤ 2000 → Adv s 0 i d (A i d t)) : AdvG s (grpM s A) := by
 intro i d t hi ht
 unfold grpM
 split
 ·exact adv_err
 ·have h := hA (i + 1) (d + 1) t (by omega) ht
  intro a i' d' t' e
  cases hr : A (i + 1) (d + 1) t with
  | err x => rw [hr] at e; cases e
  | ok b j e' u =>
    rw [hr] at e
    obtain ⟨h1, h2, h3, h4⟩ := h _ _ _ _ hr
    simp only [R.bind] at e
    split at e
    ·rename_i hh
     have := hit_lt hh
     cases e; omega
    ·cases e
theorem adv_allM {s : List UInt8} : ∀ (n : Nat) {i d : Nat} {t : List Re}, i ≤ s.length → t.length ≤ 2000 → Adv s 0 i d (allM s n i d t)
 | 0, i, d, t, _, _ => adv_err
 | n + 1, i, d, t, hi, ht => adv_all (adv_grp fun i d t hi ht => adv_allM n hi ht) hi ht
theorem postE {c : UInt8} {rf : Refs} {k : Out → Refs → Prop} (h0 : c.toNat = 42 → k (.ret (i64 (0 : Nat))) rf) (h1 : c.toNat = 43 → k (.ret (i64 (1 : Nat))) rf) (h2 : c.toNat = 63 → k (.ret (i64 (2 : Nat))) rf)
  (hn : c.toNat ≠ 42 → c.toNat ≠ 43 → c.toNat ≠ 63 → k (.ret (i64 (-1))) rf) : CallE T f_strings_IndexByte [str [42, 43, 63], u8 c.toNat] rf k := by
 have := IndexByte_ev (T := T) [42, 43, 63] c.toNat rf
 rw [show c.toNat.toUInt8 = c from UInt8.ofNat_toNat] at this
 refine callE_ev this ?_
 by_cases e0 : c.toNat = 42
 ·have : c = 42 := UInt8.toNat_inj.1 e0
  subst this; exact h0 rfl
 by_cases e1 : c.toNat = 43
 ·have : c = 43 := UInt8.toNat_inj.1 e1
  subst this; exact h1 rfl
 by_cases e2 : c.toNat = 63
 ·have : c = 63 := UInt8.toNat_inj.1 e2
  subst this; exact h2 rfl
 have : Lib.indexByte [42, 43, 63] c = -1 := by
  have hne : ¬ (42 : UInt8) = c ∧ ¬ (43 : UInt8) = c ∧ ¬ (63 : UInt8) = c := ⟨fun h => e0 (by rw [← h]; rfl), fun h => e1 (by rw [← h]; rfl), fun h => e2 (by rw [← h]; rfl)⟩
  simp [Lib.indexByte, hne]
 rw [this]
 exact hn e0 e1 e2
theorem bind_ok {r : R} {f : Nat → Nat → Nat → List Re → R} {a i d : Nat} {t : List Re} (h : r = .ok a i d t) : r.bind f = f a i d t := by rw [h]; rfl
theorem bind_err {r : R} {f : Nat → Nat → Nat → List Re → R} {e : Nat} (h : r = .err e) : r.bind f = .err e := by rw [h]; rfl
section
variable {s : List UInt8} {f a i d : Nat} {t : List Re}
theorem post_42 (h : hit s i 42 = true) : postL s (f + 1) a i d t = (putM ⟨4, 0, a, 0⟩ (i + 1) d t).bind (postL s f) := by simp [postL, h]
theorem post_43 (h0 : hit s i 42 = false) (h : hit s i 43 = true) : postL s (f + 1) a i d t = (putM ⟨5, 0, a, 0⟩ (i + 1) d t).bind (postL s f) := by simp [postL, h0, h]
theorem post_63 (h0 : hit s i 42 = false) (h1 : hit s i 43 = false) (h : hit s i 63 = true) : postL s (f + 1) a i d t = (putM ⟨6, 0, a, 0⟩ (i + 1) d t).bind (postL s f) := by simp [postL, h0, h1, h]
theorem post_no (h0 : hit s i 42 = false) (h1 : hit s i 43 = false) (h2 : hit s i 63 = false) : postL s (f + 1) a i d t = .ok a i d t := by simp [postL, h0, h1, h2]
end
theorem piece_ev (G : Nat → Nat → List Re → R) (s : List UInt8) (hs : s.length ≤ 2 ^ 30) (i d : Nat) (t : List Re) (hi : i < s.length) (ht : t.length ≤ 2000) (hA : AdvG s G) (hG : Fits T f_regex_reader_group [] s i d t (G i d t)) : Fits T f_regex_reader_piece [] s i d t (pieceM s G i d t) := by
 have hat := atom_ev G s hs i d t hi ht hG
 have had := adv_atom hA (d := d) hi ht
 refine call_fn rfl rfl ?_
 (repeat' (first| (intro (u_ : Unit); clear u_)| refine condT ?_| refine condF ?_| refine condp (by assumption) ?_| refine condn (by assumption) ?_| refine condN ?_| refine idxSb (by assumption) ?_| refine fitE hat rfl (fun a_ i_ d_ t_ hr_ => ?_) (fun e_ i_ d_ t_ hr_ => ?_)| (refine condD ?_ ?_ <;> intro hq_ <;> first | (exfalso; omega) | skip)| (refine idxS (by omega) ?_; intro b_ hb_; have hl_ := b_.toNat_lt)| refine wrA (by omega) ?_| refine wrS (by omega) (by omega) ?_| refine wrI (by omega) (by omega) ?_| refine wrBA (by omega) ?_| refine wrB (by omega) (by omega) ?_| refine strC (by omega) ?_| refine nilB rfl ?_))
 ·obtain ⟨h1, h2, rfl, h4⟩ := had _ _ _ _ hr_
  refine loopR4 (fun (_ a _ : Nat) (_ : List Re) => [(3, i64 a)]) (fun (_ a i : Nat) t => [(0, rd s i d_ t)]) (fun f _ _ _ => f) (fun f a i' t' => s.length < i' + f ∧ i' ≤ s.length ∧ t'.length ≤ 2000 ∧ pieceM s G i d_ t = postL s f a i' d_ t') (s.length + 1) _ _ _ ⟨by omega, h2, h4, bind_ok hr_⟩ (by rfl) (by rfl) ?_
  rintro f a i' t' ⟨hf, hi', ht', hP⟩
  obtain ⟨f, rfl⟩ : ∃ g, f = g + 1 := ⟨f - 1, by omega⟩
  (repeat' (first| (intro (u_ : Unit); clear u_)| refine condT ?_| refine condF ?_| refine condp (by assumption) ?_| refine condn (by assumption) ?_| refine condN ?_| refine idxSb (by assumption) ?_| refine postE (fun hc_ => ?_) (fun hc_ => ?_) (fun hc_ => ?_) (fun hc1_ hc2_ hc3_ => ?_)| refine putE (st := 0) (by assumption) (fun a_ i_ d_ t_ hr2_ => ?_) (fun e_ i_ d_ t_ hr2_ => ?_)| (refine condD ?_ ?_ <;> intro hq_ <;> first | (exfalso; omega) | skip)| (refine idxS (by omega) ?_; intro b_ hb_; have hl_ := b_.toNat_lt)| refine wrA (by omega) ?_| refine wrS (by omega) (by omega) ?_| refine wrI (by omega) (by omega) ?_| refine wrBA (by omega) ?_| refine wrB (by omega) (by omega) ?_| refine strC (by omega) ?_| refine nilB rfl ?_))
  all_goals first
   | (obtain ⟨rfl, rfl, rfl, rfl, hl2⟩ := putM_ok hr2_
      first
      | exact ⟨f, _, _, _, ⟨by omega, by omega, by simp; omega, hP.trans ((post_42 (hitT hb_ (by omega))).trans (bind_ok hr2_))⟩, by omega, rfl, rfl, rfl, rfl⟩
      | exact ⟨f, _, _, _, ⟨by omega, by omega, by simp; omega, hP.trans ((post_43 (hitF hb_ (by omega)) (hitT hb_ (by omega))).trans (bind_ok hr2_))⟩, by omega, rfl, rfl, rfl, rfl⟩
      | exact ⟨f, _, _, _, ⟨by omega, by omega, by simp; omega, hP.trans ((post_63 (hitF hb_ (by omega)) (hitF hb_ (by omega)) (hitT hb_ (by omega))).trans (bind_ok hr2_))⟩, by omega, rfl, rfl, rfl, rfl⟩)
   | exact post_err (hP.trans ((post_42 (hitT hb_ (by omega))).trans (bind_err hr2_)))
   | exact post_err (hP.trans ((post_43 (hitF hb_ (by omega)) (hitT hb_ (by omega))).trans (bind_err hr2_)))
   | exact post_err (hP.trans ((post_63 (hitF hb_ (by omega)) (hitF hb_ (by omega)) (hitT hb_ (by omega))).trans (bind_err hr2_)))
   | exact post_ok (hP.trans (post_no (hitF hb_ (by omega)) (hitF hb_ (by omega)) (hitF hb_ (by omega))))
   | exact post_ok (hP.trans (post_no (hitN (by omega)) (hitN (by omega)) (hitN (by omega))))
 ·exact post_err (bind_err hr_)
section
variable {s : List UInt8} {G : Nat → Nat → List Re → R} {f a i d : Nat} {t : List Re}
theorem stopT (h : hit s i 124 = true ∨ hit s i 41 = true ∨ s.length ≤ i) : stop s i = true := by
 unfold stop; rcases h with h | h | h <;> simp [h]
theorem stopF (h0 : i < s.length) (h1 : hit s i 124 = false) (h2 : hit s i 41 = false) : stop s i = false := by
 unfold stop; simp [h1, h2]; omega
theorem catM_stop (h : stop s i = true) : catM s G i d t = putM ⟨0, 0, 0, 0⟩ i d t := if_pos h
theorem catM_go (h : stop s i = false) : catM s G i d t = (pieceM s G i d t).bind (catL s G (s.length + 1)) := if_neg (by simp [h])
theorem catL_stop (h : stop s i = true) : catL s G (f + 1) a i d t = .ok a i d t := if_pos h
theorem catL_go (h : stop s i = false) : catL s G (f + 1) a i d t = (pieceM s G i d t).bind fun b i d t => (putM ⟨2, 0, a, b⟩ i d t).bind (catL s G f) := if_neg (by simp [h])
theorem altL_stop (h : hit s i 124 = false) : altL s G (f + 1) a i d t = .ok a i d t := if_neg (by simp [h])
theorem altL_go (h : hit s i 124 = true) : altL s G (f + 1) a i d t = (catM s G (i + 1) d t).bind fun b i d t => (putM ⟨3, 0, a, b⟩ i d t).bind (altL s G f) := if_pos h
end
theorem cat_ev (G : Nat → Nat → List Re → R) (s : List UInt8) (hs : s.length ≤ 2 ^ 30) (i d : Nat) (t : List Re) (hi : i ≤ s.length) (ht : t.length ≤ 2000) (hA : AdvG s G) (hG : ∀ i t, i < s.length → t.length ≤ 2000 → Fits T f_regex_reader_group [] s i d t (G i d t)) : Fits T f_regex_reader_cat [] s i d t (catM s G i d t) := by
 refine call_fn rfl rfl ?_
 (repeat' (first| (intro (u_ : Unit); clear u_)| refine condT ?_| refine condF ?_| refine condp (by assumption) ?_| refine condn (by assumption) ?_| refine condN ?_| refine idxSb (by assumption) ?_| (refine condD ?_ ?_ <;> intro hq_ <;> first | (exfalso; omega) | skip)| (refine idxS (by omega) ?_; intro b_ hb_; have hl_ := b_.toNat_lt)| refine wrA (by omega) ?_| refine wrS (by omega) (by omega) ?_| refine wrI (by omega) (by omega) ?_| refine wrBA (by omega) ?_| refine wrB (by omega) (by omega) ?_| refine strC (by omega) ?_| refine nilB rfl ?_))
 refine loopR4 (fun (_ : Nat) (o : Option Nat) (_ : Nat) (_ : List Re) => [(3, i64 (match o with | none => -1 | some a => a))]) (fun _ _ i t => [(0, rd s i d t)]) (fun f _ _ _ => f) (fun f o i' t' => s.length < i' + f ∧ i' ≤ s.length ∧ t'.length ≤ 2000 ∧ (o = none → i' = i ∧ t' = t ∧ f = s.length + 2) ∧ ∀ a, o = some a → catM s G i d t = catL s G f a i' d t') (s.length + 2) none _ _ ⟨by omega, hi, ht, fun _ => ⟨rfl, rfl, rfl⟩, fun a h => by cases h⟩ (by rfl) (by rfl) ?_
 rintro f o i' t' ⟨hf, hi', ht', hN, hP⟩
 obtain ⟨f, rfl⟩ : ∃ g, f = g + 1 := ⟨f - 1, by omega⟩
 cases o with
 | none =>
   obtain ⟨rfl, rfl, hf2⟩ := hN rfl
   (repeat' (first| (intro (u_ : Unit); clear u_)| refine condT ?_| refine condF ?_| refine condp (by assumption) ?_| refine condn (by assumption) ?_| refine condN ?_| refine idxSb (by assumption) ?_| refine seesE (fun hh_ hl_ => ?_) (fun hh_ => ?_)| refine fitE (piece_ev G s hs _ _ _ (by omega) (by assumption) hA (hG _ _ (by omega) (by assumption))) rfl (fun a_ i_ d_ t_ hr_ => ?_) (fun e_ i_ d_ t_ hr_ => ?_)| refine putE (st := 0) (by assumption) (fun a_ i_ d_ t_ hr2_ => ?_) (fun e_ i_ d_ t_ hr2_ => ?_)| (refine condD ?_ ?_ <;> intro hq_ <;> first | (exfalso; omega) | skip)| (refine idxS (by omega) ?_; intro b_ hb_; have hl_ := b_.toNat_lt)| refine wrA (by omega) ?_| refine wrS (by omega) (by omega) ?_| refine wrI (by omega) (by omega) ?_| refine wrBA (by omega) ?_| refine wrB (by omega) (by omega) ?_| refine strC (by omega) ?_| refine nilB rfl ?_))
   all_goals first
    | exact post_ok ((catM_stop (stopT (by first | exact .inl (by assumption) | exact .inr (.inl (by assumption)) | exact .inr (.inr (by omega))))).trans hr2_)
    | exact post_err ((catM_stop (stopT (by first | exact .inl (by assumption) | exact .inr (.inl (by assumption)) | exact .inr (.inr (by omega))))).trans hr2_)
    | exact post_err ((catM_go (stopF (by omega) (by assumption) (by assumption))).trans (bind_err hr_))
    | (obtain ⟨h1, h2, rfl, h4⟩ := adv_piece hA (by omega) (by assumption) _ _ _ _ hr_
       exact ⟨s.length + 1, some a_, _, _, ⟨by omega, h2, h4, (fun h => by cases h), fun a h => by cases h; exact (catM_go (stopF (by omega) (by assumption) (by assumption))).trans (bind_ok hr_)⟩, by omega, rfl, rfl, rfl, rfl⟩)
 | some a =>
   have hP := hP a rfl
   (repeat' (first| (intro (u_ : Unit); clear u_)| refine condT ?_| refine condF ?_| refine condp (by assumption) ?_| refine condn (by assumption) ?_| refine condN ?_| refine idxSb (by assumption) ?_| refine seesE (fun hh_ hl_ => ?_) (fun hh_ => ?_)| refine fitE (piece_ev G s hs _ _ _ (by omega) (by assumption) hA (hG _ _ (by omega) (by assumption))) rfl (fun a_ i_ d_ t_ hr_ => ?_) (fun e_ i_ d_ t_ hr_ => ?_)| refine putE (st := 0) (adv_piece hA (by omega) (by assumption) _ _ _ _ hr_).2.2.2 (fun a_ i_ d_ t_ hr2_ => ?_) (fun e_ i_ d_ t_ hr2_ => ?_)| (refine condD ?_ ?_ <;> intro hq_ <;> first | (exfalso; omega) | skip)| (refine idxS (by omega) ?_; intro b_ hb_; have hl_ := b_.toNat_lt)| refine wrA (by omega) ?_| refine wrS (by omega) (by omega) ?_| refine wrI (by omega) (by omega) ?_| refine wrBA (by omega) ?_| refine wrB (by omega) (by omega) ?_| refine strC (by omega) ?_| refine nilB rfl ?_))
   all_goals first
    | exact post_ok (hP.trans (catL_stop (stopT (by first | exact .inl (by assumption) | exact .inr (.inl (by assumption)) | exact .inr (.inr (by omega))))))
    | exact post_err (hP.trans ((catL_go (stopF (by omega) (by assumption) (by assumption))).trans (bind_err hr_)))
    | exact post_err (hP.trans ((catL_go (stopF (by omega) (by assumption) (by assumption))).trans ((bind_ok hr_).trans (bind_err hr2_))))
    | (obtain ⟨h1, h2, rfl, h4⟩ := adv_piece hA (by omega) (by assumption) _ _ _ _ hr_
       obtain ⟨rfl, rfl, rfl, rfl, hl2⟩ := putM_ok hr2_
       exact ⟨f, some _, _, _, ⟨by omega, h2, by simp; omega, (fun h => by cases h), fun a h => by cases h; exact hP.trans ((catL_go (stopF (by omega) (by assumption) (by assumption))).trans ((bind_ok hr_).trans (bind_ok hr2_)))⟩, by omega, rfl, rfl, rfl, rfl⟩)
theorem all_ev (G : Nat → Nat → List Re → R) (s : List UInt8) (hs : s.length ≤ 2 ^ 30) (i d : Nat) (t : List Re) (hi : i ≤ s.length) (ht : t.length ≤ 2000) (hA : AdvG s G) (hG : ∀ i t, i < s.length → t.length ≤ 2000 → Fits T f_regex_reader_group [] s i d t (G i d t)) : Fits T f_regex_reader_all [] s i d t (allB s G i d t) := by
 refine call_fn rfl rfl ?_
 (repeat' (first| (intro (u_ : Unit); clear u_)| refine condT ?_| refine condF ?_| refine condp (by assumption) ?_| refine condn (by assumption) ?_| refine condN ?_| refine idxSb (by assumption) ?_| refine fitE (cat_ev G s hs _ _ _ hi ht hA hG) rfl (fun a_ i_ d_ t_ hr_ => ?_) (fun e_ i_ d_ t_ hr_ => ?_)| (refine condD ?_ ?_ <;> intro hq_ <;> first | (exfalso; omega) | skip)| (refine idxS (by omega) ?_; intro b_ hb_; have hl_ := b_.toNat_lt)| refine wrA (by omega) ?_| refine wrS (by omega) (by omega) ?_| refine wrI (by omega) (by omega) ?_| refine wrBA (by omega) ?_| refine wrB (by omega) (by omega) ?_| refine strC (by omega) ?_| refine nilB rfl ?_))
 ·obtain ⟨h1, h2, rfl, h4⟩ := adv_catM hA hi ht _ _ _ _ hr_
  refine loopR4 (fun (_ a _ : Nat) (_ : List Re) => [(3, i64 a)]) (fun _ _ i t => [(0, rd s i d_ t)]) (fun f _ _ _ => f) (fun f a i' t' => s.length < i' + f ∧ i' ≤ s.length ∧ t'.length ≤ 2000 ∧ allB s G i d_ t = altL s G f a i' d_ t') (s.length + 1) _ _ _ ⟨by omega, h2, h4, bind_ok hr_⟩ (by rfl) (by rfl) ?_
  rintro f a i' t' ⟨hf, hi', ht', hP⟩
  obtain ⟨f, rfl⟩ : ∃ g, f = g + 1 := ⟨f - 1, by omega⟩
  clear hr_
  (repeat' (first| (intro (u_ : Unit); clear u_)| refine condT ?_| refine condF ?_| refine condp (by assumption) ?_| refine condn (by assumption) ?_| refine condN ?_| refine idxSb (by assumption) ?_| refine seesE (fun hh_ hl_ => ?_) (fun hh_ => ?_)| refine fitE (cat_ev G s hs _ _ _ (by omega) (by assumption) hA hG) rfl (fun a_ i_ d_ t_ hr_ => ?_) (fun e_ i_ d_ t_ hr_ => ?_)| refine putE (st := 0) (adv_catM hA (by omega) (by assumption) _ _ _ _ hr_).2.2.2 (fun a_ i_ d_ t_ hr2_ => ?_) (fun e_ i_ d_ t_ hr2_ => ?_)| (refine condD ?_ ?_ <;> intro hq_ <;> first | (exfalso; omega) | skip)| (refine idxS (by omega) ?_; intro b_ hb_; have hl_ := b_.toNat_lt)| refine wrA (by omega) ?_| refine wrS (by omega) (by omega) ?_| refine wrI (by omega) (by omega) ?_| refine wrBA (by omega) ?_| refine wrB (by omega) (by omega) ?_| refine strC (by omega) ?_| refine nilB rfl ?_))
  all_goals first
   | exact post_ok (hP.trans (altL_stop (by assumption)))
   | exact post_err (hP.trans ((altL_go (by assumption)).trans (bind_err hr_)))
   | exact post_err (hP.trans ((altL_go (by assumption)).trans ((bind_ok hr_).trans (bind_err hr2_))))
   | (obtain ⟨h5, h6, rfl, h8⟩ := adv_catM hA (by omega) (by assumption) _ _ _ _ hr_
      obtain ⟨rfl, rfl, rfl, rfl, hl2⟩ := putM_ok hr2_
      exact ⟨f, _, _, _, ⟨by omega, h6, by simp; omega, hP.trans ((altL_go (by assumption)).trans ((bind_ok hr_).trans (bind_ok hr2_)))⟩, by omega, rfl, rfl, rfl, rfl⟩)
 ·exact post_err (bind_err hr_)
theorem group_ev (A : Nat → Nat → List Re → R) (s : List UInt8) (hs : s.length ≤ 2 ^ 30) (i d : Nat) (t : List Re) (hi : i < s.length) (ht : t.length ≤ 2000) (hd : d ≤ 30) (hA : ∀ i d t, i ≤ s.length → t.length ≤ 2000 → Adv s 0 i d (A i d t))
  (hG : d < 30 → Fits T f_regex_reader_all [] s (i + 1) (d + 1) t (A (i + 1) (d + 1) t)) : Fits T f_regex_reader_group [] s i d t (grpM s A i d t) := by
 refine call_fn rfl rfl ?_
 (repeat' (first| (intro (u_ : Unit); clear u_)| refine condT ?_| refine condF ?_| refine condp (by assumption) ?_| refine condn (by assumption) ?_| refine condN ?_| refine idxSb (by assumption) ?_| refine fitE (hG (by omega)) rfl (fun a_ i_ d_ t_ hr_ => ?_) (fun e_ i_ d_ t_ hr_ => ?_)| refine seesE (fun hh_ hl_ => ?_) (fun hh_ => ?_)| (obtain ⟨h1_, h2_, rfl, h4_⟩ := hA _ _ _ (by omega) ht _ _ _ _ hr_; refine wrS (b := 1) (by omega) (by omega) ?_)| (refine condD ?_ ?_ <;> intro hq_ <;> first | (exfalso; omega) | skip)| (refine idxS (by omega) ?_; intro b_ hb_; have hl_ := b_.toNat_lt)| refine wrA (by omega) ?_| refine wrS (by omega) (by omega) ?_| refine wrI (by omega) (by omega) ?_| refine wrBA (by omega) ?_| refine wrB (by omega) (by omega) ?_| refine strC (by omega) ?_| refine nilB rfl ?_))
 all_goals first
  | exact post_err (if_pos (by omega))
  | exact post_ok ((if_neg (by omega)).trans ((bind_ok hr_).trans (if_pos hh_)))
  | exact post_err ((if_neg (by omega)).trans ((bind_ok hr_).trans (if_neg (by simp [hh_]))))
  | exact post_err ((if_neg (by omega)).trans (bind_err hr_))
theorem allM_ev (s : List UInt8) (hs : s.length ≤ 2 ^ 30) : ∀ (n i d : Nat) (t : List Re), d + n = 30 → i ≤ s.length → t.length ≤ 2000 → Fits T f_regex_reader_all [] s i d t (allM s (n + 1) i d t)
 | 0, i, d, t, hd, hi, ht => all_ev _ s hs i d t hi ht (adv_grp fun i d t hi ht => adv_allM 0 hi ht) fun i t hi ht => group_ev _ s hs i d t hi ht (by omega) (fun i d t hi ht => adv_allM 0 hi ht) (fun h => by omega)
 | n + 1, i, d, t, hd, hi, ht => all_ev _ s hs i d t hi ht (adv_grp fun i d t hi ht => adv_allM (n + 1) hi ht) fun i t hi ht => group_ev _ s hs i d t hi ht (by omega) (fun i d t hi ht => adv_allM (n + 1) hi ht) (fun h => allM_ev s hs n (i + 1) (d + 1) t (by omega) (by omega) ht)
def resT : Except Nat (List Re) → AV
 | .ok t => .tup [lst (t.map reD), i64 (0 : Nat)]
 | .error e => .tup [lst [], i64 e]
theorem tc_bare (t : List Re) : (tc t).bare = lst (t.map reD) := by cases t <;> rfl
theorem rec_ev (e : Nat) (X Y : AV) (A : List AV) (hX : X.one = true) (hX2 : X.refB = 0) : EvD T f_regex_Read_1 [.ptr 0 0, .ptr 1 0] (some (fault e)) [[X], [Y], A] (.ret (.tup [])) none [[.nil], [i64 e], A] := by
 refine evd_vc (by rw [hT.td]; rfl) ?_
 (repeat' (first| (intro (u_ : Unit); clear u_)| refine condT ?_| refine condF ?_| refine condp (by assumption) ?_| refine condn (by assumption) ?_| refine condN ?_| refine idxSb (by assumption) ?_| (refine condD ?_ ?_ <;> intro hq_ <;> first | (exfalso; omega) | skip)| (refine idxS (by omega) ?_; intro b_ hb_; have hl_ := b_.toNat_lt)| refine wrA (by omega) ?_| refine wrS (by omega) (by omega) ?_| refine wrI (by omega) (by omega) ?_| refine wrBA (by omega) ?_| refine wrB (by omega) (by omega) ?_| refine strC (by omega) ?_| refine nilB rfl ?_))
 all_goals exact ⟨rfl, rfl, rfl, rfl⟩
theorem norec_ev (X Y : AV) (A : List AV) : EvD T f_regex_Read_1 [.ptr 0 0, .ptr 1 0] none [[X], [Y], A] (.ret (.tup [])) none [[X], [Y], A] := by
 refine evd_vc (by rw [hT.td]; rfl) ?_
 (repeat' (first| (intro (u_ : Unit); clear u_)| refine condT ?_| refine condF ?_| refine condp (by assumption) ?_| refine condn (by assumption) ?_| refine condN ?_| refine idxSb (by assumption) ?_| (refine condD ?_ ?_ <;> intro hq_ <;> first | (exfalso; omega) | skip)| (refine idxS (by omega) ?_; intro b_ hb_; have hl_ := b_.toNat_lt)| refine wrA (by omega) ?_| refine wrS (by omega) (by omega) ?_| refine wrI (by omega) (by omega) ?_| refine wrBA (by omega) ?_| refine wrB (by omega) (by omega) ?_| refine strC (by omega) ?_| refine nilB rfl ?_))
 all_goals exact ⟨rfl, rfl, rfl, rfl⟩
theorem at2 {f : FuncId} {c c' X Y : List AV} {o : Out} (hc : AV.refBs c = 0) (hc' : AV.refBs c' = 0) (ho : o.val.refB = 0) (h : Ev T f [.ptr 0 0] [c] o [c']) : Ev T f [.ptr 2 0] [X, Y, c] o [X, Y, c'] := by
 have hl : okL [2] [X, Y, c].length = true := rfl
 have h1 := h.at [2] (RF := [X, Y, c]) hl rfl rfl (by simp only [List.map_cons, List.map_nil, mvs_clean _ hc]; rfl)
 rw [Out.mv_clean ho] at h1
 simp only [List.map_cons, List.map_nil, mvs_clean _ hc', scat] at h1
 exact h1
theorem fit2 {f : FuncId} {s : List UInt8} {i d : Nat} {t : List Re} {r : R} {X Y : List AV} {k : Out → Refs → Prop} (h : Fits T f [] s i d t r) (hok : ∀ a i d t, r = .ok a i d t → k (.ret (i64 a)) [X, Y, rd s i d t]) (herr : ∀ e i d t, r = .err e → k (.pan (fault e)) [X, Y, rd s i d t]) :
  CallE T f [.ptr 2 0] [X, Y, rd s i d t] k := by
 obtain ⟨o, rf', he, hp⟩ := h
 cases r with
 | ok a i' d' t' =>
   obtain ⟨rfl, rfl⟩ := hp
   exact ⟨_, _, at2 (rd_b _ _ _ _) (rd_b _ _ _ _) rfl he, hok _ _ _ _ rfl⟩
 | err e =>
   obtain ⟨i', d', t', rfl, rfl⟩ := hp
   exact ⟨_, _, at2 (rd_b _ _ _ _) (rd_b _ _ _ _) rfl he, herr _ _ _ _ rfl⟩
theorem defE {f : FuncId} {args : List AV} {m : Option AV} {rf : Refs} {o : Out} {m' : Option AV} {rf' : Refs} {k : Out → Option AV → Refs → Prop} (h : EvD T f args m rf o m' rf') (h' : k o m' rf') : DefE T f args m rf k := ⟨o, m', rf', h, h'⟩
theorem parse_err {s : List UInt8} {e : Nat} (h : allM s 31 0 0 [] = .err e) : parse s = .error e := by unfold parse; rw [h]
theorem parse_9 {s : List UInt8} {a i d : Nat} {t : List Re} (h : allM s 31 0 0 [] = .ok a i d t) (hi : i < s.length) : parse s = .error 9 := by unfold parse; rw [h]; exact if_pos hi
theorem parse_ok {s : List UInt8} {a i d : Nat} {t : List Re} (h : allM s 31 0 0 [] = .ok a i d t) (hi : ¬ i < s.length) : parse s = .ok t := by unfold parse; rw [h]; exact if_neg hi
theorem rRd_ev (s : List UInt8) (hs : s.length ≤ 2 ^ 30) (rf : Refs) : Ev T f_regex_Read [str s] rf (.ret (resT (parse s))) rf := by
 have hall := allM_ev (T := T) s hs 30 0 0 [] rfl (Nat.zero_le _) (by simp)
 have key : ∀ (a i d : Nat) (t : List Re), allM s 31 0 0 [] = .ok a i d t → Ev T f_regex_Read [str s] [] (.ret (resT (parse s))) [] := fun a i d t hr => by
  by_cases hi : i < s.length
  ·rw [parse_9 hr hi]
   cases t <;>
   (refine ev_fn rfl rfl ?_
    (repeat' (first| (intro (u_ : Unit); clear u_)| refine condT ?_| refine condF ?_| refine condp (by assumption) ?_| refine condn (by assumption) ?_| refine condN ?_| refine idxSb (by assumption) ?_| refine fit2 hall (fun a_ i_ d_ t_ hr_ => ?_) (fun e_ i_ d_ t_ hr_ => absurd (hr.symm.trans hr_) (fun h => by cases h))| (have he_ := hr.symm.trans hr_; clear hr_; cases he_)| refine defE (rec_ev _ _ _ _ rfl rfl) ?_| refine defE (norec_ev _ _ _) ?_| (refine condD ?_ ?_ <;> intro hq_ <;> first | (exfalso; omega) | skip)| (refine idxS (by omega) ?_; intro b_ hb_; have hl_ := b_.toNat_lt)| refine wrA (by omega) ?_| refine wrS (by omega) (by omega) ?_| refine wrI (by omega) (by omega) ?_| refine wrBA (by omega) ?_| refine wrB (by omega) (by omega) ?_| refine strC (by omega) ?_| refine nilB rfl ?_))
    exact ⟨rfl, rfl⟩)
  ·rw [parse_ok hr hi]
   cases t <;>
   (refine ev_fn rfl rfl ?_
    (repeat' (first| (intro (u_ : Unit); clear u_)| refine condT ?_| refine condF ?_| refine condp (by assumption) ?_| refine condn (by assumption) ?_| refine condN ?_| refine idxSb (by assumption) ?_| refine fit2 hall (fun a_ i_ d_ t_ hr_ => ?_) (fun e_ i_ d_ t_ hr_ => absurd (hr.symm.trans hr_) (fun h => by cases h))| (have he_ := hr.symm.trans hr_; clear hr_; cases he_)| refine defE (rec_ev _ _ _ _ rfl rfl) ?_| refine defE (norec_ev _ _ _) ?_| (refine condD ?_ ?_ <;> intro hq_ <;> first | (exfalso; omega) | skip)| (refine idxS (by omega) ?_; intro b_ hb_; have hl_ := b_.toNat_lt)| refine wrA (by omega) ?_| refine wrS (by omega) (by omega) ?_| refine wrI (by omega) (by omega) ?_| refine wrBA (by omega) ?_| refine wrB (by omega) (by omega) ?_| refine strC (by omega) ?_| refine nilB rfl ?_))
    exact ⟨rfl, rfl⟩)
 refine Ev.any ?_ rfl rf
 cases hr : allM s 31 0 0 [] with
 | err e =>
   rw [parse_err hr]
   refine ev_fn rfl rfl ?_
   (repeat' (first| (intro (u_ : Unit); clear u_)| refine condT ?_| refine condF ?_| refine condp (by assumption) ?_| refine condn (by assumption) ?_| refine condN ?_| refine idxSb (by assumption) ?_| refine fit2 hall (fun a_ i_ d_ t_ hr_ => absurd (hr.symm.trans hr_) (fun h => by cases h)) (fun e_ i_ d_ t_ hr_ => ?_)| refine defE (rec_ev _ _ _ _ rfl rfl) ?_| refine defE (norec_ev _ _ _) ?_| (refine condD ?_ ?_ <;> intro hq_ <;> first | (exfalso; omega) | skip)| (refine idxS (by omega) ?_; intro b_ hb_; have hl_ := b_.toNat_lt)| refine wrA (by omega) ?_| refine wrS (by omega) (by omega) ?_| refine wrI (by omega) (by omega) ?_| refine wrBA (by omega) ?_| refine wrB (by omega) (by omega) ?_| refine strC (by omega) ?_| refine nilB rfl ?_))
   cases hr.symm.trans hr_
   exact ⟨rfl, rfl⟩
 | ok a i d t => exact key a i d t hr
end Go.Ab.R05
