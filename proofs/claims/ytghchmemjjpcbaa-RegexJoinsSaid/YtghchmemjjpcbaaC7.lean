/- A part of the proof: tools. No condition. -/
import Derived.Test.YtghchmemjjpcbaaC5
import Derived.Test.YtghchmemjjpcbaaC6
import Derived.Test.YtghchmemjjpcbaaL3
set_option linter.all false
namespace Go.Ab.R05j
set_option maxRecDepth 100000
set_option linter.all false
set_option maxHeartbeats 4000000
variable {T : Tb} [hT : Base T]
theorem ev_callB {T : Tb} [hT : Base T] {f : FuncId} {args : List AV} {rf : Refs} {o : Out} {rf' : Refs} {af : AFn} (hne : orcF.contains f = false) (hf : lookupF tabl f = some af)
  (h : WP T af.body { sl := enterS args 0, rf := rf, nb := rf.length } (EndX af rf.length o rf' .nrm) (EndX af rf.length o rf')) : Ev T f args rf o rf' := by
 exact ev_call (hT.none f args hne) (by rw [hT.tb]; exact hf) h
def wd (n i : Nat) : Nat := n / 2 ^ (64 * i) % 2 ^ 64
def wdv (n i : Nat) : AV := .nat .u64 (wd n i)
def clsC (n : Nat) : List AV := [wdv n 0, wdv n 1, wdv n 2, wdv n 3]
def cls (n : Nat) : AV := .agg (clsC n)
theorem clsC_get {n j : Nat} (h : j < 4) : (clsC n)[j]? = some (.d (.int .u64 (wd n j : Nat))) := by
 rcases j with _ | _ | _ | _ | j
 ·rfl
 ·rfl
 ·rfl
 ·rfl
 ·omega
theorem get_last (rf : Refs) (x : List AV) : (rf ++ [x])[rf.length]? = some x := by simp
theorem wd_bit (n c : Nat) : wd n (c / 64) / 2 ^ (c % 64) % 2 = (n.testBit c).toNat := by
 have h : (n / 2 ^ (64 * (c / 64)) % 2 ^ 64).testBit (c % 64) = n.testBit c := by
  rw [Nat.testBit_mod_two_pow, Nat.testBit_div_two_pow]
  have : c % 64 < 64 := Nat.mod_lt _ (by omega)
  rw [show c % 64 + 64 * (c / 64) = c by omega]
  simp [this]
 rw [← h, Nat.testBit_eq_decide_div_mod_eq]
 unfold wd
 generalize n / 2 ^ (64 * (c / 64)) % 2 ^ 64 / 2 ^ (c % 64) = y
 rcases Nat.mod_two_eq_zero_or_one y with h | h <;> simp [h]
theorem Has_ev (n c : Nat) (hc : c < 256) (rf : Refs) : Ev T f_class_Has [cls n, u8 c] rf (.ret (bl (n.testBit c))) rf := by
 have hb : n.testBit c = decide (wd n (c / 64) / 2 ^ (c % 64) % 2 = 1) := by
  rw [wd_bit]; cases n.testBit c <;> rfl
 have hw : wd n (c / 64) < 2 ^ 64 := Nat.mod_lt _ (by omega)
 have hw2 := Nat.div_le_self (wd n (c / 64)) (2 ^ (c % 64))
 rw [hb]
 refine ev_callB rfl rfl ?_
 repeat (first | (first| refine o_asgd rfl rfl ?_| refine o_asgo rfl rfl ?_| refine o_movd rfl rfl ?_| refine o_movp rfl rfl ?_| refine o_mova rfl rfl ?_| refine o_mov rfl rfl ?_| refine o_quon rfl rfl rfl (by (first | omega | (simp only [mm]; omega))) (by decide) (by (first | omega | (simp only [mm]; omega))) ?_| refine o_remn rfl rfl rfl (by (first | omega | (simp only [mm]; omega))) ?_| refine o_shrn rfl rfl rfl (by (first | omega | (simp only [mm]; omega))) ?_| refine o_andn rfl rfl rfl (by (first | omega | (simp only [mm]; omega))) (by (first | omega | (simp only [mm]; omega))) (by decide) ?_| refine o_eqln rfl rfl rfl ?_| refine o_eqs rfl rfl rfl ?_| refine op_nil ?_| refine o_bin rfl rfl rfl rfl ?_) | (first| refine wp_seq ?_| refine wp_ops ?_| refine wp_keep ?_| refine keepN (by (simp +decide only [Slots.keep, Slots.get, reduceIte]); exact rfl) ?_| refine wp_block ?_| refine wp_skip ?_| refine wp_ret ?_| refine wp_exit ?_| refine bx_ret ?_| refine bx_here ?_| refine bx_exit rfl ?_))
 refine o_box rfl rfl rfl rfl ?_
 repeat (first | (first| refine o_asgd rfl rfl ?_| refine o_asgo rfl rfl ?_| refine o_movd rfl rfl ?_| refine o_movp rfl rfl ?_| refine o_mova rfl rfl ?_| refine o_mov rfl rfl ?_| refine o_quon rfl rfl rfl (by (first | omega | (simp only [mm]; omega))) (by decide) (by (first | omega | (simp only [mm]; omega))) ?_| refine o_remn rfl rfl rfl (by (first | omega | (simp only [mm]; omega))) ?_| refine o_shrn rfl rfl rfl (by (first | omega | (simp only [mm]; omega))) ?_| refine o_andn rfl rfl rfl (by (first | omega | (simp only [mm]; omega))) (by (first | omega | (simp only [mm]; omega))) (by decide) ?_| refine o_eqln rfl rfl rfl ?_| refine o_eqs rfl rfl rfl ?_| refine op_nil ?_| refine o_bin rfl rfl rfl rfl ?_) | (first| refine wp_seq ?_| refine wp_ops ?_| refine wp_keep ?_| refine keepN (by (simp +decide only [Slots.keep, Slots.get, reduceIte]); exact rfl) ?_| refine wp_block ?_| refine wp_skip ?_| refine wp_ret ?_| refine wp_exit ?_| refine bx_ret ?_| refine bx_here ?_| refine bx_exit rfl ?_))
 refine o_idxA (j := c / 64) rfl rfl rfl rfl (by omega) ?_
 refine o_load rfl rfl (get_last _ _) (clsC_get (j := 0 + c / 64 * 1) (by omega)) ?_
 rw [show 0 + c / 64 * 1 = c / 64 by omega]
 generalize wd n (c / 64) = w at *
 repeat (first | (first| refine o_asgd rfl rfl ?_| refine o_asgo rfl rfl ?_| refine o_movd rfl rfl ?_| refine o_movp rfl rfl ?_| refine o_mova rfl rfl ?_| refine o_mov rfl rfl ?_| refine o_quon rfl rfl rfl (by (first | omega | (simp only [mm]; omega))) (by decide) (by (first | omega | (simp only [mm]; omega))) ?_| refine o_remn rfl rfl rfl (by (first | omega | (simp only [mm]; omega))) ?_| refine o_shrn rfl rfl rfl (by (first | omega | (simp only [mm]; omega))) ?_| refine o_andn rfl rfl rfl (by (first | omega | (simp only [mm]; omega))) (by (first | omega | (simp only [mm]; omega))) (by decide) ?_| refine o_eqln rfl rfl rfl ?_| refine o_eqs rfl rfl rfl ?_| refine op_nil ?_| refine o_bin rfl rfl rfl rfl ?_) | (first| refine wp_seq ?_| refine wp_ops ?_| refine wp_keep ?_| refine keepN (by (simp +decide only [Slots.keep, Slots.get, reduceIte]); exact rfl) ?_| refine wp_block ?_| refine wp_skip ?_| refine wp_ret ?_| refine wp_exit ?_| refine bx_ret ?_| refine bx_here ?_| refine bx_exit rfl ?_))
 refine end1 rfl rfl rfl ?_ (by first | rfl | simp)
 rw [Nat.and_one_is_mod]
theorem wd_testBit (n i j : Nat) : (wd n i).testBit j = (decide (j < 64) && n.testBit (j + 64 * i)) := by
 unfold wd
 rw [Nat.testBit_mod_two_pow, Nat.testBit_div_two_pow]
theorem wd_or (n m i : Nat) : wd (n ||| m) i = wd n i ||| wd m i := by
 apply Nat.eq_of_testBit_eq
 intro j
 rw [Nat.testBit_or, wd_testBit, wd_testBit, wd_testBit, Nat.testBit_or]
 cases decide (j < 64) <;> simp
theorem wd_lt (n i : Nat) : wd n i < 2 ^ 64 := Nat.mod_lt _ (by omega)
def notN (n : Nat) : Nat := 2 ^ 256 - 1 - n % 2 ^ 256
theorem notN_bit (n c : Nat) : (notN n).testBit c = (decide (c < 256) && !n.testBit c) := by
 unfold notN
 rw [show 2 ^ 256 - 1 - n % 2 ^ 256 = 2 ^ 256 - (n % 2 ^ 256 + 1) by omega, Nat.testBit_two_pow_sub_succ (Nat.mod_lt _ (by omega)), Nat.testBit_mod_two_pow]
 cases h : decide (c < 256) <;> simp
theorem wd_not (n i : Nat) (hi : i < 4) : wd (notN n) i = 2 ^ 64 - 1 - wd n i := by
 apply Nat.eq_of_testBit_eq
 intro j
 have hl := wd_lt n i
 rw [show 2 ^ 64 - 1 - wd n i = 2 ^ 64 - (wd n i + 1) by omega, Nat.testBit_two_pow_sub_succ hl, wd_testBit, wd_testBit, notN_bit]
 by_cases h : j < 64
 ·have : j + 64 * i < 256 := by omega
  simp [h, this]
 ·simp [h]
def mixC (n m i : Nat) : List AV := (List.range 4).map fun j => .nat .u64 (if j < i then wd n j else wd m j)
theorem mixC_0 (n m : Nat) : mixC n m 0 = clsC m := rfl
theorem mixC_4 (n m : Nat) : mixC n m 4 = clsC n := rfl
theorem mixC_get {n m i : Nat} (h : i < 4) : (mixC n m i)[i]? = some (.d (.int .u64 (wd m i : Nat))) := by
 rcases i with _ | _ | _ | _ | i <;> first | rfl | omega
theorem mixC_set {n m i : Nat} {v : Nat} (h : i < 4) (hv : v = wd n i) : (mixC n m i).set i (.d (.int .u64 (v : Nat))) = mixC n m (i + 1) := by
 subst hv
 rcases i with _ | _ | _ | _ | i <;> first | rfl | omega
theorem mixC_length (n m i : Nat) : (mixC n m i).length = 4 := rfl
def z4 : List AV := [.nat .u64 0, .nat .u64 0, .nat .u64 0, .nat .u64 0]
theorem bn_not64 {a : Nat} (ha : a < 18446744073709551616) : unA .xor (.d (.int .u64 a)) = some (.d (.int .u64 ((18446744073709551615 - a : Nat) : Int))) := by
 have hm : ((a : Nat) : Int) ≤ IntKind.u64.max := by rw [mU]; omega
 have e1 : BitVec.ofInt IntKind.u64.bits (if IntKind.u64.signed then -1 else IntKind.u64.max) = BitVec.allOnes IntKind.u64.bits := by decide
 have e2 : (BitVec.allOnes IntKind.u64.bits ^^^ BitVec.ofInt IntKind.u64.bits (a : Int)).toNat = 18446744073709551615 - a := by
  rw [BitVec.allOnes_xor, BitVec.toNat_not, toInt_ofInt_nat (max_lt hm)]
  rfl
 simp only [unA]
 rw [e1, e2, wrap_bits (by decide) (by rw [mU]; omega)]
section
variable {sl : Slots} {rf : Refs} {df : List (AV × List AV)} {pn : Option (Option AV)} {nb : Nat} {N : St → Prop} {X : Ex → St → Prop} {r : List AOp} {d : Nat} {g : Option (Nat × Bool)} {may : Bool}
theorem o_not64 {x : Opd} {a : Nat} (hg : wantedL sl g = some true) (hx : getO sl x = some (.d (.int .u64 a))) (ha : a < 18446744073709551616) (h : OP T r ⟨(d, .d (.int .u64 ((18446744073709551615 - a : Nat) : Int))) :: sl, rf, df, pn, nb⟩ N X) : OP T (⟨some d, .un .xor x, g, may⟩ :: r) ⟨sl, rf, df, pn, nb⟩ N X :=
 o_pure hg (by simp only [stepOp, hx, bn_not64 ha]; rfl) h
end
theorem rfget0 (rf : Refs) (a : List AV) (x : List (List AV)) : (rf ++ a :: x)[rf.length]? = some a := by simp
theorem rfget1 (rf : Refs) (a b : List AV) (x : List (List AV)) : (rf ++ a :: b :: x)[rf.length + 1]? = some b := by simp
theorem rfget2 (rf : Refs) (a b c : List AV) (x : List (List AV)) : (rf ++ a :: b :: c :: x)[rf.length + 2]? = some c := by simp
theorem rfset0 (rf : Refs) (a y : List AV) (x : List (List AV)) : (rf ++ a :: x).set rf.length y = rf ++ y :: x := by simp
theorem rfset1 (rf : Refs) (a b y : List AV) (x : List (List AV)) : (rf ++ a :: b :: x).set (rf.length + 1) y = rf ++ a :: y :: x := by simp
theorem rfset2 (rf : Refs) (a b c y : List AV) (x : List (List AV)) : (rf ++ a :: b :: c :: x).set (rf.length + 2) y = rf ++ a :: b :: y :: x := by simp
section
variable {sl : Slots} {rf : Refs} {df : List (AV × List AV)} {pn : Option (Option AV)} {nb : Nat} {N : St → Prop} {X : Ex → St → Prop} {r : List AOp} {d : Nat} {g : Option (Nat × Bool)} {may : Bool}
theorem end_cls {af : AFn} {n t q k : Nat} {rf' : Refs} (hk : af.keep = false) (hr : af.res = [.cell t (some 4)]) (hv : sl.get t = some (.ptr q 0)) (hg : rf[q]? = some (clsC k)) (hrf : rf' = rf.take n) : EndX af n (.ret (cls k)) rf' .ret ⟨sl, rf, [], pn, nb⟩ :=
 .ret (v := cls k) rfl (by rw [hr, hk]; simp only [resOf, resOf0, resAs, resA, hv, loadAt, Refs.cellsAt, hg]; rfl) (by simp [cls, clsC, wdv, AV.nat, AV.refB, AV.refBs]) rfl hrf
theorem o_lcls {a : Opd} {q k : Nat} (hg : wantedL sl g = some true) (ha : getO sl a = some (.ptr q 0)) (hr : rf[q]? = some (clsC k)) (h : OP T r ⟨(d, cls k) :: sl, rf, df, pn, nb⟩ N X) :
  OP T (⟨some d, .load (some 4) a, g, may⟩ :: r) ⟨sl, rf, df, pn, nb⟩ N X :=
 o_loada hg ha hr (Nat.le_refl 4) rfl h
theorem o_scls {a x : Opd} {q k : Nat} {cs : List AV} {rf' : Refs} (hg : wantedL sl g = some true) (ha : getO sl a = some (.ptr q 0)) (hx : rawO sl x = some (cls k)) (hr : rf[q]? = some cs) (hl : cs.length = 4) (hrf : rf.set q (clsC k) = rf') (h : OP T r ⟨sl, rf', df, pn, nb⟩ N X) (hm : isMp cs = false := by rfl) :
  OP T (⟨none, .store 4 a x, g, may⟩ :: r) ⟨sl, rf, df, pn, nb⟩ N X := by
 subst hrf
 refine o_store hg ha hx (fun _ h => by cases h) rfl rfl rfl hr (by omega) (.inl (by simp [cls, clsC, wdv, AV.nat, AV.cellsO, AV.strips, AV.strip, AV.refBs, AV.refB])) ?_ h (hm := hm)
 obtain ⟨a, b, c, d, rfl⟩ : ∃ a b c d, cs = [a, b, c, d] := by
  rcases cs with _ | ⟨a, _ | ⟨b, _ | ⟨c, _ | ⟨d, _ | ⟨e, cs⟩⟩⟩⟩⟩ <;> simp at hl
  exact ⟨a, b, c, d, rfl⟩
 rfl
end
theorem Or_ev (n m : Nat) (rf : Refs) : Ev T f_class_Or [cls n, cls m] rf (.ret (cls (n ||| m))) rf := by
 refine ev_callB rfl rfl ?_
 repeat (first | (first| refine o_movd rfl rfl ?_| refine o_movp rfl rfl ?_| refine o_mova rfl rfl ?_| refine o_mov rfl rfl ?_| refine o_lssn rfl rfl rfl ?_| refine o_asgd rfl rfl ?_| refine o_asgo rfl rfl ?_| refine o_orn rfl rfl rfl (by (first | omega | (simp only [mm]; omega))) (by (first | omega | (simp only [mm]; omega))) (by decide) ?_| refine o_addkn rfl rfl rfl (by decide) (by (first | omega | (simp only [mm]; omega))) ?_| refine o_cat rfl rfl rfl (by (first | omega | (simp only [mm]; omega))) ?_| refine o_add rfl rfl rfl (by omega) (by omega) ?_| refine op_nil ?_| refine o_bin rfl rfl rfl rfl ?_) | (first| refine wp_seq ?_| refine wp_ops ?_| refine wp_keep ?_| refine keepN (by (simp +decide only [Slots.keep, Slots.get, reduceIte]); exact rfl) ?_| refine wp_block ?_| refine wp_skip ?_| refine wp_ret ?_| refine wp_exit ?_| refine bx_ret ?_| refine bx_here ?_| refine bx_exit rfl ?_))
 refine o_box rfl rfl rfl rfl ?_
 refine o_box rfl rfl rfl rfl ?_
 refine o_alloc rfl ?_
 repeat (first | (first| refine o_movd rfl rfl ?_| refine o_movp rfl rfl ?_| refine o_mova rfl rfl ?_| refine o_mov rfl rfl ?_| refine o_lssn rfl rfl rfl ?_| refine o_asgd rfl rfl ?_| refine o_asgo rfl rfl ?_| refine o_orn rfl rfl rfl (by (first | omega | (simp only [mm]; omega))) (by (first | omega | (simp only [mm]; omega))) (by decide) ?_| refine o_addkn rfl rfl rfl (by decide) (by (first | omega | (simp only [mm]; omega))) ?_| refine o_cat rfl rfl rfl (by (first | omega | (simp only [mm]; omega))) ?_| refine o_add rfl rfl rfl (by omega) (by omega) ?_| refine op_nil ?_| refine o_bin rfl rfl rfl rfl ?_) | (first| refine wp_seq ?_| refine wp_ops ?_| refine wp_keep ?_| refine keepN (by (simp +decide only [Slots.keep, Slots.get, reduceIte]); exact rfl) ?_| refine wp_block ?_| refine wp_skip ?_| refine wp_ret ?_| refine wp_exit ?_| refine bx_ret ?_| refine bx_here ?_| refine bx_exit rfl ?_))
 simp only [List.length_append, List.length_cons, List.length_nil, List.append_assoc, List.cons_append, List.nil_append, Nat.zero_add, Nat.add_assoc, Nat.reduceAdd]
 refine wp_loop (m := 4) (fun k st => ∃ i : Nat, i + k = 4 ∧ st = ⟨[(2, .ptr rf.length 0), (3, .ptr (rf.length + 1) 0), (4, .ptr (rf.length + 2) 0), (6, i64 i)], rf ++ [mixC (n ||| m) n i, clsC m, z4], [], none, rf.length⟩) ⟨0, by omega, rfl⟩ ?_
 rintro k st ⟨i, hik, rfl⟩ -
 repeat (first | (first| refine o_movd rfl rfl ?_| refine o_movp rfl rfl ?_| refine o_mova rfl rfl ?_| refine o_mov rfl rfl ?_| refine o_lssn rfl rfl rfl ?_| refine o_asgd rfl rfl ?_| refine o_asgo rfl rfl ?_| refine o_orn rfl rfl rfl (by (first | omega | (simp only [mm]; omega))) (by (first | omega | (simp only [mm]; omega))) (by decide) ?_| refine o_addkn rfl rfl rfl (by decide) (by (first | omega | (simp only [mm]; omega))) ?_| refine o_cat rfl rfl rfl (by (first | omega | (simp only [mm]; omega))) ?_| refine o_add rfl rfl rfl (by omega) (by omega) ?_| refine op_nil ?_| refine o_bin rfl rfl rfl rfl ?_) | (first| refine wp_seq ?_| refine wp_ops ?_| refine wp_keep ?_| refine keepN (by (simp +decide only [Slots.keep, Slots.get, reduceIte]); exact rfl) ?_| refine wp_block ?_| refine wp_skip ?_| refine wp_ret ?_| refine wp_exit ?_| refine bx_ret ?_| refine bx_here ?_| refine bx_exit rfl ?_))
 refine wp_if rfl ?_ ?_ <;> intro hi
 ·have h1 := wd_lt n i
  have h2 := wd_lt m i
  repeat (first | (first| refine o_movd rfl rfl ?_| refine o_movp rfl rfl ?_| refine o_mova rfl rfl ?_| refine o_mov rfl rfl ?_| refine o_lssn rfl rfl rfl ?_| refine o_asgd rfl rfl ?_| refine o_asgo rfl rfl ?_| refine o_orn rfl rfl rfl (by (first | omega | (simp only [mm]; omega))) (by (first | omega | (simp only [mm]; omega))) (by decide) ?_| refine o_addkn rfl rfl rfl (by decide) (by (first | omega | (simp only [mm]; omega))) ?_| refine o_cat rfl rfl rfl (by (first | omega | (simp only [mm]; omega))) ?_| refine o_add rfl rfl rfl (by omega) (by omega) ?_| refine op_nil ?_| refine o_bin rfl rfl rfl rfl ?_) | (first| refine wp_seq ?_| refine wp_ops ?_| refine wp_keep ?_| refine keepN (by (simp +decide only [Slots.keep, Slots.get, reduceIte]); exact rfl) ?_| refine wp_block ?_| refine wp_skip ?_| refine wp_ret ?_| refine wp_exit ?_| refine bx_ret ?_| refine bx_here ?_| refine bx_exit rfl ?_))
  refine o_idxA (j := i) rfl rfl rfl rfl (by omega) ?_
  rw [show 0 + i * 1 = i by omega]
  refine o_load rfl rfl (rfget0 _ _ _) (mixC_get (by omega)) ?_
  repeat (first | (first| refine o_movd rfl rfl ?_| refine o_movp rfl rfl ?_| refine o_mova rfl rfl ?_| refine o_mov rfl rfl ?_| refine o_lssn rfl rfl rfl ?_| refine o_asgd rfl rfl ?_| refine o_asgo rfl rfl ?_| refine o_orn rfl rfl rfl (by (first | omega | (simp only [mm]; omega))) (by (first | omega | (simp only [mm]; omega))) (by decide) ?_| refine o_addkn rfl rfl rfl (by decide) (by (first | omega | (simp only [mm]; omega))) ?_| refine o_cat rfl rfl rfl (by (first | omega | (simp only [mm]; omega))) ?_| refine o_add rfl rfl rfl (by omega) (by omega) ?_| refine op_nil ?_| refine o_bin rfl rfl rfl rfl ?_) | (first| refine wp_seq ?_| refine wp_ops ?_| refine wp_keep ?_| refine keepN (by (simp +decide only [Slots.keep, Slots.get, reduceIte]); exact rfl) ?_| refine wp_block ?_| refine wp_skip ?_| refine wp_ret ?_| refine wp_exit ?_| refine bx_ret ?_| refine bx_here ?_| refine bx_exit rfl ?_))
  refine o_idxA (j := i) rfl rfl rfl rfl (by omega) ?_
  rw [show 0 + i * 1 = i by omega]
  refine o_load rfl rfl (rfget1 _ _ _ _) (clsC_get (by omega)) ?_
  repeat (first | (first| refine o_movd rfl rfl ?_| refine o_movp rfl rfl ?_| refine o_mova rfl rfl ?_| refine o_mov rfl rfl ?_| refine o_lssn rfl rfl rfl ?_| refine o_asgd rfl rfl ?_| refine o_asgo rfl rfl ?_| refine o_orn rfl rfl rfl (by (first | omega | (simp only [mm]; omega))) (by (first | omega | (simp only [mm]; omega))) (by decide) ?_| refine o_addkn rfl rfl rfl (by decide) (by (first | omega | (simp only [mm]; omega))) ?_| refine o_cat rfl rfl rfl (by (first | omega | (simp only [mm]; omega))) ?_| refine o_add rfl rfl rfl (by omega) (by omega) ?_| refine op_nil ?_| refine o_bin rfl rfl rfl rfl ?_) | (first| refine wp_seq ?_| refine wp_ops ?_| refine wp_keep ?_| refine keepN (by (simp +decide only [Slots.keep, Slots.get, reduceIte]); exact rfl) ?_| refine wp_block ?_| refine wp_skip ?_| refine wp_ret ?_| refine wp_exit ?_| refine bx_ret ?_| refine bx_here ?_| refine bx_exit rfl ?_))
  refine o_idxA (j := i) rfl rfl rfl rfl (by omega) ?_
  rw [show 0 + i * 1 = i by omega]
  refine o_store1 rfl rfl rfl (rfget0 _ _ _) (by rw [mixC_length]; omega) (mixC_set (by omega) (wd_or n m i).symm) (rfset0 _ _ _ _) ?_
  repeat (first | (first| refine o_movd rfl rfl ?_| refine o_movp rfl rfl ?_| refine o_mova rfl rfl ?_| refine o_mov rfl rfl ?_| refine o_lssn rfl rfl rfl ?_| refine o_asgd rfl rfl ?_| refine o_asgo rfl rfl ?_| refine o_orn rfl rfl rfl (by (first | omega | (simp only [mm]; omega))) (by (first | omega | (simp only [mm]; omega))) (by decide) ?_| refine o_addkn rfl rfl rfl (by decide) (by (first | omega | (simp only [mm]; omega))) ?_| refine o_cat rfl rfl rfl (by (first | omega | (simp only [mm]; omega))) ?_| refine o_add rfl rfl rfl (by omega) (by omega) ?_| refine op_nil ?_| refine o_bin rfl rfl rfl rfl ?_) | (first| refine wp_seq ?_| refine wp_ops ?_| refine wp_keep ?_| refine keepN (by (simp +decide only [Slots.keep, Slots.get, reduceIte]); exact rfl) ?_| refine wp_block ?_| refine wp_skip ?_| refine wp_ret ?_| refine wp_exit ?_| refine bx_ret ?_| refine bx_here ?_| refine bx_exit rfl ?_))
  refine ⟨by simp, k - 1, by omega, i + 1, by omega, rfl⟩
 ·have : i = 4 := by omega
  subst this
  rw [mixC_4]
  repeat (first | (first| refine o_movd rfl rfl ?_| refine o_movp rfl rfl ?_| refine o_mova rfl rfl ?_| refine o_mov rfl rfl ?_| refine o_lssn rfl rfl rfl ?_| refine o_asgd rfl rfl ?_| refine o_asgo rfl rfl ?_| refine o_orn rfl rfl rfl (by (first | omega | (simp only [mm]; omega))) (by (first | omega | (simp only [mm]; omega))) (by decide) ?_| refine o_addkn rfl rfl rfl (by decide) (by (first | omega | (simp only [mm]; omega))) ?_| refine o_cat rfl rfl rfl (by (first | omega | (simp only [mm]; omega))) ?_| refine o_add rfl rfl rfl (by omega) (by omega) ?_| refine op_nil ?_| refine o_bin rfl rfl rfl rfl ?_) | (first| refine wp_seq ?_| refine wp_ops ?_| refine wp_keep ?_| refine keepN (by (simp +decide only [Slots.keep, Slots.get, reduceIte]); exact rfl) ?_| refine wp_block ?_| refine wp_skip ?_| refine wp_ret ?_| refine wp_exit ?_| refine bx_ret ?_| refine bx_here ?_| refine bx_exit rfl ?_))
  refine o_lcls rfl rfl (rfget0 _ _ _) ?_
  refine o_scls rfl rfl rfl (rfget2 _ _ _ _ _) rfl (rfset2 _ _ _ _ _ _) ?_
  repeat (first | (first| refine o_movd rfl rfl ?_| refine o_movp rfl rfl ?_| refine o_mova rfl rfl ?_| refine o_mov rfl rfl ?_| refine o_lssn rfl rfl rfl ?_| refine o_asgd rfl rfl ?_| refine o_asgo rfl rfl ?_| refine o_orn rfl rfl rfl (by (first | omega | (simp only [mm]; omega))) (by (first | omega | (simp only [mm]; omega))) (by decide) ?_| refine o_addkn rfl rfl rfl (by decide) (by (first | omega | (simp only [mm]; omega))) ?_| refine o_cat rfl rfl rfl (by (first | omega | (simp only [mm]; omega))) ?_| refine o_add rfl rfl rfl (by omega) (by omega) ?_| refine op_nil ?_| refine o_bin rfl rfl rfl rfl ?_) | (first| refine wp_seq ?_| refine wp_ops ?_| refine wp_keep ?_| refine keepN (by (simp +decide only [Slots.keep, Slots.get, reduceIte]); exact rfl) ?_| refine wp_block ?_| refine wp_skip ?_| refine wp_ret ?_| refine wp_exit ?_| refine bx_ret ?_| refine bx_here ?_| refine bx_exit rfl ?_))
  refine end_cls rfl rfl rfl (rfget2 _ _ _ _ _) (by simp)
theorem Not_ev (n : Nat) (rf : Refs) : Ev T f_class_Not [cls n] rf (.ret (cls (notN n))) rf := by
 refine ev_callB rfl rfl ?_
 repeat (first | (first| refine o_movd rfl rfl ?_| refine o_movp rfl rfl ?_| refine o_mova rfl rfl ?_| refine o_mov rfl rfl ?_| refine o_lssn rfl rfl rfl ?_| refine o_asgd rfl rfl ?_| refine o_asgo rfl rfl ?_| refine o_addkn rfl rfl rfl (by decide) (by (first | omega | (simp only [mm]; omega))) ?_| refine o_cat rfl rfl rfl (by (first | omega | (simp only [mm]; omega))) ?_| refine o_add rfl rfl rfl (by omega) (by omega) ?_| refine op_nil ?_| refine o_bin rfl rfl rfl rfl ?_) | (first| refine wp_seq ?_| refine wp_ops ?_| refine wp_keep ?_| refine keepN (by (simp +decide only [Slots.keep, Slots.get, reduceIte]); exact rfl) ?_| refine wp_block ?_| refine wp_skip ?_| refine wp_ret ?_| refine wp_exit ?_| refine bx_ret ?_| refine bx_here ?_| refine bx_exit rfl ?_))
 refine o_box rfl rfl rfl rfl ?_
 refine o_alloc rfl ?_
 repeat (first | (first| refine o_movd rfl rfl ?_| refine o_movp rfl rfl ?_| refine o_mova rfl rfl ?_| refine o_mov rfl rfl ?_| refine o_lssn rfl rfl rfl ?_| refine o_asgd rfl rfl ?_| refine o_asgo rfl rfl ?_| refine o_addkn rfl rfl rfl (by decide) (by (first | omega | (simp only [mm]; omega))) ?_| refine o_cat rfl rfl rfl (by (first | omega | (simp only [mm]; omega))) ?_| refine o_add rfl rfl rfl (by omega) (by omega) ?_| refine op_nil ?_| refine o_bin rfl rfl rfl rfl ?_) | (first| refine wp_seq ?_| refine wp_ops ?_| refine wp_keep ?_| refine keepN (by (simp +decide only [Slots.keep, Slots.get, reduceIte]); exact rfl) ?_| refine wp_block ?_| refine wp_skip ?_| refine wp_ret ?_| refine wp_exit ?_| refine bx_ret ?_| refine bx_here ?_| refine bx_exit rfl ?_))
 simp only [List.length_append, List.length_cons, List.length_nil, List.append_assoc, List.cons_append, List.nil_append, Nat.zero_add, Nat.add_assoc, Nat.reduceAdd]
 refine wp_loop (m := 4) (fun k st => ∃ i : Nat, i + k = 4 ∧ st = ⟨[(1, .ptr rf.length 0), (2, .ptr (rf.length + 1) 0), (4, i64 i)], rf ++ [mixC (notN n) n i, z4], [], none, rf.length⟩) ⟨0, by omega, rfl⟩ ?_
 rintro k st ⟨i, hik, rfl⟩ -
 repeat (first | (first| refine o_movd rfl rfl ?_| refine o_movp rfl rfl ?_| refine o_mova rfl rfl ?_| refine o_mov rfl rfl ?_| refine o_lssn rfl rfl rfl ?_| refine o_asgd rfl rfl ?_| refine o_asgo rfl rfl ?_| refine o_addkn rfl rfl rfl (by decide) (by (first | omega | (simp only [mm]; omega))) ?_| refine o_cat rfl rfl rfl (by (first | omega | (simp only [mm]; omega))) ?_| refine o_add rfl rfl rfl (by omega) (by omega) ?_| refine op_nil ?_| refine o_bin rfl rfl rfl rfl ?_) | (first| refine wp_seq ?_| refine wp_ops ?_| refine wp_keep ?_| refine keepN (by (simp +decide only [Slots.keep, Slots.get, reduceIte]); exact rfl) ?_| refine wp_block ?_| refine wp_skip ?_| refine wp_ret ?_| refine wp_exit ?_| refine bx_ret ?_| refine bx_here ?_| refine bx_exit rfl ?_))
 refine wp_if rfl ?_ ?_ <;> intro hi
 ·have h1 := wd_lt n i
  repeat (first | (first| refine o_movd rfl rfl ?_| refine o_movp rfl rfl ?_| refine o_mova rfl rfl ?_| refine o_mov rfl rfl ?_| refine o_lssn rfl rfl rfl ?_| refine o_asgd rfl rfl ?_| refine o_asgo rfl rfl ?_| refine o_addkn rfl rfl rfl (by decide) (by (first | omega | (simp only [mm]; omega))) ?_| refine o_cat rfl rfl rfl (by (first | omega | (simp only [mm]; omega))) ?_| refine o_add rfl rfl rfl (by omega) (by omega) ?_| refine op_nil ?_| refine o_bin rfl rfl rfl rfl ?_) | (first| refine wp_seq ?_| refine wp_ops ?_| refine wp_keep ?_| refine keepN (by (simp +decide only [Slots.keep, Slots.get, reduceIte]); exact rfl) ?_| refine wp_block ?_| refine wp_skip ?_| refine wp_ret ?_| refine wp_exit ?_| refine bx_ret ?_| refine bx_here ?_| refine bx_exit rfl ?_))
  refine o_idxA (j := i) rfl rfl rfl rfl (by omega) ?_
  rw [show 0 + i * 1 = i by omega]
  refine o_load rfl rfl (rfget0 _ _ _) (mixC_get (by omega)) ?_
  refine o_not64 rfl rfl (by omega) ?_
  refine o_idxA (j := i) rfl rfl rfl rfl (by omega) ?_
  rw [show 0 + i * 1 = i by omega]
  refine o_store1 rfl rfl rfl (rfget0 _ _ _) (by rw [mixC_length]; omega) (mixC_set (by omega) (wd_not n i (by omega)).symm) (rfset0 _ _ _ _) ?_
  repeat (first | (first| refine o_movd rfl rfl ?_| refine o_movp rfl rfl ?_| refine o_mova rfl rfl ?_| refine o_mov rfl rfl ?_| refine o_lssn rfl rfl rfl ?_| refine o_asgd rfl rfl ?_| refine o_asgo rfl rfl ?_| refine o_addkn rfl rfl rfl (by decide) (by (first | omega | (simp only [mm]; omega))) ?_| refine o_cat rfl rfl rfl (by (first | omega | (simp only [mm]; omega))) ?_| refine o_add rfl rfl rfl (by omega) (by omega) ?_| refine op_nil ?_| refine o_bin rfl rfl rfl rfl ?_) | (first| refine wp_seq ?_| refine wp_ops ?_| refine wp_keep ?_| refine keepN (by (simp +decide only [Slots.keep, Slots.get, reduceIte]); exact rfl) ?_| refine wp_block ?_| refine wp_skip ?_| refine wp_ret ?_| refine wp_exit ?_| refine bx_ret ?_| refine bx_here ?_| refine bx_exit rfl ?_))
  refine ⟨by simp, k - 1, by omega, i + 1, by omega, rfl⟩
 ·have : i = 4 := by omega
  subst this
  rw [mixC_4]
  repeat (first | (first| refine o_movd rfl rfl ?_| refine o_movp rfl rfl ?_| refine o_mova rfl rfl ?_| refine o_mov rfl rfl ?_| refine o_lssn rfl rfl rfl ?_| refine o_asgd rfl rfl ?_| refine o_asgo rfl rfl ?_| refine o_addkn rfl rfl rfl (by decide) (by (first | omega | (simp only [mm]; omega))) ?_| refine o_cat rfl rfl rfl (by (first | omega | (simp only [mm]; omega))) ?_| refine o_add rfl rfl rfl (by omega) (by omega) ?_| refine op_nil ?_| refine o_bin rfl rfl rfl rfl ?_) | (first| refine wp_seq ?_| refine wp_ops ?_| refine wp_keep ?_| refine keepN (by (simp +decide only [Slots.keep, Slots.get, reduceIte]); exact rfl) ?_| refine wp_block ?_| refine wp_skip ?_| refine wp_ret ?_| refine wp_exit ?_| refine bx_ret ?_| refine bx_here ?_| refine bx_exit rfl ?_))
  refine o_lcls rfl rfl (rfget0 _ _ _) ?_
  refine o_scls rfl rfl rfl (rfget1 _ _ _ _) rfl (rfset1 _ _ _ _ _) ?_
  repeat (first | (first| refine o_movd rfl rfl ?_| refine o_movp rfl rfl ?_| refine o_mova rfl rfl ?_| refine o_mov rfl rfl ?_| refine o_lssn rfl rfl rfl ?_| refine o_asgd rfl rfl ?_| refine o_asgo rfl rfl ?_| refine o_addkn rfl rfl rfl (by decide) (by (first | omega | (simp only [mm]; omega))) ?_| refine o_cat rfl rfl rfl (by (first | omega | (simp only [mm]; omega))) ?_| refine o_add rfl rfl rfl (by omega) (by omega) ?_| refine op_nil ?_| refine o_bin rfl rfl rfl rfl ?_) | (first| refine wp_seq ?_| refine wp_ops ?_| refine wp_keep ?_| refine keepN (by (simp +decide only [Slots.keep, Slots.get, reduceIte]); exact rfl) ?_| refine wp_block ?_| refine wp_skip ?_| refine wp_ret ?_| refine wp_exit ?_| refine bx_ret ?_| refine bx_here ?_| refine bx_exit rfl ?_))
  refine end_cls rfl rfl rfl (rfget1 _ _ _ _) (by simp)
def spanN (a : Nat) : Nat → Nat
 | 0 => 0
 | k + 1 => spanN a k ||| 2 ^ (a + k)
theorem spanN_bit (a k c : Nat) : (spanN a k).testBit c = decide (a ≤ c ∧ c < a + k) := by
 induction k with
 | zero => simp [spanN]
 | succ k ih =>
   simp only [spanN, Nat.testBit_or, ih, Nat.testBit_two_pow]
   rw [Bool.eq_iff_iff]
   simp
   omega
theorem pop_spanN (a k n : Nat) (h : a + k ≤ n) : pop n (spanN a k) = k := by
 induction k with
 | zero =>
   have : ∀ n, pop n 0 = 0 := fun n => by induction n <;> simp_all [pop]
   exact this n
 | succ k ih =>
   simp only [spanN]
   rw [pop_set n _ _ (by omega) (by rw [spanN_bit]; simp), ih (by omega)]
theorem wd_pow (c i : Nat) (hi : i < 4) : wd (2 ^ c) i = if i = c / 64 then 2 ^ (c % 64) else 0 := by
 apply Nat.eq_of_testBit_eq
 intro j
 rw [wd_testBit, Nat.testBit_two_pow]
 split
 ·rename_i h
  rw [Nat.testBit_two_pow, Bool.eq_iff_iff]
  simp
  omega
 ·rw [Bool.eq_iff_iff]
  simp
  omega
theorem clsC_set (n c : Nat) (hc : c < 256) : (clsC n).set (c / 64) (.d (.int .u64 ((wd n (c / 64) ||| 1 * 2 ^ (c % 64) : Nat) : Int))) = clsC (n ||| 2 ^ c) := by
 have h : ∀ i, i < 4 → wd (n ||| 2 ^ c) i = wd n i ||| (if i = c / 64 then 2 ^ (c % 64) else 0) := fun i hi => by rw [wd_or, wd_pow c i hi]
 simp only [clsC, wdv, h 0 (by omega), h 1 (by omega), h 2 (by omega), h 3 (by omega), Nat.one_mul]
 obtain e | e | e | e : c / 64 = 0 ∨ c / 64 = 1 ∨ c / 64 = 2 ∨ c / 64 = 3 := by omega
 all_goals (rw [e]; simp; try rfl)
theorem clsC_zero (a : Nat) : clsC (spanN a 0) = z4 := by simp [clsC, wdv, wd, spanN, z4]
theorem Span_ev (a b : Nat) (ha : a < 256) (hb : b < 256) (rf : Refs) : Ev T f_class_Span [u8 a, u8 b] rf (.ret (cls (spanN a (b + 1 - a)))) rf := by
 refine ev_callB rfl rfl ?_
 repeat (first | (first| refine o_movd rfl rfl ?_| refine o_movp rfl rfl ?_| refine o_mova rfl rfl ?_| refine o_mov rfl rfl ?_| refine o_toInt rfl rfl (by (first | omega | (simp only [mm]; omega))) (by (first | omega | (simp only [mm]; omega))) ?_| refine o_asgd rfl rfl ?_| refine o_asgo rfl rfl ?_| refine o_leqn rfl rfl rfl ?_| refine o_quon rfl rfl rfl (by (first | omega | (simp only [mm]; omega))) (by decide) (by (first | omega | (simp only [mm]; omega))) ?_| refine o_remn rfl rfl rfl (by (first | omega | (simp only [mm]; omega))) ?_| refine o_shln rfl rfl rfl (by (first | omega | (simp only [mm]; omega))) (by decide) (by (first | omega | (simp only [mm]; omega))) ?_| refine o_orn rfl rfl rfl (by (first | omega | (simp only [mm]; omega))) (by (first | omega | (simp only [mm]; omega))) (by decide) ?_| refine o_addkn rfl rfl rfl (by decide) (by (first | omega | (simp only [mm]; omega))) ?_| refine o_cat rfl rfl rfl (by (first | omega | (simp only [mm]; omega))) ?_| refine o_add rfl rfl rfl (by omega) (by omega) ?_| refine op_nil ?_| refine o_bin rfl rfl rfl rfl ?_) | (first| refine wp_seq ?_| refine wp_ops ?_| refine wp_keep ?_| refine keepN (by (simp +decide only [Slots.keep, Slots.get, reduceIte]); exact rfl) ?_| refine wp_block ?_| refine wp_skip ?_| refine wp_ret ?_| refine wp_exit ?_| refine bx_ret ?_| refine bx_here ?_| refine bx_exit rfl ?_))
 refine o_alloc rfl ?_
 repeat (first | (first| refine o_movd rfl rfl ?_| refine o_movp rfl rfl ?_| refine o_mova rfl rfl ?_| refine o_mov rfl rfl ?_| refine o_toInt rfl rfl (by (first | omega | (simp only [mm]; omega))) (by (first | omega | (simp only [mm]; omega))) ?_| refine o_asgd rfl rfl ?_| refine o_asgo rfl rfl ?_| refine o_leqn rfl rfl rfl ?_| refine o_quon rfl rfl rfl (by (first | omega | (simp only [mm]; omega))) (by decide) (by (first | omega | (simp only [mm]; omega))) ?_| refine o_remn rfl rfl rfl (by (first | omega | (simp only [mm]; omega))) ?_| refine o_shln rfl rfl rfl (by (first | omega | (simp only [mm]; omega))) (by decide) (by (first | omega | (simp only [mm]; omega))) ?_| refine o_orn rfl rfl rfl (by (first | omega | (simp only [mm]; omega))) (by (first | omega | (simp only [mm]; omega))) (by decide) ?_| refine o_addkn rfl rfl rfl (by decide) (by (first | omega | (simp only [mm]; omega))) ?_| refine o_cat rfl rfl rfl (by (first | omega | (simp only [mm]; omega))) ?_| refine o_add rfl rfl rfl (by omega) (by omega) ?_| refine op_nil ?_| refine o_bin rfl rfl rfl rfl ?_) | (first| refine wp_seq ?_| refine wp_ops ?_| refine wp_keep ?_| refine keepN (by (simp +decide only [Slots.keep, Slots.get, reduceIte]); exact rfl) ?_| refine wp_block ?_| refine wp_skip ?_| refine wp_ret ?_| refine wp_exit ?_| refine bx_ret ?_| refine bx_here ?_| refine bx_exit rfl ?_))
 refine o_alloc rfl ?_
 repeat (first | (first| refine o_movd rfl rfl ?_| refine o_movp rfl rfl ?_| refine o_mova rfl rfl ?_| refine o_mov rfl rfl ?_| refine o_toInt rfl rfl (by (first | omega | (simp only [mm]; omega))) (by (first | omega | (simp only [mm]; omega))) ?_| refine o_asgd rfl rfl ?_| refine o_asgo rfl rfl ?_| refine o_leqn rfl rfl rfl ?_| refine o_quon rfl rfl rfl (by (first | omega | (simp only [mm]; omega))) (by decide) (by (first | omega | (simp only [mm]; omega))) ?_| refine o_remn rfl rfl rfl (by (first | omega | (simp only [mm]; omega))) ?_| refine o_shln rfl rfl rfl (by (first | omega | (simp only [mm]; omega))) (by decide) (by (first | omega | (simp only [mm]; omega))) ?_| refine o_orn rfl rfl rfl (by (first | omega | (simp only [mm]; omega))) (by (first | omega | (simp only [mm]; omega))) (by decide) ?_| refine o_addkn rfl rfl rfl (by decide) (by (first | omega | (simp only [mm]; omega))) ?_| refine o_cat rfl rfl rfl (by (first | omega | (simp only [mm]; omega))) ?_| refine o_add rfl rfl rfl (by omega) (by omega) ?_| refine op_nil ?_| refine o_bin rfl rfl rfl rfl ?_) | (first| refine wp_seq ?_| refine wp_ops ?_| refine wp_keep ?_| refine keepN (by (simp +decide only [Slots.keep, Slots.get, reduceIte]); exact rfl) ?_| refine wp_block ?_| refine wp_skip ?_| refine wp_ret ?_| refine wp_exit ?_| refine bx_ret ?_| refine bx_here ?_| refine bx_exit rfl ?_))
 simp only [List.length_append, List.length_cons, List.length_nil, List.append_assoc, List.cons_append, List.nil_append, Nat.zero_add, Nat.add_assoc, Nat.reduceAdd]
 refine wp_loop (m := b + 1 - a) (fun k st => ∃ i : Nat, i + k = b + 1 - a ∧ st = ⟨[(1, u8 b), (4, .ptr rf.length 0), (5, .ptr (rf.length + 1) 0), (6, i64 (a + i : Nat))], rf ++ [z4, clsC (spanN a i)], [], none, rf.length⟩) ⟨0, by omega, by rw [clsC_zero]; rfl⟩ ?_
 rintro k st ⟨i, hik, rfl⟩ -
 repeat (first | (first| refine o_movd rfl rfl ?_| refine o_movp rfl rfl ?_| refine o_mova rfl rfl ?_| refine o_mov rfl rfl ?_| refine o_toInt rfl rfl (by (first | omega | (simp only [mm]; omega))) (by (first | omega | (simp only [mm]; omega))) ?_| refine o_asgd rfl rfl ?_| refine o_asgo rfl rfl ?_| refine o_leqn rfl rfl rfl ?_| refine o_quon rfl rfl rfl (by (first | omega | (simp only [mm]; omega))) (by decide) (by (first | omega | (simp only [mm]; omega))) ?_| refine o_remn rfl rfl rfl (by (first | omega | (simp only [mm]; omega))) ?_| refine o_shln rfl rfl rfl (by (first | omega | (simp only [mm]; omega))) (by decide) (by (first | omega | (simp only [mm]; omega))) ?_| refine o_orn rfl rfl rfl (by (first | omega | (simp only [mm]; omega))) (by (first | omega | (simp only [mm]; omega))) (by decide) ?_| refine o_addkn rfl rfl rfl (by decide) (by (first | omega | (simp only [mm]; omega))) ?_| refine o_cat rfl rfl rfl (by (first | omega | (simp only [mm]; omega))) ?_| refine o_add rfl rfl rfl (by omega) (by omega) ?_| refine op_nil ?_| refine o_bin rfl rfl rfl rfl ?_) | (first| refine wp_seq ?_| refine wp_ops ?_| refine wp_keep ?_| refine keepN (by (simp +decide only [Slots.keep, Slots.get, reduceIte]); exact rfl) ?_| refine wp_block ?_| refine wp_skip ?_| refine wp_ret ?_| refine wp_exit ?_| refine bx_ret ?_| refine bx_here ?_| refine bx_exit rfl ?_))
 refine wp_if rfl ?_ ?_ <;> intro hi
 ·have hc : a + i < 256 := by omega
  have h1 := wd_lt (spanN a i) ((a + i) / 64)
  have h2 : 1 * 2 ^ ((a + i) % 64) ≤ 2 ^ 63 := by rw [Nat.one_mul]; exact Nat.pow_le_pow_right (by omega) (by omega)
  repeat (first | (first| refine o_movd rfl rfl ?_| refine o_movp rfl rfl ?_| refine o_mova rfl rfl ?_| refine o_mov rfl rfl ?_| refine o_toInt rfl rfl (by (first | omega | (simp only [mm]; omega))) (by (first | omega | (simp only [mm]; omega))) ?_| refine o_asgd rfl rfl ?_| refine o_asgo rfl rfl ?_| refine o_leqn rfl rfl rfl ?_| refine o_quon rfl rfl rfl (by (first | omega | (simp only [mm]; omega))) (by decide) (by (first | omega | (simp only [mm]; omega))) ?_| refine o_remn rfl rfl rfl (by (first | omega | (simp only [mm]; omega))) ?_| refine o_shln rfl rfl rfl (by (first | omega | (simp only [mm]; omega))) (by decide) (by (first | omega | (simp only [mm]; omega))) ?_| refine o_orn rfl rfl rfl (by (first | omega | (simp only [mm]; omega))) (by (first | omega | (simp only [mm]; omega))) (by decide) ?_| refine o_addkn rfl rfl rfl (by decide) (by (first | omega | (simp only [mm]; omega))) ?_| refine o_cat rfl rfl rfl (by (first | omega | (simp only [mm]; omega))) ?_| refine o_add rfl rfl rfl (by omega) (by omega) ?_| refine op_nil ?_| refine o_bin rfl rfl rfl rfl ?_) | (first| refine wp_seq ?_| refine wp_ops ?_| refine wp_keep ?_| refine keepN (by (simp +decide only [Slots.keep, Slots.get, reduceIte]); exact rfl) ?_| refine wp_block ?_| refine wp_skip ?_| refine wp_ret ?_| refine wp_exit ?_| refine bx_ret ?_| refine bx_here ?_| refine bx_exit rfl ?_))
  refine o_idxA (j := (a + i) / 64) rfl rfl rfl rfl (by omega) ?_
  rw [show 0 + (a + i) / 64 * 1 = (a + i) / 64 by omega]
  refine o_load rfl rfl (rfget1 _ _ _ _) (clsC_get (by omega)) ?_
  refine o_movd rfl rfl ?_
  refine o_remn rfl rfl rfl (by omega) ?_
  refine o_shln (a := 1) rfl rfl rfl (by show _ ≤ 64; omega) (by decide) (by rw [mU]; omega) ?_
  refine o_orn rfl rfl rfl (by rw [mU]; omega) (by rw [mU]; omega) (by decide) ?_
  refine o_idxA (j := (a + i) / 64) rfl rfl rfl rfl (by omega) ?_
  rw [show 0 + (a + i) / 64 * 1 = (a + i) / 64 by omega]
  refine o_store1 rfl rfl rfl (rfget1 _ _ _ _) (by show _ < 4; omega) (clsC_set _ _ hc) (rfset1 _ _ _ _ _) ?_
  repeat (first | (first| refine o_movd rfl rfl ?_| refine o_movp rfl rfl ?_| refine o_mova rfl rfl ?_| refine o_mov rfl rfl ?_| refine o_toInt rfl rfl (by (first | omega | (simp only [mm]; omega))) (by (first | omega | (simp only [mm]; omega))) ?_| refine o_asgd rfl rfl ?_| refine o_asgo rfl rfl ?_| refine o_leqn rfl rfl rfl ?_| refine o_quon rfl rfl rfl (by (first | omega | (simp only [mm]; omega))) (by decide) (by (first | omega | (simp only [mm]; omega))) ?_| refine o_remn rfl rfl rfl (by (first | omega | (simp only [mm]; omega))) ?_| refine o_shln rfl rfl rfl (by (first | omega | (simp only [mm]; omega))) (by decide) (by (first | omega | (simp only [mm]; omega))) ?_| refine o_orn rfl rfl rfl (by (first | omega | (simp only [mm]; omega))) (by (first | omega | (simp only [mm]; omega))) (by decide) ?_| refine o_addkn rfl rfl rfl (by decide) (by (first | omega | (simp only [mm]; omega))) ?_| refine o_cat rfl rfl rfl (by (first | omega | (simp only [mm]; omega))) ?_| refine o_add rfl rfl rfl (by omega) (by omega) ?_| refine op_nil ?_| refine o_bin rfl rfl rfl rfl ?_) | (first| refine wp_seq ?_| refine wp_ops ?_| refine wp_keep ?_| refine keepN (by (simp +decide only [Slots.keep, Slots.get, reduceIte]); exact rfl) ?_| refine wp_block ?_| refine wp_skip ?_| refine wp_ret ?_| refine wp_exit ?_| refine bx_ret ?_| refine bx_here ?_| refine bx_exit rfl ?_))
  refine ⟨by simp, k - 1, by omega, i + 1, by omega, rfl⟩
 ·have : i = b + 1 - a := by omega
  subst this
  repeat (first | (first| refine o_movd rfl rfl ?_| refine o_movp rfl rfl ?_| refine o_mova rfl rfl ?_| refine o_mov rfl rfl ?_| refine o_toInt rfl rfl (by (first | omega | (simp only [mm]; omega))) (by (first | omega | (simp only [mm]; omega))) ?_| refine o_asgd rfl rfl ?_| refine o_asgo rfl rfl ?_| refine o_leqn rfl rfl rfl ?_| refine o_quon rfl rfl rfl (by (first | omega | (simp only [mm]; omega))) (by decide) (by (first | omega | (simp only [mm]; omega))) ?_| refine o_remn rfl rfl rfl (by (first | omega | (simp only [mm]; omega))) ?_| refine o_shln rfl rfl rfl (by (first | omega | (simp only [mm]; omega))) (by decide) (by (first | omega | (simp only [mm]; omega))) ?_| refine o_orn rfl rfl rfl (by (first | omega | (simp only [mm]; omega))) (by (first | omega | (simp only [mm]; omega))) (by decide) ?_| refine o_addkn rfl rfl rfl (by decide) (by (first | omega | (simp only [mm]; omega))) ?_| refine o_cat rfl rfl rfl (by (first | omega | (simp only [mm]; omega))) ?_| refine o_add rfl rfl rfl (by omega) (by omega) ?_| refine op_nil ?_| refine o_bin rfl rfl rfl rfl ?_) | (first| refine wp_seq ?_| refine wp_ops ?_| refine wp_keep ?_| refine keepN (by (simp +decide only [Slots.keep, Slots.get, reduceIte]); exact rfl) ?_| refine wp_block ?_| refine wp_skip ?_| refine wp_ret ?_| refine wp_exit ?_| refine bx_ret ?_| refine bx_here ?_| refine bx_exit rfl ?_))
  refine o_lcls rfl rfl (rfget1 _ _ _ _) ?_
  refine o_scls rfl rfl rfl (rfget0 _ _ _) rfl (rfset0 _ _ _ _) ?_
  repeat (first | (first| refine o_movd rfl rfl ?_| refine o_movp rfl rfl ?_| refine o_mova rfl rfl ?_| refine o_mov rfl rfl ?_| refine o_toInt rfl rfl (by (first | omega | (simp only [mm]; omega))) (by (first | omega | (simp only [mm]; omega))) ?_| refine o_asgd rfl rfl ?_| refine o_asgo rfl rfl ?_| refine o_leqn rfl rfl rfl ?_| refine o_quon rfl rfl rfl (by (first | omega | (simp only [mm]; omega))) (by decide) (by (first | omega | (simp only [mm]; omega))) ?_| refine o_remn rfl rfl rfl (by (first | omega | (simp only [mm]; omega))) ?_| refine o_shln rfl rfl rfl (by (first | omega | (simp only [mm]; omega))) (by decide) (by (first | omega | (simp only [mm]; omega))) ?_| refine o_orn rfl rfl rfl (by (first | omega | (simp only [mm]; omega))) (by (first | omega | (simp only [mm]; omega))) (by decide) ?_| refine o_addkn rfl rfl rfl (by decide) (by (first | omega | (simp only [mm]; omega))) ?_| refine o_cat rfl rfl rfl (by (first | omega | (simp only [mm]; omega))) ?_| refine o_add rfl rfl rfl (by omega) (by omega) ?_| refine op_nil ?_| refine o_bin rfl rfl rfl rfl ?_) | (first| refine wp_seq ?_| refine wp_ops ?_| refine wp_keep ?_| refine keepN (by (simp +decide only [Slots.keep, Slots.get, reduceIte]); exact rfl) ?_| refine wp_block ?_| refine wp_skip ?_| refine wp_ret ?_| refine wp_exit ?_| refine bx_ret ?_| refine bx_here ?_| refine bx_exit rfl ?_))
  refine end_cls rfl rfl rfl (rfget0 _ _ _) (by simp)
theorem One_ev (a : Nat) (ha : a < 256) (rf : Refs) : Ev T f_class_One [u8 a] rf (.ret (cls (spanN a 1))) rf := by
 have hs := fun rf => Span_ev (T := T) a a ha ha rf
 rw [show a + 1 - a = 1 by omega] at hs
 refine ev_callB rfl rfl ?_
 repeat (first | (first| refine o_movd rfl rfl ?_| refine o_movp rfl rfl ?_| refine o_mova rfl rfl ?_| refine o_mov rfl rfl ?_| refine op_nil ?_) | (first| refine wp_seq ?_| refine wp_ops ?_| refine wp_keep ?_| refine keepN (by (simp +decide only [Slots.keep, Slots.get, reduceIte]); exact rfl) ?_| refine wp_block ?_| refine wp_skip ?_| refine wp_ret ?_| refine wp_exit ?_| refine bx_ret ?_| refine bx_here ?_| refine bx_exit rfl ?_))
 refine o_alloc rfl ?_
 repeat (first | (first| refine o_movd rfl rfl ?_| refine o_movp rfl rfl ?_| refine o_mova rfl rfl ?_| refine o_mov rfl rfl ?_| refine op_nil ?_) | (first| refine wp_seq ?_| refine wp_ops ?_| refine wp_keep ?_| refine keepN (by (simp +decide only [Slots.keep, Slots.get, reduceIte]); exact rfl) ?_| refine wp_block ?_| refine wp_skip ?_| refine wp_ret ?_| refine wp_exit ?_| refine bx_ret ?_| refine bx_here ?_| refine bx_exit rfl ?_))
 refine o_call rfl rfl rfl (hs _) ?_
 refine o_scls rfl rfl rfl (rfget0 _ _ _) rfl (rfset0 _ _ _ _) ?_
 repeat (first | (first| refine o_movd rfl rfl ?_| refine o_movp rfl rfl ?_| refine o_mova rfl rfl ?_| refine o_mov rfl rfl ?_| refine op_nil ?_) | (first| refine wp_seq ?_| refine wp_ops ?_| refine wp_keep ?_| refine keepN (by (simp +decide only [Slots.keep, Slots.get, reduceIte]); exact rfl) ?_| refine wp_block ?_| refine wp_skip ?_| refine wp_ret ?_| refine wp_exit ?_| refine bx_ret ?_| refine bx_here ?_| refine bx_exit rfl ?_))
 refine end_cls rfl rfl rfl (rfget0 _ _ _) (by simp)
theorem OnesCount64_ev (w : Nat) (hw : w < 2 ^ 64) (rf : Refs) : Ev T f_bits_OnesCount64 [.nat .u64 w] rf (.ret (i64 (pop 64 w))) rf := by
 obtain ⟨e1, e2, e3⟩ := sh_eq w hw
 unfold sh f123 f12 f1 f2 f3 at e1
 unfold f123 f12 f1 f2 f3 at e3
 rw [masks.1, masks.2.1, masks.2.2] at e1 e3
 have b1 : w / 2 ^ 1 &&& 6148914691236517205 ≤ 6148914691236517205 := Nat.and_le_right
 have b2 : w &&& 6148914691236517205 ≤ 6148914691236517205 := Nat.and_le_right
 obtain ⟨x, hx⟩ : ∃ x, x = (w / 2 ^ 1 &&& 6148914691236517205) + (w &&& 6148914691236517205) := ⟨_, rfl⟩
 have b3 : x / 2 ^ 2 &&& 3689348814741910323 ≤ 3689348814741910323 := Nat.and_le_right
 have b4 : x &&& 3689348814741910323 ≤ 3689348814741910323 := Nat.and_le_right
 obtain ⟨y, hy⟩ : ∃ y, y = (x / 2 ^ 2 &&& 3689348814741910323) + (x &&& 3689348814741910323) := ⟨_, rfl⟩
 have b5 : y / 2 ^ 4 + y &&& 1085102592571150095 ≤ 1085102592571150095 := Nat.and_le_right
 obtain ⟨z, hz⟩ : ∃ z, z = (y / 2 ^ 4 + y &&& 1085102592571150095) := ⟨_, rfl⟩
 have e1' : (z + z / 2 ^ 8 + (z + z / 2 ^ 8) / 2 ^ 16 + (z + z / 2 ^ 8 + (z + z / 2 ^ 8) / 2 ^ 16) / 2 ^ 32) &&& 127 = pop 64 w := by rw [← e1, hz, hy, hx]
 have e3' : z ≤ 2 ^ 60 := by rw [hz, hy, hx]; exact e3
 clear e1 e3
 refine ev_callB rfl rfl ?_
 repeat (first | refine wp_seq ?_ | refine wp_ops ?_ | refine o_asgd rfl rfl ?_ | refine o_movd rfl rfl ?_ | refine op_nil ?_)
 refine o_shrn (b := 1) rfl rfl rfl (by decide) ?_
 refine o_andn (b := 6148914691236517205) rfl rfl rfl (by rw [mU]; omega) (by decide) (by decide) ?_
 refine o_movd rfl rfl ?_
 refine o_andn (b := 6148914691236517205) rfl rfl rfl (by rw [mU]; omega) (by decide) (by decide) ?_
 refine o_addkn rfl rfl rfl (by decide) (by rw [mU]; omega) ?_
 rw [← hx]
 repeat (first | refine wp_seq ?_ | refine wp_ops ?_ | refine o_asgd rfl rfl ?_ | refine o_movd rfl rfl ?_ | refine op_nil ?_)
 refine o_shrn (b := 2) rfl rfl rfl (by decide) ?_
 refine o_andn (b := 3689348814741910323) rfl rfl rfl (by rw [mU]; omega) (by decide) (by decide) ?_
 refine o_movd rfl rfl ?_
 refine o_andn (b := 3689348814741910323) rfl rfl rfl (by rw [mU]; omega) (by decide) (by decide) ?_
 refine o_addkn rfl rfl rfl (by decide) (by rw [mU]; omega) ?_
 rw [← hy]
 repeat (first | refine wp_seq ?_ | refine wp_ops ?_ | refine o_asgd rfl rfl ?_ | refine o_movd rfl rfl ?_ | refine op_nil ?_)
 refine o_shrn (b := 4) rfl rfl rfl (by decide) ?_
 refine o_movd rfl rfl ?_
 refine o_addkn rfl rfl rfl (by decide) (by rw [mU]; omega) ?_
 refine o_andn (b := 1085102592571150095) rfl rfl rfl (by rw [mU]; omega) (by decide) (by decide) ?_
 rw [← hz]
 clear hx hy hz b1 b2 b3 b4 b5
 repeat (first | refine wp_seq ?_ | refine wp_ops ?_ | refine o_asgd rfl rfl ?_ | refine o_movd rfl rfl ?_ | refine op_nil ?_)
 refine o_shrn (b := 8) rfl rfl rfl (by decide) ?_
 refine o_addkn rfl rfl rfl (by decide) (by rw [mU]; omega) ?_
 repeat (first | refine wp_seq ?_ | refine wp_ops ?_ | refine o_asgd rfl rfl ?_ | refine o_movd rfl rfl ?_ | refine op_nil ?_)
 refine o_shrn (b := 16) rfl rfl rfl (by decide) ?_
 refine o_addkn rfl rfl rfl (by decide) (by rw [mU]; omega) ?_
 repeat (first | refine wp_seq ?_ | refine wp_ops ?_ | refine o_asgd rfl rfl ?_ | refine o_movd rfl rfl ?_ | refine op_nil ?_)
 refine o_shrn (b := 32) rfl rfl rfl (by decide) ?_
 refine o_addkn rfl rfl rfl (by decide) (by rw [mU]; omega) ?_
 repeat (first | refine wp_seq ?_ | refine wp_ops ?_ | refine o_asgd rfl rfl ?_ | refine o_movd rfl rfl ?_ | refine op_nil ?_)
 refine o_toInt rfl rfl (by simp only [n64]; omega) (by simp only [m64]; omega) ?_
 refine o_andn (b := 127) rfl rfl rfl (by simp only [m64]; omega) (by decide) (by decide) ?_
 rw [e1']
 repeat (first | (first| refine o_movd rfl rfl ?_| refine o_movp rfl rfl ?_| refine o_mova rfl rfl ?_| refine o_mov rfl rfl ?_| refine o_asgd rfl rfl ?_| refine o_asgo rfl rfl ?_| refine o_shrn rfl rfl rfl (by (first | omega | (simp only [mm]; omega))) ?_| refine o_andn rfl rfl rfl (by (first | omega | (simp only [mm]; omega))) (by (first | omega | (simp only [mm]; omega))) (by decide) ?_| refine o_addkn rfl rfl rfl (by decide) (by (first | omega | (simp only [mm]; omega))) ?_| refine o_cat rfl rfl rfl (by (first | omega | (simp only [mm]; omega))) ?_| refine o_add rfl rfl rfl (by omega) (by omega) ?_| refine o_toInt rfl rfl (by (first | omega | (simp only [mm]; omega))) (by (first | omega | (simp only [mm]; omega))) ?_| refine op_nil ?_| refine o_bin rfl rfl rfl rfl ?_) | (first| refine wp_seq ?_| refine wp_ops ?_| refine wp_keep ?_| refine keepN (by (simp +decide only [Slots.keep, Slots.get, reduceIte]); exact rfl) ?_| refine wp_block ?_| refine wp_skip ?_| refine wp_ret ?_| refine wp_exit ?_| refine bx_ret ?_| refine bx_here ?_| refine bx_exit rfl ?_))
 refine end1 rfl rfl rfl ?_ (by first | rfl | simp)
 rfl
def popW (n : Nat) : Nat → Nat
 | 0 => 0
 | i + 1 => popW n i + pop 64 (wd n i)
theorem popW_4 (n : Nat) : popW n 4 = pop 256 n := by
 have h : ∀ i, pop 64 (wd n i) = pop 64 (n / 2 ^ (64 * i)) := fun i => by unfold wd; rw [pop_mod]
 rw [show (256 : Nat) = 64 + 192 by rfl, pop_add, show (192 : Nat) = 64 + 128 by rfl, pop_add, show (128 : Nat) = 64 + 64 by rfl, pop_add, Nat.div_div_eq_div_mul, Nat.div_div_eq_div_mul, ← Nat.pow_add, ← Nat.pow_add]
 simp only [popW, h, Nat.reduceMul, Nat.reduceAdd, Nat.pow_zero, Nat.div_one]
 omega
theorem popW_le (n i : Nat) : popW n i ≤ 64 * i := by
 induction i with
 | zero => simp [popW]
 | succ i ih =>
   have := (sh_eq (wd n i) (wd_lt n i)).2.1
   simp only [popW]; omega
theorem clsC_part {n i : Nat} (h : i < 4) : partA none (clsC n) (i * 1) = some (.d (.int .u64 (wd n i : Nat))) := by
 rcases i with _ | _ | _ | _ | i <;> first | rfl | omega
theorem Count_ev (n : Nat) (rf : Refs) : Ev T f_class_Count [cls n] rf (.ret (i64 (pop 256 n))) rf := by
 refine ev_callB rfl rfl ?_
 repeat (first | (first| refine o_asgd rfl rfl ?_| refine o_asgo rfl rfl ?_| refine o_movd rfl rfl ?_| refine o_movp rfl rfl ?_| refine o_mova rfl rfl ?_| refine o_mov rfl rfl ?_| refine o_addkn rfl rfl rfl (by decide) (by (first | omega | (simp only [mm]; omega))) ?_| refine o_cat rfl rfl rfl (by (first | omega | (simp only [mm]; omega))) ?_| refine o_add rfl rfl rfl (by omega) (by omega) ?_| refine o_lssn rfl rfl rfl ?_| refine op_nil ?_| refine o_bin rfl rfl rfl rfl ?_) | (first| refine wp_seq ?_| refine wp_ops ?_| refine wp_keep ?_| refine keepN (by (simp +decide only [Slots.keep, Slots.get, reduceIte]); exact rfl) ?_| refine wp_block ?_| refine wp_skip ?_| refine wp_ret ?_| refine wp_exit ?_| refine bx_ret ?_| refine bx_here ?_| refine bx_exit rfl ?_))
 refine o_box rfl rfl rfl rfl ?_
 repeat (first | (first| refine o_asgd rfl rfl ?_| refine o_asgo rfl rfl ?_| refine o_movd rfl rfl ?_| refine o_movp rfl rfl ?_| refine o_mova rfl rfl ?_| refine o_mov rfl rfl ?_| refine o_addkn rfl rfl rfl (by decide) (by (first | omega | (simp only [mm]; omega))) ?_| refine o_cat rfl rfl rfl (by (first | omega | (simp only [mm]; omega))) ?_| refine o_add rfl rfl rfl (by omega) (by omega) ?_| refine o_lssn rfl rfl rfl ?_| refine op_nil ?_| refine o_bin rfl rfl rfl rfl ?_) | (first| refine wp_seq ?_| refine wp_ops ?_| refine wp_keep ?_| refine keepN (by (simp +decide only [Slots.keep, Slots.get, reduceIte]); exact rfl) ?_| refine wp_block ?_| refine wp_skip ?_| refine wp_ret ?_| refine wp_exit ?_| refine bx_ret ?_| refine bx_here ?_| refine bx_exit rfl ?_))
 refine o_lcls rfl rfl (rfget0 _ _ _) ?_
 repeat (first | (first| refine o_asgd rfl rfl ?_| refine o_asgo rfl rfl ?_| refine o_movd rfl rfl ?_| refine o_movp rfl rfl ?_| refine o_mova rfl rfl ?_| refine o_mov rfl rfl ?_| refine o_addkn rfl rfl rfl (by decide) (by (first | omega | (simp only [mm]; omega))) ?_| refine o_cat rfl rfl rfl (by (first | omega | (simp only [mm]; omega))) ?_| refine o_add rfl rfl rfl (by omega) (by omega) ?_| refine o_lssn rfl rfl rfl ?_| refine op_nil ?_| refine o_bin rfl rfl rfl rfl ?_) | (first| refine wp_seq ?_| refine wp_ops ?_| refine wp_keep ?_| refine keepN (by (simp +decide only [Slots.keep, Slots.get, reduceIte]); exact rfl) ?_| refine wp_block ?_| refine wp_skip ?_| refine wp_ret ?_| refine wp_exit ?_| refine bx_ret ?_| refine bx_here ?_| refine bx_exit rfl ?_))
 refine wp_loop (m := 4) (fun k st => ∃ i : Nat, i + k = 4 ∧ st = ⟨[(3, i64 (popW n i : Nat)), (6, cls n), (7, i64 i)], rf ++ [clsC n], [], none, rf.length⟩) ⟨0, by omega, rfl⟩ ?_
 rintro k st ⟨i, hik, rfl⟩ -
 repeat (first | (first| refine o_asgd rfl rfl ?_| refine o_asgo rfl rfl ?_| refine o_movd rfl rfl ?_| refine o_movp rfl rfl ?_| refine o_mova rfl rfl ?_| refine o_mov rfl rfl ?_| refine o_addkn rfl rfl rfl (by decide) (by (first | omega | (simp only [mm]; omega))) ?_| refine o_cat rfl rfl rfl (by (first | omega | (simp only [mm]; omega))) ?_| refine o_add rfl rfl rfl (by omega) (by omega) ?_| refine o_lssn rfl rfl rfl ?_| refine op_nil ?_| refine o_bin rfl rfl rfl rfl ?_) | (first| refine wp_seq ?_| refine wp_ops ?_| refine wp_keep ?_| refine keepN (by (simp +decide only [Slots.keep, Slots.get, reduceIte]); exact rfl) ?_| refine wp_block ?_| refine wp_skip ?_| refine wp_ret ?_| refine wp_exit ?_| refine bx_ret ?_| refine bx_here ?_| refine bx_exit rfl ?_))
 refine wp_if rfl ?_ ?_ <;> intro hi
 ·have h1 := wd_lt n i
  have h2 := popW_le n (i + 1)
  have h3 : popW n (i + 1) = popW n i + pop 64 (wd n i) := rfl
  repeat (first | (first| refine o_asgd rfl rfl ?_| refine o_asgo rfl rfl ?_| refine o_movd rfl rfl ?_| refine o_movp rfl rfl ?_| refine o_mova rfl rfl ?_| refine o_mov rfl rfl ?_| refine o_addkn rfl rfl rfl (by decide) (by (first | omega | (simp only [mm]; omega))) ?_| refine o_cat rfl rfl rfl (by (first | omega | (simp only [mm]; omega))) ?_| refine o_add rfl rfl rfl (by omega) (by omega) ?_| refine o_lssn rfl rfl rfl ?_| refine op_nil ?_| refine o_bin rfl rfl rfl rfl ?_) | (first| refine wp_seq ?_| refine wp_ops ?_| refine wp_keep ?_| refine keepN (by (simp +decide only [Slots.keep, Slots.get, reduceIte]); exact rfl) ?_| refine wp_block ?_| refine wp_skip ?_| refine wp_ret ?_| refine wp_exit ?_| refine bx_ret ?_| refine bx_here ?_| refine bx_exit rfl ?_))
  refine o_idxV (j := i) rfl rfl rfl rfl (by omega) (clsC_part (by omega)) ?_
  repeat (first | (first| refine o_asgd rfl rfl ?_| refine o_asgo rfl rfl ?_| refine o_movd rfl rfl ?_| refine o_movp rfl rfl ?_| refine o_mova rfl rfl ?_| refine o_mov rfl rfl ?_| refine o_addkn rfl rfl rfl (by decide) (by (first | omega | (simp only [mm]; omega))) ?_| refine o_cat rfl rfl rfl (by (first | omega | (simp only [mm]; omega))) ?_| refine o_add rfl rfl rfl (by omega) (by omega) ?_| refine o_lssn rfl rfl rfl ?_| refine op_nil ?_| refine o_bin rfl rfl rfl rfl ?_) | (first| refine wp_seq ?_| refine wp_ops ?_| refine wp_keep ?_| refine keepN (by (simp +decide only [Slots.keep, Slots.get, reduceIte]); exact rfl) ?_| refine wp_block ?_| refine wp_skip ?_| refine wp_ret ?_| refine wp_exit ?_| refine bx_ret ?_| refine bx_here ?_| refine bx_exit rfl ?_))
  refine o_call rfl rfl rfl (OnesCount64_ev _ h1 _) ?_
  refine o_addkn rfl rfl rfl (by decide) (by simp only [m64]; omega) ?_
  rw [← h3]
  repeat (first | (first| refine o_asgd rfl rfl ?_| refine o_asgo rfl rfl ?_| refine o_movd rfl rfl ?_| refine o_movp rfl rfl ?_| refine o_mova rfl rfl ?_| refine o_mov rfl rfl ?_| refine o_addkn rfl rfl rfl (by decide) (by (first | omega | (simp only [mm]; omega))) ?_| refine o_cat rfl rfl rfl (by (first | omega | (simp only [mm]; omega))) ?_| refine o_add rfl rfl rfl (by omega) (by omega) ?_| refine o_lssn rfl rfl rfl ?_| refine op_nil ?_| refine o_bin rfl rfl rfl rfl ?_) | (first| refine wp_seq ?_| refine wp_ops ?_| refine wp_keep ?_| refine keepN (by (simp +decide only [Slots.keep, Slots.get, reduceIte]); exact rfl) ?_| refine wp_block ?_| refine wp_skip ?_| refine wp_ret ?_| refine wp_exit ?_| refine bx_ret ?_| refine bx_here ?_| refine bx_exit rfl ?_))
  refine ⟨by simp, k - 1, by omega, i + 1, by omega, rfl⟩
 ·have : i = 4 := by omega
  subst this
  rw [popW_4]
  repeat (first | (first| refine o_asgd rfl rfl ?_| refine o_asgo rfl rfl ?_| refine o_movd rfl rfl ?_| refine o_movp rfl rfl ?_| refine o_mova rfl rfl ?_| refine o_mov rfl rfl ?_| refine o_addkn rfl rfl rfl (by decide) (by (first | omega | (simp only [mm]; omega))) ?_| refine o_cat rfl rfl rfl (by (first | omega | (simp only [mm]; omega))) ?_| refine o_add rfl rfl rfl (by omega) (by omega) ?_| refine o_lssn rfl rfl rfl ?_| refine op_nil ?_| refine o_bin rfl rfl rfl rfl ?_) | (first| refine wp_seq ?_| refine wp_ops ?_| refine wp_keep ?_| refine keepN (by (simp +decide only [Slots.keep, Slots.get, reduceIte]); exact rfl) ?_| refine wp_block ?_| refine wp_skip ?_| refine wp_ret ?_| refine wp_exit ?_| refine bx_ret ?_| refine bx_here ?_| refine bx_exit rfl ?_))
  refine end1 rfl rfl rfl ?_ (by first | rfl | simp)
  rfl
end Go.Ab.R05j
namespace Go.Ab.R05j
set_option maxRecDepth 100000
set_option linter.all false
set_option maxHeartbeats 4000000
structure Re where
 kind : Int
 set : Nat
 k0 : Int
 k1 : Int
def reD (r : Re) : List D := [.int .i64 r.kind, .int .u64 (wd r.set 0 : Nat), .int .u64 (wd r.set 1 : Nat), .int .u64 (wd r.set 2 : Nat), .int .u64 (wd r.set 3 : Nat), .int .i64 r.k0, .int .i64 r.k1]
def reC (r : Re) : List AV := [i64 r.kind, wdv r.set 0, wdv r.set 1, wdv r.set 2, wdv r.set 3, i64 r.k0, i64 r.k1]
def resT : Except Nat (List Re) → AV
 | .ok t => .tup [lst (t.map reD), i64 (0 : Nat)]
 | .error e => .tup [lst [], i64 e]
inductive Tr where
 | none
 | set (n : Nat)
 | beg
 | fin
 | post (k : Nat) (a : Tr)
 | cat (a b : Tr)
 | alt (a b : Tr)
def Tr.size : Tr → Nat
 | .post _ a => a.size + 1
 | .cat a b => a.size + b.size + 1
 | .alt a b => a.size + b.size + 1
 | _ => 1
theorem Tr.size_pos : ∀ a : Tr, 1 ≤ a.size
 | .none | .set _ | .beg | .fin => Nat.le_refl _
 | .post _ a => by simp [Tr.size]
 | .cat a b => by simp [Tr.size]
 | .alt a b => by simp [Tr.size]
def flat : Nat → Tr → List Re
 | _, .none => [⟨0, 0, 0, 0⟩]
 | _, .set n => [⟨1, n, 0, 0⟩]
 | _, .beg => [⟨7, 0, 0, 0⟩]
 | _, .fin => [⟨8, 0, 0, 0⟩]
 | o, .post k a => flat o a ++ [⟨4 + k, 0, ((o + a.size - 1 : Nat) : Int), 0⟩]
 | o, .cat a b => flat o a ++ flat (o + a.size) b ++ [⟨2, 0, ((o + a.size - 1 : Nat) : Int), ((o + a.size + b.size - 1 : Nat) : Int)⟩]
 | o, .alt a b => flat o a ++ flat (o + a.size) b ++ [⟨3, 0, ((o + a.size - 1 : Nat) : Int), ((o + a.size + b.size - 1 : Nat) : Int)⟩]
theorem flat_length : ∀ (o : Nat) (a : Tr), (flat o a).length = a.size
 | o, .none | o, .set _ | o, .beg | o, .fin => rfl
 | o, .post _ a => by simp [flat, Tr.size, flat_length o a]
 | o, .cat a b => by simp [flat, Tr.size, flat_length _ a, flat_length _ b]; omega
 | o, .alt a b => by simp [flat, Tr.size, flat_length _ a, flat_length _ b]; omega
def Tr.ok : Tr → Prop
 | .set n => n < 2 ^ 256
 | .post k a => k ≤ 2 ∧ a.ok
 | .cat a b => a.ok ∧ b.ok
 | .alt a b => a.ok ∧ b.ok
 | _ => True
def clsK : List PK := [.int .u64, .int .u64, .int .u64, .int .u64]
def clsEq (n m : Nat) : Bool := (eqCells clsK (clsC n) (clsC m)).getD false
theorem clsEq_cells (n m : Nat) : eqCells clsK (clsC n) (clsC m) = some (clsEq n m) := by
 simp [clsEq, eqCells, clsK, clsC, wdv, AV.nat, D.kind?]
theorem wd_all {n m : Nat} (hn : n < 2 ^ 256) (hm : m < 2 ^ 256) (h0 : wd n 0 = wd m 0) (h1 : wd n 1 = wd m 1) (h2 : wd n 2 = wd m 2) (h3 : wd n 3 = wd m 3) : n = m := by
 unfold wd at *
 omega
theorem clsEq_iff {n m : Nat} (hn : n < 2 ^ 256) (hm : m < 2 ^ 256) : clsEq n m = true ↔ n = m := by
 have : clsEq n m = true ↔ wd n 0 = wd m 0 ∧ wd n 1 = wd m 1 ∧ wd n 2 = wd m 2 ∧ wd n 3 = wd m 3 := by
  simp [clsEq, eqCells, clsK, clsC, wdv, AV.nat, D.kind?, D.eqP]
  omega
 rw [this]
 exact ⟨fun ⟨a, b, c, d⟩ => wd_all hn hm a b c d, fun h => by subst h; exact ⟨rfl, rfl, rfl, rfl⟩⟩
theorem getRe {t : List Re} {m : Nat} (h : m < t.length) : ∃ y, t[m]? = some y := ⟨_, List.getElem?_eq_getElem h⟩
theorem idxRe {t : List Re} {i : Nat} {r : Re} {c : List D → Prop} (h : t[i]? = some r) (h' : c (reD r)) : IdxL 7 (t.map reD) (i : Int) c := idxLb (by rw [List.getElem?_map, h]; rfl) rfl h'
theorem idxReC {t : List Re} {i : Nat} {r : Re} {c : List D → Prop} (h : t[i]? = some r) (h' : c (reD r)) : IdxL 7 (t.map reD) (i : Int) c := idxRe h h'
theorem spanN_lt (a k : Nat) (h : a + k ≤ 256) : spanN a k < 2 ^ 256 := by
 apply Nat.lt_pow_two_of_testBit
 intro i hi
 rw [spanN_bit]
 simp; omega
end Go.Ab.R05j
namespace Go.Ab.R05j
set_option maxRecDepth 100000
set_option linter.all false
set_option maxHeartbeats 4000000
variable {T : Tb} [hT : Base T]
def many (k : Int) : Int := if k = 2 ∨ k = 3 then 2 else if 4 ≤ k ∧ k ≤ 6 then 1 else if k = 0 ∨ k = 1 ∨ k = 7 ∨ k = 8 then 0 else -1
def up (n : Nat) (r : Re) : Re := if many r.kind = 2 then { r with k0 := r.k0 + n, k1 := r.k1 + n } else if many r.kind = 1 then { r with k0 := r.k0 + n } else r
def joinM (t u : List Re) (kind : Int) : Except Nat (List Re) :=
 if kind ≠ 2 ∧ kind ≠ 3 then .error 1 else if 2000 ≤ t.length + u.length then .error 6
 else .ok (t ++ u.map (up t.length) ++ [⟨kind, 0, t.length - 1, ((t.length + u.length : Nat) : Int) - 1⟩])
theorem many_ev (k : Int) (rf : Refs) : Ev T f_ref05_many [i64 k] rf (.ret (i64 (many k))) rf := by
 refine Ev.any ?_ rfl rf
 refine ev_fn rfl rfl ?_
 (repeat' (first| (intro (u_ : Unit); clear u_)| refine condT ?_| refine condF ?_| refine condp (by assumption) ?_| refine condn (by assumption) ?_| refine condN ?_| refine idxSb (by assumption) ?_| (refine condD ?_ ?_ <;> intro hq_ <;> first | (exfalso; omega) | skip)| (refine idxS (by omega) ?_; intro b_ hb_; have hl_ := b_.toNat_lt)| refine wrA (by omega) ?_| refine wrS (by omega) (by omega) ?_| refine wrI (by omega) (by omega) ?_| refine wrBA (by omega) ?_| refine wrB (by omega) (by omega) ?_| refine strC (by omega) ?_| refine nilB rfl ?_))
 all_goals (refine ⟨?_, rfl⟩; unfold many; (repeat (first | rw [if_pos (by omega)] | rw [if_neg (by omega)])); first | done | rfl)
def Small (u : List Re) : Prop := ∀ r, r ∈ u → -1000000000000 ≤ r.k0 ∧ r.k0 ≤ 1000000000000 ∧ -1000000000000 ≤ r.k1 ∧ r.k1 ≤ 1000000000000
theorem many_cases (k : Int) : many k = 2 ∨ many k = 1 ∨ many k = 0 ∨ many k = -1 := by
 unfold many; split
 ·exact .inl rfl
 ·split
  ·exact .inr (.inl rfl)
  ·split
   ·exact .inr (.inr (.inl rfl))
   ·exact .inr (.inr (.inr rfl))
theorem sizesRe (t : List Re) : sizesB 7 (t.map reD) = true := by cases t <;> rfl
theorem getRe' {t : List Re} {m : Nat} (h : m < t.length) : ∃ y, t[m]? = some y := ⟨_, List.getElem?_eq_getElem h⟩
theorem idxRe' {t : List Re} {i : Nat} {r : Re} {c : List D → Prop} (h : t[i]? = some r) (h' : c (reD r)) : IdxL 7 (t.map reD) (i : Int) c := idxLb (by rw [List.getElem?_map, h]; rfl) rfl h'
theorem takeRe {u : List Re} {i : Nat} {r : Re} (h : u[i]? = some r) : u.take (i + 1) = u.take i ++ [r] := by rw [List.take_add_one, h]; rfl
end Go.Ab.R05j
namespace Go.Ab.R05j
set_option maxRecDepth 100000
set_option linter.all false
set_option maxHeartbeats 4000000
section
variable {T : Tb} [hT : Base T]
def beginF (t : List Re) : Nat → Int → Int
 | 0, _ => -1
 | f + 1, i =>
   if i < 0 then -1 else
   match t[i.toNat]? with
   | none => -1
   | some r =>
     if many r.kind < 0 ∨ (r.kind ≠ 1 ∧ clsEq r.set 0 = false) then -1
     else if many r.kind = 0 then (if r.k0 = 0 ∧ r.k1 = 0 then i else -1)
     else if many r.kind = 1 then (if r.k0 = i - 1 ∧ r.k1 = 0 then beginF t f (i - 1) else -1)
     else if beginF t f (i - 1) < 1 ∨ ¬ (r.k0 = beginF t f (i - 1) - 1 ∧ r.k1 = i - 1) then -1
     else beginF t f (beginF t f (i - 1) - 1)
theorem beginF_bound (t : List Re) : ∀ (f : Nat) (i : Int), -1 ≤ beginF t f i ∧ (beginF t f i ≤ i ∨ beginF t f i = -1)
 | 0, i => by simp [beginF]
 | f + 1, i => by
   have h1 := beginF_bound t f (i - 1)
   have h2 := beginF_bound t f (beginF t f (i - 1) - 1)
   simp only [beginF]
   split
   ·omega
   ·split
    ·omega
    ·split
     ·omega
     ·split
      ·split <;> omega
      ·split
       ·split <;> omega
       ·split <;> omega
def kidK : List PK := [.int .i64, .int .i64]
def kidEq (a b c d : Int) : Bool := (eqCells kidK [i64 a, i64 b] [i64 c, i64 d]).getD false
theorem kidEq_cells (a b c d : Int) : eqCells kidK [i64 a, i64 b] [i64 c, i64 d] = some (kidEq a b c d) := by
 simp [kidEq, eqCells, kidK, D.kind?]
theorem kidEq_iff {a b c d : Int} : kidEq a b c d = true ↔ a = c ∧ b = d := by
 simp [kidEq, eqCells, kidK, D.kind?, D.eqP]
theorem kidEq_f {a b c d : Int} (h : kidEq a b c d = false) : ¬ (a = c ∧ b = d) := fun e => by rw [kidEq_iff.2 e] at h; cases h
theorem kidEq_t {a b c d : Int} (h : kidEq a b c d = true) : a = c ∧ b = d := kidEq_iff.1 h
theorem kidB {a b c d : Int} {k : Bool → Prop} (h1 : a = c ∧ b = d → k true) (h2 : ¬ (a = c ∧ b = d) → k false) : EqcE kidK [i64 a, i64 b] [i64 c, i64 d] k := by
 refine eqcB (kidEq_cells a b c d) ?_
 cases h : kidEq a b c d
 ·exact h2 (kidEq_f h)
 ·exact h1 (kidEq_t h)
theorem beginB {x y : Int} {L v : AV} {rf : Refs} {k : Out → Refs → Prop} (hx : x = y) (h : Ev T f_ref05_begin [L, i64 y] rf (.ret v) rf) (h' : k (.ret v) rf) : CallE T f_ref05_begin [L, i64 x] rf k := by subst hx; exact callE_ev h h'
theorem nb {A B C : Prop} (h1 : ¬ A) (h2 : B → C → False) : ¬ (A ∨ B ∧ C) := fun h => h.elim h1 fun h => h2 h.1 h.2
theorem ft (h : true = false) : False := nomatch h
theorem putN_end {nb d : Nat} {N : KN} {X : KX} {v : AV} {sl : Slots} {rf : Refs} {df : DF} {pn : PN} (h : N ((d, v) :: sl) rf df pn) : putN (some d) (vops T nb N X []) v sl rf df pn := h
theorem cond_hd {nb n : Nat} {x : Bool} {t e : AC} {N : KN} {X : KX} {sl : Slots} {rf : Refs} {df : DF} {pn : PN} (h1 : x = true → vc T nb t N X ((n, .d (.bool true)) :: sl) rf df pn) (h2 : x = false → vc T nb e N X ((n, .d (.bool false)) :: sl) rf df pn) :
  vc T nb (.cond (.t n) t e) N X ((n, .d (.bool x)) :: sl) rf df pn := by
 simp only [vc, cndN, gv, raw, lk, fz, Nat.beq_refl]
 intro _
 refine ⟨fun h => ?_, fun h => ?_⟩
 ·simp only [setO, setB, Nat.beq_refl]; exact h1 h
 ·simp only [setO, setB, Nat.beq_refl]; exact h2 h
theorem begin_ev (t : List Re) (ht : t.length ≤ 2 ^ 40) : ∀ (f : Nat) (i : Int), i < f → -1 ≤ i → i < t.length → ∀ rf : Refs, Ev T f_ref05_begin [lst (t.map reD), i64 i] rf (.ret (i64 (beginF t f i))) rf := by
 intro f
 induction f with
 | zero =>
   intro i h1 h2 h3 rf
   obtain rfl : i = -1 := by omega
   refine Ev.any ?_ rfl rf
   refine ev_fn rfl rfl ?_
   (repeat' (first| (intro (u_ : Unit); clear u_)| refine condT ?_| refine condF ?_| refine condp (by assumption) ?_| refine condn (by assumption) ?_| refine condN ?_| refine idxSb (by assumption) ?_| (refine condD ?_ ?_ <;> intro hq_ <;> first | (exfalso; omega) | skip)| (refine idxS (by omega) ?_; intro b_ hb_; have hl_ := b_.toNat_lt)| refine wrA (by omega) ?_| refine wrS (by omega) (by omega) ?_| refine wrI (by omega) (by omega) ?_| refine wrBA (by omega) ?_| refine wrB (by omega) (by omega) ?_| refine strC (by omega) ?_| refine nilB rfl ?_))
   all_goals exact ⟨rfl, rfl⟩
 | succ f ih =>
   intro i h1 h2 h3 rf
   refine Ev.any ?_ rfl rf
   by_cases hneg : i < 0
   ·simp only [beginF]
    rw [if_pos hneg]
    refine ev_fn rfl rfl ?_
    (repeat' (first| (intro (u_ : Unit); clear u_)| refine condT ?_| refine condF ?_| refine condp (by assumption) ?_| refine condn (by assumption) ?_| refine condN ?_| refine idxSb (by assumption) ?_| (refine condD ?_ ?_ <;> intro hq_ <;> first | (exfalso; omega) | skip)| (refine idxS (by omega) ?_; intro b_ hb_; have hl_ := b_.toNat_lt)| refine wrA (by omega) ?_| refine wrS (by omega) (by omega) ?_| refine wrI (by omega) (by omega) ?_| refine wrBA (by omega) ?_| refine wrB (by omega) (by omega) ?_| refine strC (by omega) ?_| refine nilB rfl ?_))
    all_goals exact ⟨rfl, rfl⟩
   ·obtain ⟨j, rfl⟩ := Int.eq_ofNat_of_zero_le (by omega : 0 ≤ i)
    have hj : j < t.length := by omega
    obtain ⟨r, hr⟩ := getRe' hj
    have hm := many_cases r.kind
    have hm1 : r.kind = 1 → many r.kind = 0 := fun h => by rw [h]; decide
    have hM := many_ev (T := T) r.kind
    have hE := clsEq_cells r.set 0
    have hb := beginF_bound t f ((j : Int) - 1)
    have g1 := ih ((j : Int) - 1) (by omega) (by omega) (by omega)
    have g2 : 1 ≤ beginF t f ((j : Int) - 1) → _ := fun hq => ih (beginF t f ((j : Int) - 1) - 1) (by omega) (by omega) (by omega)
    have hj2 : (j : Int) ≤ 2 ^ 40 := by omega
    simp only [beginF, Int.toNat_natCast, hr]
    rw [if_neg hneg]
    generalize hB : beginF t f ((j : Int) - 1) = B at *
    generalize hC : beginF t f (B - 1) = C at *
    generalize clsEq r.set 0 = q at *
    clear ih hB hC h1 h2 h3 hneg ht
    have hb2 : B ≤ j := by omega
    have hb1 : -1 ≤ B := by omega
    clear hb
    by_cases hk1 : r.kind = 1
    ·have hm0 := hm1 hk1
     rw [hm0] at hM ⊢
     clear hm hm1 hm0 g1 g2
     rw [if_neg (nb (by omega) (fun h _ => h hk1)), if_pos rfl]
     refine ev_fn rfl rfl ?_
     (repeat' (first| (intro (u_ : Unit); clear u_)| refine condT ?_| refine condF ?_| refine condp (by assumption) ?_| refine condn (by assumption) ?_| refine condN ?_| refine idxSb (by assumption) ?_| refine idxReC hr ?_| refine callE_ev (hM _) ?_| (refine kidB ?_ ?_ <;> intro hk_)| (refine condD ?_ ?_ <;> intro hq_ <;> first | (exfalso; omega) | skip)| (refine idxS (by omega) ?_; intro b_ hb_; have hl_ := b_.toNat_lt)| refine wrA (by omega) ?_| refine wrS (by omega) (by omega) ?_| refine wrI (by omega) (by omega) ?_| refine wrBA (by omega) ?_| refine wrB (by omega) (by omega) ?_| refine strC (by omega) ?_| refine nilB rfl ?_))
     ·rw [if_pos (by omega)]; exact ⟨rfl, rfl⟩
     ·rw [if_neg (by omega)]; exact ⟨rfl, rfl⟩
    ·clear hm1
     cases q
     ·rw [if_pos (.inr ⟨hk1, rfl⟩)]
      clear g1 g2
      rcases hm with hm | hm | hm | hm <;> rw [hm] at hM <;> clear hm
      all_goals
       refine ev_fn rfl rfl ?_
       (repeat' (first| (intro (u_ : Unit); clear u_)| refine condT ?_| refine condF ?_| refine condp (by assumption) ?_| refine condn (by assumption) ?_| refine condN ?_| refine idxSb (by assumption) ?_| refine idxReC hr ?_| refine callE_ev (hM _) ?_| (refine eqcB hE ?_; clear hE)| (refine condD ?_ ?_ <;> intro hq_ <;> first | (exfalso; omega) | skip)| (refine idxS (by omega) ?_; intro b_ hb_; have hl_ := b_.toNat_lt)| refine wrA (by omega) ?_| refine wrS (by omega) (by omega) ?_| refine wrI (by omega) (by omega) ?_| refine wrBA (by omega) ?_| refine wrB (by omega) (by omega) ?_| refine strC (by omega) ?_| refine nilB rfl ?_))
       exact ⟨rfl, rfl⟩
     ·have hn0 : ∀ {m : Int}, 0 ≤ m → ¬ (m < 0 ∨ r.kind ≠ 1 ∧ true = false) := fun h => nb (by omega) (fun _ h => ft h)
      rcases hm with hm | hm | hm | hm <;> rw [hm] at hM ⊢ <;> clear hm
      ·rw [if_neg (hn0 (by omega)), if_neg (by omega), if_neg (by omega)]
       by_cases hB1 : B < 1
       ·rw [if_pos (.inl hB1)]
        clear g2
        refine ev_fn rfl rfl ?_
        (repeat' (first| (intro (u_ : Unit); clear u_)| refine condT ?_| refine condF ?_| refine condp (by assumption) ?_| refine condn (by assumption) ?_| refine condN ?_| refine idxSb (by assumption) ?_| refine idxReC hr ?_| refine callE_ev (hM _) ?_| refine beginB (y := (j : Int) - 1) (by omega) (g1 _) ?_| (refine eqcB hE ?_; clear hE)| (refine condD ?_ ?_ <;> intro hq_ <;> first | (exfalso; omega) | skip)| (refine idxS (by omega) ?_; intro b_ hb_; have hl_ := b_.toNat_lt)| refine wrA (by omega) ?_| refine wrS (by omega) (by omega) ?_| refine wrI (by omega) (by omega) ?_| refine wrBA (by omega) ?_| refine wrB (by omega) (by omega) ?_| refine strC (by omega) ?_| refine nilB rfl ?_))
        exact ⟨rfl, rfl⟩
       ·have g2 := g2 (by omega)
        refine ev_fn rfl rfl ?_
        (repeat' (first| (intro (u_ : Unit); clear u_)| refine condT ?_| refine condF ?_| refine condp (by assumption) ?_| refine condn (by assumption) ?_| refine condN ?_| refine idxSb (by assumption) ?_| refine idxReC hr ?_| refine callE_ev (hM _) ?_| refine beginB (y := (j : Int) - 1) (by omega) (g1 _) ?_| refine beginB (y := B - 1) (by omega) (g2 _) ?_| (refine eqcB hE ?_; clear hE)| (refine kidB ?_ ?_ <;> intro hk_)| (refine condD ?_ ?_ <;> intro hq_ <;> first | (exfalso; omega) | skip)| (refine idxS (by omega) ?_; intro b_ hb_; have hl_ := b_.toNat_lt)| refine wrA (by omega) ?_| refine wrS (by omega) (by omega) ?_| refine wrI (by omega) (by omega) ?_| refine wrBA (by omega) ?_| refine wrB (by omega) (by omega) ?_| refine strC (by omega) ?_| refine nilB rfl ?_))
        ·rw [if_neg (by omega)]; exact ⟨rfl, rfl⟩
        ·rw [if_pos (by omega)]; exact ⟨rfl, rfl⟩
      ·rw [if_neg (hn0 (by omega)), if_neg (by omega), if_pos rfl]
       clear g2
       refine ev_fn rfl rfl ?_
       (repeat' (first| (intro (u_ : Unit); clear u_)| refine condT ?_| refine condF ?_| refine condp (by assumption) ?_| refine condn (by assumption) ?_| refine condN ?_| refine idxSb (by assumption) ?_| refine idxReC hr ?_| refine callE_ev (hM _) ?_| refine beginB (y := (j : Int) - 1) (by omega) (g1 _) ?_| (refine eqcB hE ?_; clear hE)| refine kidB (fun hk_ => putN_end (cond_hd (fun h_ => absurd h_ (by decide)) (fun _ => ?_))) (fun hk_ => putN_end (cond_hd (fun _ => ?_) (fun h_ => absurd h_ (by decide))))| (refine condD ?_ ?_ <;> intro hq_ <;> first | (exfalso; omega) | skip)| (refine idxS (by omega) ?_; intro b_ hb_; have hl_ := b_.toNat_lt)| refine wrA (by omega) ?_| refine wrS (by omega) (by omega) ?_| refine wrI (by omega) (by omega) ?_| refine wrBA (by omega) ?_| refine wrB (by omega) (by omega) ?_| refine strC (by omega) ?_| refine nilB rfl ?_))
       ·rw [if_pos (by omega)]; exact ⟨rfl, rfl⟩
       ·rw [if_neg (by omega)]; exact ⟨rfl, rfl⟩
      ·rw [if_neg (hn0 (by omega)), if_pos rfl]
       clear g1 g2
       refine ev_fn rfl rfl ?_
       (repeat' (first| (intro (u_ : Unit); clear u_)| refine condT ?_| refine condF ?_| refine condp (by assumption) ?_| refine condn (by assumption) ?_| refine condN ?_| refine idxSb (by assumption) ?_| refine idxReC hr ?_| refine callE_ev (hM _) ?_| (refine eqcB hE ?_; clear hE)| (refine kidB ?_ ?_ <;> intro hk_)| (refine condD ?_ ?_ <;> intro hq_ <;> first | (exfalso; omega) | skip)| (refine idxS (by omega) ?_; intro b_ hb_; have hl_ := b_.toNat_lt)| refine wrA (by omega) ?_| refine wrS (by omega) (by omega) ?_| refine wrI (by omega) (by omega) ?_| refine wrBA (by omega) ?_| refine wrB (by omega) (by omega) ?_| refine strC (by omega) ?_| refine nilB rfl ?_))
       ·rw [if_pos (by omega)]; exact ⟨rfl, rfl⟩
       ·rw [if_neg (by omega)]; exact ⟨rfl, rfl⟩
      ·rw [if_pos (.inl (by omega))]
       clear g1 g2
       refine ev_fn rfl rfl ?_
       (repeat' (first| (intro (u_ : Unit); clear u_)| refine condT ?_| refine condF ?_| refine condp (by assumption) ?_| refine condn (by assumption) ?_| refine condN ?_| refine idxSb (by assumption) ?_| refine idxReC hr ?_| refine callE_ev (hM _) ?_| (refine condD ?_ ?_ <;> intro hq_ <;> first | (exfalso; omega) | skip)| (refine idxS (by omega) ?_; intro b_ hb_; have hl_ := b_.toNat_lt)| refine wrA (by omega) ?_| refine wrS (by omega) (by omega) ?_| refine wrI (by omega) (by omega) ?_| refine wrBA (by omega) ?_| refine wrB (by omega) (by omega) ?_| refine strC (by omega) ?_| refine nilB rfl ?_))
       exact ⟨rfl, rfl⟩
end
end Go.Ab.R05j
namespace Go.Ab.R05j
set_option maxRecDepth 100000
set_option linter.all false
set_option maxHeartbeats 4000000
def rightM (t : List Re) : Bool := decide (t.length ≤ 2000) && (decide (0 < t.length) && decide (beginF t (t.length + 1) ((t.length : Int) - 1) = 0))
section
variable {T : Tb} [hT : Base T]
theorem Right_ev (t : List Re) (ht : t.length ≤ 2 ^ 40) (rf : Refs) : Ev T f_ref05_Right [lst (t.map reD)] rf (.ret (bl (rightM t))) rf := by
 refine Ev.any ?_ rfl rf
 have hml : (t.map reD).length = t.length := List.length_map ..
 unfold rightM
 by_cases h1 : t.length ≤ 2000
 ·rw [decide_eq_true h1, Bool.true_and]
  by_cases h0 : 0 < t.length
  ·rw [decide_eq_true h0, Bool.true_and]
   have hb := begin_ev (T := T) t ht (t.length + 1) ((t.length : Int) - 1) (by omega) (by omega) (by omega)
   generalize beginF t (t.length + 1) ((t.length : Int) - 1) = B at *
   refine ev_fn rfl rfl ?_
   (repeat' (first| (intro (u_ : Unit); clear u_)| refine condT ?_| refine condF ?_| refine condp (by assumption) ?_| refine condn (by assumption) ?_| refine condN ?_| refine idxSb (by assumption) ?_| refine beginB (y := (t.length : Int) - 1) (by omega) (hb _) ?_| (refine condD ?_ ?_ <;> intro hq_ <;> first | (exfalso; omega) | skip)| (refine idxS (by omega) ?_; intro b_ hb_; have hl_ := b_.toNat_lt)| refine wrA (by omega) ?_| refine wrS (by omega) (by omega) ?_| refine wrI (by omega) (by omega) ?_| refine wrBA (by omega) ?_| refine wrB (by omega) (by omega) ?_| refine strC (by omega) ?_| refine nilB rfl ?_))
   exact ⟨rfl, rfl⟩
  ·rw [decide_eq_false h0, Bool.false_and]
   refine ev_fn rfl rfl ?_
   (repeat' (first| (intro (u_ : Unit); clear u_)| refine condT ?_| refine condF ?_| refine condp (by assumption) ?_| refine condn (by assumption) ?_| refine condN ?_| refine idxSb (by assumption) ?_| (refine condD ?_ ?_ <;> intro hq_ <;> first | (exfalso; omega) | skip)| (refine idxS (by omega) ?_; intro b_ hb_; have hl_ := b_.toNat_lt)| refine wrA (by omega) ?_| refine wrS (by omega) (by omega) ?_| refine wrI (by omega) (by omega) ?_| refine wrBA (by omega) ?_| refine wrB (by omega) (by omega) ?_| refine strC (by omega) ?_| refine nilB rfl ?_))
   exact ⟨rfl, rfl⟩
 ·rw [decide_eq_false h1, Bool.false_and]
  refine ev_fn rfl rfl ?_
  (repeat' (first| (intro (u_ : Unit); clear u_)| refine condT ?_| refine condF ?_| refine condp (by assumption) ?_| refine condn (by assumption) ?_| refine condN ?_| refine idxSb (by assumption) ?_| (refine condD ?_ ?_ <;> intro hq_ <;> first | (exfalso; omega) | skip)| (refine idxS (by omega) ?_; intro b_ hb_; have hl_ := b_.toNat_lt)| refine wrA (by omega) ?_| refine wrS (by omega) (by omega) ?_| refine wrI (by omega) (by omega) ?_| refine wrBA (by omega) ?_| refine wrB (by omega) (by omega) ?_| refine strC (by omega) ?_| refine nilB rfl ?_))
  exact ⟨rfl, rfl⟩
end
theorem clsEq00 : clsEq 0 0 = true := by decide +kernel
theorem get_mid {t pre post : List Re} {r : Re} {n : Nat} (h : t = pre ++ r :: post) (hn : pre.length = n) : t[n]? = some r := by
 subst h; subst hn; simp
theorem beginF_at {t : List Re} {f i : Nat} {r : Re} (h : t[i]? = some r) : beginF t (f + 1) (i : Int) =
  if many r.kind < 0 ∨ (r.kind ≠ 1 ∧ clsEq r.set 0 = false) then -1
   else if many r.kind = 0 then (if r.k0 = 0 ∧ r.k1 = 0 then (i : Int) else -1)
   else if many r.kind = 1 then (if r.k0 = (i : Int) - 1 ∧ r.k1 = 0 then beginF t f ((i : Int) - 1) else -1)
   else if beginF t f ((i : Int) - 1) < 1 ∨ ¬ (r.k0 = beginF t f ((i : Int) - 1) - 1 ∧ r.k1 = (i : Int) - 1) then -1
   else beginF t f (beginF t f ((i : Int) - 1) - 1) := by
 conv => lhs; unfold beginF
 rw [if_neg (by omega), Int.toNat_natCast, h]
theorem bf_leaf {t pre post : List Re} {f : Nat} {r : Re} (h : t = pre ++ r :: post) (hk : r.kind = 0 ∨ r.kind = 1 ∨ r.kind = 7 ∨ r.kind = 8) (hs : r.kind = 1 ∨ r.set = 0) (h0 : r.k0 = 0) (h1 : r.k1 = 0) : beginF t (f + 1) (pre.length : Int) = pre.length := by
 rw [beginF_at (get_mid h rfl)]
 have hm : many r.kind = 0 := by rcases hk with hk | hk | hk | hk <;> rw [hk] <;> decide
 rw [hm, if_neg, if_pos rfl, if_pos ⟨h0, h1⟩]
 rintro (h | ⟨ha, hb⟩)
 ·omega
 ·rcases hs with hs | hs
  ·exact ha hs
  ·rw [hs, clsEq00] at hb; cases hb
theorem bf_two {a b : Tr} {t pre post : List Re} {f : Nat} {kd : Int} (hkd : kd = 2 ∨ kd = 3) (_ : a.ok) (_ : b.ok) (h : t = pre ++ (flat pre.length a ++ flat (pre.length + a.size) b ++ [⟨kd, 0, ((pre.length + a.size - 1 : Nat) : Int), ((pre.length + a.size + b.size - 1 : Nat) : Int)⟩] ++ post)) (hf : a.size + b.size + 1 ≤ f + 1)
  (iha : ∀ pre post f, t = pre ++ (flat pre.length a ++ post) → a.size ≤ f → beginF t f ((pre.length + a.size - 1 : Nat) : Int) = pre.length)
  (ihb : ∀ pre post f, t = pre ++ (flat pre.length b ++ post) → b.size ≤ f → beginF t f ((pre.length + b.size - 1 : Nat) : Int) = pre.length) :
  beginF t (f + 1) ((pre.length + (a.size + b.size + 1) - 1 : Nat) : Int) = pre.length := by
 have hpa := a.size_pos
 have hpb := b.size_pos
 have hl : (pre ++ flat pre.length a).length = pre.length + a.size := by simp [flat_length]
 have hg : t[pre.length + a.size + b.size]? = some ⟨kd, 0, ((pre.length + a.size - 1 : Nat) : Int), ((pre.length + a.size + b.size - 1 : Nat) : Int)⟩ :=
  get_mid (pre := pre ++ flat pre.length a ++ flat (pre.length + a.size) b) (post := post) (by rw [h]; simp) (by simp [flat_length]; omega)
 have hb := ihb (pre ++ flat pre.length a) _ f (by rw [hl, h]; simp only [List.append_assoc]; rfl) (by omega)
 have ha := iha pre _ f (by rw [h]; simp only [List.append_assoc]; rfl) (by omega)
 rw [hl] at hb
 have hm : many kd = 2 := by rcases hkd with rfl | rfl <;> decide
 have e1 : ((pre.length + (a.size + b.size + 1) - 1 : Nat) : Int) = ((pre.length + a.size + b.size : Nat) : Int) := by omega
 have e2 : ((pre.length + a.size + b.size : Nat) : Int) - 1 = ((pre.length + a.size + b.size - 1 : Nat) : Int) := by omega
 have e3 : ((pre.length + a.size : Nat) : Int) - 1 = ((pre.length + a.size - 1 : Nat) : Int) := by omega
 rw [e1, beginF_at hg]
 simp only [hm, e2, hb, e3, ha]
 have n1 : ¬ ((2 : Int) < 0 ∨ kd ≠ 1 ∧ clsEq 0 0 = false) := by
  rintro (h | ⟨_, hb⟩)
  ·omega
  ·rw [clsEq00] at hb; cases hb
 rw [if_neg n1, if_neg (show ¬ (2 : Int) = 0 by omega), if_neg (show ¬ (2 : Int) = 1 by omega)]
 rw [if_neg (by
  rintro (h | h)
  ·omega
  ·exact h ⟨trivial, trivial⟩)]
theorem bf_flat : ∀ (a : Tr) (_ : a.ok) (t pre post : List Re) (f : Nat), t = pre ++ (flat pre.length a ++ post) → a.size ≤ f → beginF t f ((pre.length + a.size - 1 : Nat) : Int) = pre.length
 | .none, _, t, pre, post, f + 1, h, _ => bf_leaf (r := ⟨0, 0, 0, 0⟩) h (.inl rfl) (.inr rfl) rfl rfl
 | .set n, _, t, pre, post, f + 1, h, _ => bf_leaf (r := ⟨1, n, 0, 0⟩) h (.inr (.inl rfl)) (.inl rfl) rfl rfl
 | .beg, _, t, pre, post, f + 1, h, _ => bf_leaf (r := ⟨7, 0, 0, 0⟩) h (.inr (.inr (.inl rfl))) (.inr rfl) rfl rfl
 | .fin, _, t, pre, post, f + 1, h, _ => bf_leaf (r := ⟨8, 0, 0, 0⟩) h (.inr (.inr (.inr rfl))) (.inr rfl) rfl rfl
 | .post k a, hok, t, pre, post, f + 1, h, hf => by
   have hp := a.size_pos
   simp only [Tr.size] at hf ⊢
   simp only [flat, List.append_assoc, List.singleton_append] at h
   have hg : t[pre.length + a.size]? = some ⟨4 + k, 0, ((pre.length + a.size - 1 : Nat) : Int), 0⟩ := get_mid (pre := pre ++ flat pre.length a) (post := post) (by rw [h]; simp) (by simp [flat_length])
   have ih := bf_flat a hok.2 t pre _ f h (by omega)
   have hm : many (4 + (k : Int)) = 1 := by
    have := hok.1
    unfold many; rw [if_neg (by omega), if_pos (by omega)]
   have e1 : ((pre.length + (a.size + 1) - 1 : Nat) : Int) = ((pre.length + a.size : Nat) : Int) := by omega
   have e2 : ((pre.length + a.size : Nat) : Int) - 1 = ((pre.length + a.size - 1 : Nat) : Int) := by omega
   rw [e1, beginF_at hg]
   simp only [hm, e2]
   rw [if_neg (by rintro (h | ⟨_, hb⟩); · omega
                  ·rw [clsEq00] at hb; cases hb), if_neg (by omega), if_pos trivial, if_pos ⟨trivial, trivial⟩, ih]
 | .cat a b, hok, t, pre, post, f + 1, h, hf => bf_two (kd := 2) (.inl rfl) hok.1 hok.2 h hf (fun pre post f h hf => bf_flat a hok.1 t pre post f h hf) (fun pre post f h hf => bf_flat b hok.2 t pre post f h hf)
 | .alt a b, hok, t, pre, post, f + 1, h, hf => bf_two (kd := 3) (.inr rfl) hok.1 hok.2 h hf (fun pre post f h hf => bf_flat a hok.1 t pre post f h hf) (fun pre post f h hf => bf_flat b hok.2 t pre post f h hf)
 | a, _, t, pre, post, 0, h, hf => by have := a.size_pos; omega
end Go.Ab.R05j
namespace Go.Ab.R05j
set_option maxRecDepth 100000
set_option linter.all false
set_option maxHeartbeats 4000000
theorem take_snocR {t : List Re} {b n i : Nat} {r : Re} (h : t[i]? = some r) (hi : b + n = i) : (t.drop b).take (n + 1) = (t.drop b).take n ++ [r] := by
 rw [List.take_add_one, List.getElem?_drop, hi, h]; rfl
theorem many0 {k : Int} (h : many k = 0) : k = 0 ∨ k = 1 ∨ k = 7 ∨ k = 8 := by
 unfold many at h; repeat' split at h
 all_goals omega
theorem many1 {k : Int} (h : many k = 1) : 4 ≤ k ∧ k ≤ 6 := by
 unfold many at h; repeat' split at h
 all_goals omega
theorem many2 {k : Int} (h : ¬ many k < 0) (h0 : many k ≠ 0) (h1 : many k ≠ 1) : k = 2 ∨ k = 3 := by
 by_cases a : k = 2 ∨ k = 3
 ·exact a
 ·exfalso
  unfold many at h h0 h1
  rw [if_neg a] at h h0 h1
  by_cases b : 4 ≤ k ∧ k ≤ 6
  ·rw [if_pos b] at h1; exact h1 rfl
  ·rw [if_neg b] at h h0 h1
   by_cases c : k = 0 ∨ k = 1 ∨ k = 7 ∨ k = 8
   ·rw [if_pos c] at h0; exact h0 rfl
   ·rw [if_neg c] at h; omega
theorem bf_back (t : List Re) (hset : ∀ r ∈ t, r.set < 2 ^ 256) : ∀ (f i b : Nat), i < t.length → beginF t f (i : Int) = (b : Int) → ∃ a : Tr, a.ok ∧ b + a.size = i + 1 ∧ (t.drop b).take a.size = flat b a
 | 0, i, b, hi, h => by simp [beginF] at h
 | f + 1, i, b, hi, h => by
   obtain ⟨r, hr⟩ : ∃ r, t[i]? = some r := ⟨t[i], List.getElem?_eq_getElem hi⟩
   have hrs := hset r (List.mem_of_getElem? hr)
   rw [beginF_at hr] at h
   by_cases c1 : many r.kind < 0 ∨ (r.kind ≠ 1 ∧ clsEq r.set 0 = false)
   ·rw [if_pos c1] at h; omega
   rw [if_neg c1] at h
   have hs : r.kind ≠ 1 → r.set = 0 := fun hk => by
    cases hq : clsEq r.set 0
    ·exact absurd (.inr ⟨hk, hq⟩) c1
    ·exact (clsEq_iff hrs (by decide)).1 hq
   have one : b = i → ∀ a : Tr, a.size = 1 → a.ok → flat b a = [r] → ∃ a : Tr, a.ok ∧ b + a.size = i + 1 ∧ (t.drop b).take a.size = flat b a := fun hb a h1 h2 h3 =>
    ⟨a, h2, by omega, by rw [h1, h3, take_snocR (n := 0) hr (by omega)]; rfl⟩
   by_cases c2 : many r.kind = 0
   ·rw [if_pos c2] at h
    by_cases c3 : r.k0 = 0 ∧ r.k1 = 0
    ·rw [if_pos c3] at h
     obtain ⟨h0, h1⟩ := c3
     have hb : b = i := by omega
     obtain ⟨kd, st, a0, a1⟩ := r
     simp only at *
     subst h0 h1
     rcases many0 c2 with hk | hk | hk | hk
     ·subst hk; have := hs (by decide); subst this; exact one hb .none rfl trivial rfl
     ·subst hk; exact one hb (.set st) rfl hrs rfl
     ·subst hk; have := hs (by decide); subst this; exact one hb .beg rfl trivial rfl
     ·subst hk; have := hs (by decide); subst this; exact one hb .fin rfl trivial rfl
    ·rw [if_neg c3] at h; omega
   rw [if_neg c2] at h
   have hn1 : r.kind ≠ 1 := fun e => c2 (by rw [e]; decide)
   have hs0 := hs hn1
   have hi1 : i = 0 → ∀ x : Int, beginF t f ((i : Int) - 1) = -1 := fun e _ => by
    subst e
    cases f <;> simp [beginF]
   by_cases c4 : many r.kind = 1
   ·rw [if_pos c4] at h
    by_cases c5 : r.k0 = (i : Int) - 1 ∧ r.k1 = 0
    ·rw [if_pos c5] at h
     obtain ⟨h0, h1⟩ := c5
     have hi0 : 1 ≤ i := by
      rcases Nat.eq_zero_or_pos i with e | e
      ·have := hi1 e 0; omega
      ·exact e
     rw [show (i : Int) - 1 = ((i - 1 : Nat) : Int) by omega] at h
     obtain ⟨a, ha1, ha2, ha3⟩ := bf_back t hset f (i - 1) b (by omega) h
     have hk := many1 c4
     obtain ⟨kd, st, a0, a1⟩ := r
     simp only at *
     subst h0 h1 hs0
     refine ⟨.post (kd - 4).toNat a, ⟨by omega, ha1⟩, by simp only [Tr.size]; omega, ?_⟩
     simp only [Tr.size, flat]
     rw [take_snocR hr (by omega), ha3]
     congr 3 <;> omega
    ·rw [if_neg c5] at h; omega
   rw [if_neg c4] at h
   generalize hB : beginF t f ((i : Int) - 1) = B at h
   by_cases c6 : B < 1 ∨ ¬ (r.k0 = B - 1 ∧ r.k1 = (i : Int) - 1)
   ·rw [if_pos c6] at h; omega
   rw [if_neg c6] at h
   have hB1 : ¬ B < 1 := fun e => c6 (.inl e)
   have hk01 : r.k0 = B - 1 ∧ r.k1 = (i : Int) - 1 := Classical.byContradiction fun e => c6 (.inr e)
   obtain ⟨h0, h1⟩ := hk01
   have hi0 : 1 ≤ i := by
    rcases Nat.eq_zero_or_pos i with e | e
    ·have := hi1 e 0; omega
    ·exact e
   obtain ⟨B', rfl⟩ := Int.eq_ofNat_of_zero_le (by omega : 0 ≤ B)
   rw [show (i : Int) - 1 = ((i - 1 : Nat) : Int) by omega] at hB
   obtain ⟨y, hy1, hy2, hy3⟩ := bf_back t hset f (i - 1) B' (by omega) hB
   have hyp := y.size_pos
   rw [show (B' : Int) - 1 = ((B' - 1 : Nat) : Int) by omega] at h
   obtain ⟨x, hx1, hx2, hx3⟩ := bf_back t hset f (B' - 1) b (by omega) h
   have hxp := x.size_pos
   have hbx : b + x.size = B' := by omega
   have hk := many2 (fun e => c1 (.inl e)) c2 c4
   obtain ⟨kd, st, a0, a1⟩ := r
   simp only at *
   subst h0 h1 hs0
   have ht : (t.drop b).take (x.size + y.size + 1) = flat b x ++ flat (b + x.size) y ++ [⟨kd, 0, (B' : Int) - 1, (i : Int) - 1⟩] := by
    rw [take_snocR hr (by omega), List.take_add, hx3, List.drop_drop, hbx, hy3]
   rcases hk with rfl | rfl
   ·refine ⟨.cat x y, ⟨hx1, hy1⟩, by simp only [Tr.size]; omega, ?_⟩
    simp only [Tr.size, flat]
    rw [ht]
    congr 3 <;> omega
   ·refine ⟨.alt x y, ⟨hx1, hy1⟩, by simp only [Tr.size]; omega, ?_⟩
    simp only [Tr.size, flat]
    rw [ht]
    congr 3 <;> omega
theorem right_flat {a : Tr} (ha : a.ok) (hl : a.size ≤ 2000) : rightM (flat 0 a) = true := by
 have hp := a.size_pos
 have h := bf_flat a ha (flat 0 a) [] [] (a.size + 1) (by simp) (by omega)
 unfold rightM
 rw [flat_length, decide_eq_true hl, decide_eq_true (show 0 < a.size by omega), Bool.true_and, Bool.true_and, decide_eq_true]
 rw [show (a.size : Int) - 1 = (([] : List Re).length + a.size - 1 : Nat) by simp; omega]
 exact h
theorem flat_right {t : List Re} (hset : ∀ r ∈ t, r.set < 2 ^ 256) (h : rightM t = true) : ∃ a : Tr, a.ok ∧ t = flat 0 a ∧ a.size = t.length ∧ t.length ≤ 2000 := by
 unfold rightM at h
 simp only [Bool.and_eq_true, decide_eq_true_eq] at h
 obtain ⟨h1, h2, h3⟩ := h
 rw [show (t.length : Int) - 1 = ((t.length - 1 : Nat) : Int) by omega] at h3
 obtain ⟨a, ha1, ha2, ha3⟩ := bf_back t hset (t.length + 1) (t.length - 1) 0 (by omega) h3
 have hs : a.size = t.length := by omega
 refine ⟨a, ha1, ?_, hs, h1⟩
 rw [← ha3, hs]; simp
end Go.Ab.R05j
namespace Go.Ab.R05j
set_option maxRecDepth 100000
set_option linter.all false
set_option maxHeartbeats 4000000
def litA (c : UInt8) (l : List UInt8) : Tr := l.foldl (fun a x => .cat a (.set (spanN x.toNat 1))) (.set (spanN c.toNat 1))
def litTr : List UInt8 → Tr
 | [] => .none
 | c :: l => litA c l
theorem litA_snoc (c x : UInt8) (l : List UInt8) : litA c (l ++ [x]) = .cat (litA c l) (.set (spanN x.toNat 1)) := by simp [litA]
theorem fold_size : ∀ (l : List UInt8) (a : Tr), (l.foldl (fun a x => Tr.cat a (.set (spanN x.toNat 1))) a).size = a.size + 2 * l.length
 | [], a => by simp
 | x :: l, a => by rw [List.foldl_cons, fold_size l]; simp only [Tr.size, List.length_cons]; omega
theorem fold_ok : ∀ (l : List UInt8) (a : Tr), a.ok → (l.foldl (fun a x => Tr.cat a (.set (spanN x.toNat 1))) a).ok
 | [], a, h => h
 | x :: l, a, h => by rw [List.foldl_cons]; exact fold_ok l _ ⟨h, by have := x.toNat_lt; exact spanN_lt _ 1 (by omega)⟩
theorem litA_size (c : UInt8) (l : List UInt8) : (litA c l).size = 2 * l.length + 1 := by
 unfold litA; rw [fold_size]; simp only [Tr.size]; omega
theorem litA_ok (c : UInt8) (l : List UInt8) : (litA c l).ok := fold_ok l _ (by have := c.toNat_lt; exact spanN_lt _ 1 (by omega))
theorem litA_flat (c x : UInt8) (l : List UInt8) : flat 0 (litA c (l ++ [x])) = flat 0 (litA c l) ++ [⟨1, spanN x.toNat 1, 0, 0⟩] ++ [⟨2, 0, ((2 * l.length : Nat) : Int), ((2 * l.length + 1 : Nat) : Int)⟩] := by
 rw [litA_snoc]
 simp only [flat, Tr.size, litA_size]
 congr 3 <;> omega
section
variable {T : Tb} [hT : Base T]
theorem idxBy {s : List UInt8} {i : Nat} {x : UInt8} {c : List D → Prop} (h : s[i]? = some x) (h' : c [.int .u8 x.toNat]) : IdxL 1 (bytesOf s) (i : Int) c := idxLb (by simp [bytesOf, h]) rfl h'
theorem Lit_ev (c : UInt8) (l : List UInt8) (hl : l.length ≤ 900) (rf : Refs) : Ev T f_regex_Lit [str (c :: l)] rf (.ret (.tup [lst ((flat 0 (litA c l)).map reD), i64 (0 : Nat)])) rf := by
 refine Ev.any ?_ rfl rf
 have hb : (bytesOf (c :: l)).length = l.length + 1 := by simp [bytesOf]
 have hc : (c :: l).length = l.length + 1 := rfl
 have hfl : ∀ i, ((flat 0 (litA c (l.take i))).map reD).length = 2 * (l.take i).length + 1 := fun i => by rw [List.length_map, flat_length, litA_size]
 have htk : ∀ i, i ≤ l.length → (l.take i).length = i := fun i h => by rw [List.length_take]; omega
 refine ev_fn rfl rfl ?_
 (repeat' (first| (intro (u_ : Unit); clear u_)| refine condT ?_| refine condF ?_| refine condp (by assumption) ?_| refine condn (by assumption) ?_| refine condN ?_| refine idxSb (by assumption) ?_| refine condn (p := (c :: l) = []) (by simp) ?_| refine bytesB (by simp) ?_| (refine condD ?_ ?_ <;> intro hq_ <;> first | (exfalso; omega) | skip)| (refine idxS (by omega) ?_; intro b_ hb_; have hl_ := b_.toNat_lt)| refine wrA (by omega) ?_| refine wrS (by omega) (by omega) ?_| refine wrI (by omega) (by omega) ?_| refine wrBA (by omega) ?_| refine wrB (by omega) (by omega) ?_| refine strC (by omega) ?_| refine nilB rfl ?_))
 refine loopR (fun i : Nat => [(4, match i with | 0 => .nil | i + 1 => .own ((flat 0 (litA c (l.take i))).map reD)), (19, i64 i)]) (fun _ => []) (fun i => l.length + 1 - i) (fun i => i ≤ l.length + 1) 0 (by omega) (by rfl) (by rfl) ?_
 intro i hi
 cases i with
 | zero =>
   have hg : (c :: l)[0]? = some c := rfl
   have hO := One_ev (T := T) c.toNat c.toNat_lt
   (repeat' (first| (intro (u_ : Unit); clear u_)| refine condT ?_| refine condF ?_| refine condp (by assumption) ?_| refine condn (by assumption) ?_| refine condN ?_| refine idxSb (by assumption) ?_| refine idxBy hg ?_| refine callE_ev (hO _) ?_| refine appN1 (by simp) rfl ?_| (refine condD ?_ ?_ <;> intro hq_ <;> first | (exfalso; omega) | skip)| (refine idxS (by omega) ?_; intro b_ hb_; have hl_ := b_.toNat_lt)| refine wrA (by omega) ?_| refine wrS (by omega) (by omega) ?_| refine wrI (by omega) (by omega) ?_| refine wrBA (by omega) ?_| refine wrB (by omega) (by omega) ?_| refine strC (by omega) ?_| refine nilB rfl ?_))
   exact ⟨1, by omega, by omega, rfl, rfl, rfl, rfl⟩
 | succ i =>
   by_cases hil : i < l.length
   ·obtain ⟨x, hx⟩ : ∃ x, l[i]? = some x := ⟨l[i], List.getElem?_eq_getElem hil⟩
    have hg : (c :: l)[i + 1]? = some x := hx
    have hO := One_ev (T := T) x.toNat x.toNat_lt
    have h1 := hfl i
    have h2 := htk i (by omega)
    rw [h2] at h1
    have hsz := sizesRe (flat 0 (litA c (l.take i)))
    have hnext : (flat 0 (litA c (l.take (i + 1)))) = flat 0 (litA c (l.take i)) ++ [⟨1, spanN x.toNat 1, 0, 0⟩] ++ [⟨2, 0, ((2 * i : Nat) : Int), ((2 * i + 1 : Nat) : Int)⟩] := by
     rw [List.take_add_one, hx, ← h2]; rw [h2]; exact (litA_flat c x (l.take i)).trans (by rw [h2])
    (repeat' (first| (intro (u_ : Unit); clear u_)| refine condT ?_| refine condF ?_| refine condp (by assumption) ?_| refine condn (by assumption) ?_| refine condN ?_| refine idxSb (by assumption) ?_| refine idxBy hg ?_| refine callE_ev (hO _) ?_| refine appL (by simp only [List.length_append, List.length_cons, List.length_nil]; omega) (by first | exact hsz | exact (sizesRe (flat 0 (litA c (l.take i)) ++ [⟨1, spanN x.toNat 1, 0, 0⟩]) ▸ by rw [List.map_append]; rfl)) rfl ?_| refine wrS (by simp only [List.length_append, List.length_cons, List.length_nil]; omega) (by simp only [List.length_append, List.length_cons, List.length_nil]; omega) ?_| (refine condD ?_ ?_ <;> intro hq_ <;> first | (exfalso; omega) | skip)| (refine idxS (by omega) ?_; intro b_ hb_; have hl_ := b_.toNat_lt)| refine wrA (by omega) ?_| refine wrS (by omega) (by omega) ?_| refine wrI (by omega) (by omega) ?_| refine wrBA (by omega) ?_| refine wrB (by omega) (by omega) ?_| refine strC (by omega) ?_| refine nilB rfl ?_))
    all_goals try (exfalso; simp only [List.length_append, List.length_cons, List.length_nil] at *; omega)
    simp only [List.length_append, List.length_cons, List.length_nil, h1]
    rw [show 2 * i + 1 + (0 + 1) - 2 = 2 * i by omega, show 2 * i + 1 + (0 + 1) - 1 = 2 * i + 1 by omega]
    refine ⟨i + 2, by omega, by omega, ?_, rfl, rfl, rfl⟩
    show _ = upd _ [(4, AV.own ((flat 0 (litA c (l.take (i + 1)))).map reD)), (19, i64 ((i + 2 : Nat) : Int))]
    rw [hnext, List.map_append, List.map_append]
    have w0 : ∀ k, wd 0 k = 0 := fun k => by simp [wd]
    simp only [upd, Slots.get, reD, List.map_cons, List.map_nil, w0, reduceIte, Option.getD, Nat.reduceEqDiff]
    rfl
   ·have hil' : i = l.length := by omega
    have e : l.take i = l := List.take_of_length_le (by omega)
    subst hil'
    (repeat' (first| (intro (u_ : Unit); clear u_)| refine condT ?_| refine condF ?_| refine condp (by assumption) ?_| refine condn (by assumption) ?_| refine condN ?_| refine idxSb (by assumption) ?_| (refine condD ?_ ?_ <;> intro hq_ <;> first | (exfalso; omega) | skip)| (refine idxS (by omega) ?_; intro b_ hb_; have hl_ := b_.toNat_lt)| refine wrA (by omega) ?_| refine wrS (by omega) (by omega) ?_| refine wrI (by omega) (by omega) ?_| refine wrBA (by omega) ?_| refine wrB (by omega) (by omega) ?_| refine strC (by omega) ?_| refine nilB rfl ?_))
    exact ⟨by rw [e], rfl⟩
end
end Go.Ab.R05j
namespace Go.Ab.R05j
set_option maxRecDepth 100000
set_option linter.all false
set_option maxHeartbeats 4000000
section
variable {T : Tb} [hT : Base T]
theorem kids_ev (k : Int) (rf : Refs) : Ev T f_regex_kids [i64 k] rf (.ret (i64 (many k))) rf := by
 refine Ev.any ?_ rfl rf
 unfold many
 refine ev_fn rfl rfl ?_
 (repeat' (first| (intro (u_ : Unit); clear u_)| refine condT ?_| refine condF ?_| refine condp (by assumption) ?_| refine condn (by assumption) ?_| refine condN ?_| refine idxSb (by assumption) ?_| (refine condD ?_ ?_ <;> intro hq_ <;> first | (exfalso; omega) | skip)| (refine idxS (by omega) ?_; intro b_ hb_; have hl_ := b_.toNat_lt)| refine wrA (by omega) ?_| refine wrS (by omega) (by omega) ?_| refine wrI (by omega) (by omega) ?_| refine wrBA (by omega) ?_| refine wrB (by omega) (by omega) ?_| refine strC (by omega) ?_| refine nilB rfl ?_))
 all_goals first
  | (rw [if_pos (by omega)]; exact ⟨rfl, rfl⟩)
  | (rw [if_neg (by omega), if_pos (by omega)]; exact ⟨rfl, rfl⟩)
  | (rw [if_neg (by omega), if_neg (by omega), if_pos (by omega)]; exact ⟨rfl, rfl⟩)
  | (rw [if_neg (by omega), if_neg (by omega), if_neg (by omega)]; exact ⟨rfl, rfl⟩)
theorem Clone_ev (t : List Re) (ht : t ≠ []) (hl : t.length ≤ 2000) (rf : Refs) : Ev T f_slices_Clone_api_Re_api_Re [lst (t.map reD)] rf (.ret (.own (t.map reD))) rf := by
 refine Ev.any ?_ rfl rf
 obtain ⟨r, t, rfl⟩ := List.exists_cons_of_ne_nil ht
 refine ev_fn rfl rfl ?_
 (repeat' (first| (intro (u_ : Unit); clear u_)| refine condT ?_| refine condF ?_| refine condp (by assumption) ?_| refine condn (by assumption) ?_| refine condN ?_| refine idxSb (by assumption) ?_| refine appL (by simp at *; omega) rfl (sizesRe (r :: t)) ?_| (refine condD ?_ ?_ <;> intro hq_ <;> first | (exfalso; omega) | skip)| (refine idxS (by omega) ?_; intro b_ hb_; have hl_ := b_.toNat_lt)| refine wrA (by omega) ?_| refine wrS (by omega) (by omega) ?_| refine wrI (by omega) (by omega) ?_| refine wrBA (by omega) ?_| refine wrB (by omega) (by omega) ?_| refine strC (by omega) ?_| refine nilB rfl ?_))
 all_goals exact ⟨rfl, rfl⟩
theorem up_kids {n : Nat} {r : Re} (h : many r.kind = 0 ∨ many r.kind = -1) : up n r = r := by
 unfold up
 rw [if_neg (by omega), if_neg (by omega)]
theorem Join_ev (t u : List Re) (kind : Int) (hk : kind = 2 ∨ kind = 3) (ht : t ≠ []) (hl : t.length + u.length < 2000) (hb : Small u) (rf : Refs) : Ev T f_regex_Join [lst (t.map reD), lst (u.map reD), i64 kind] rf (.ret (.tup [lst ((t ++ u.map (up t.length) ++ [(⟨kind, 0, (t.length : Int) - 1, ((t.length + u.length : Nat) : Int) - 1⟩ : Re)]).map reD), i64 (0 : Nat)])) rf := by
 refine Ev.any ?_ rfl rf
 have l1 : (t.map reD).length = t.length := by simp
 have l2 : (u.map reD).length = u.length := by simp
 have htl : 0 < t.length := List.length_pos_iff.2 ht
 have hC := Clone_ev (T := T) t ht (by omega)
 refine ev_fn rfl rfl ?_
 (repeat' (first| (intro (u_ : Unit); clear u_)| refine condT ?_| refine condF ?_| refine condp (by assumption) ?_| refine condn (by assumption) ?_| refine condN ?_| refine idxSb (by assumption) ?_| refine callE_ev (hC _) ?_| (refine condD ?_ ?_ <;> intro hq_ <;> first | (exfalso; omega) | skip)| (refine idxS (by omega) ?_; intro b_ hb_; have hl_ := b_.toNat_lt)| refine wrA (by omega) ?_| refine wrS (by omega) (by omega) ?_| refine wrI (by omega) (by omega) ?_| refine wrBA (by omega) ?_| refine wrB (by omega) (by omega) ?_| refine strC (by omega) ?_| refine nilB rfl ?_))
 all_goals
  refine loopR (fun i : Nat => [(8, .own ((t ++ (u.take i).map (up t.length)).map reD)), (31, i64 i)]) (fun _ => []) (fun i => u.length - i) (fun i => i ≤ u.length) 0 (by omega) (by simp [upd, Slots.get]) (by rfl) ?_
  intro i hi
  by_cases hil : i < u.length
  ·obtain ⟨r, hr⟩ := getRe hil
   have hK := kids_ev (T := T) r.kind
   have hbr := hb r (List.mem_of_getElem? hr)
   have hm := many_cases r.kind
   have htk := takeRe hr
   have hlk : ((t ++ (u.take i).map (up t.length)).map reD).length = t.length + i := by simp; omega
   have hsz := sizesRe (t ++ (u.take i).map (up t.length))
   have he : (t ++ (u.take (i + 1)).map (up t.length)).map reD = (t ++ (u.take i).map (up t.length)).map reD ++ [reD (up t.length r)] := by rw [htk]; simp
   rcases hm with hm | hm | hm | hm <;> rw [hm] at hK
   all_goals
    (repeat' (first| (intro (u_ : Unit); clear u_)| refine condT ?_| refine condF ?_| refine condp (by assumption) ?_| refine condn (by assumption) ?_| refine condN ?_| refine idxSb (by assumption) ?_| refine idxReC hr ?_| refine callE_ev (hK _) ?_| refine loopS ?_| refine idxAi (i := 0) (by decide) ?_| refine idxAi (i := 1) (by decide) ?_| refine appL (by rw [hlk]; simp; omega) hsz rfl ?_| (refine condD ?_ ?_ <;> intro hq_ <;> first | (exfalso; omega) | skip)| (refine idxS (by omega) ?_; intro b_ hb_; have hl_ := b_.toNat_lt)| refine wrA (by omega) ?_| refine wrS (by omega) (by omega) ?_| refine wrI (by omega) (by omega) ?_| refine wrBA (by omega) ?_| refine wrB (by omega) (by omega) ?_| refine strC (by omega) ?_| refine nilB rfl ?_))
   all_goals
    refine ⟨i + 1, by omega, by omega, ?_, rfl, rfl, rfl⟩
    rw [he]
    first
     | (have eu : up t.length r = { r with k0 := r.k0 + t.length, k1 := r.k1 + t.length } := by unfold up; rw [if_pos hm]
        rw [eu, l1]; rfl)
     | (have eu : up t.length r = { r with k0 := r.k0 + t.length } := by unfold up; rw [if_neg (by omega), if_pos hm]
        rw [eu, l1]; rfl)
     | (rw [up_kids (.inl hm)]; rfl)
     | (rw [up_kids (.inr hm)]; rfl)
  ·have e1 : i = u.length := by omega
   subst e1
   rw [List.take_length]
   have hlk : ((t ++ u.map (up t.length)).map reD).length = t.length + u.length := by simp
   have hsz := sizesRe (t ++ u.map (up t.length))
   (repeat' (first| (intro (u_ : Unit); clear u_)| refine condT ?_| refine condF ?_| refine condp (by assumption) ?_| refine condn (by assumption) ?_| refine condN ?_| refine idxSb (by assumption) ?_| refine appL (by rw [hlk]; simp; omega) hsz rfl ?_| (refine condD ?_ ?_ <;> intro hq_ <;> first | (exfalso; omega) | skip)| (refine idxS (by omega) ?_; intro b_ hb_; have hl_ := b_.toNat_lt)| refine wrA (by omega) ?_| refine wrS (by omega) (by omega) ?_| refine wrI (by omega) (by omega) ?_| refine wrBA (by omega) ?_| refine wrB (by omega) (by omega) ?_| refine strC (by omega) ?_| refine nilB rfl ?_))
   refine ⟨?_, rfl⟩
   have a1 : ((t.length - 1 : Nat) : Int) = (t.length : Int) - 1 := by omega
   have a2 : ((t.length + u.length - 1 : Nat) : Int) = ((t.length + u.length : Nat) : Int) - 1 := by omega
   have hw : ∀ x y : Int, reD ⟨kind, 0, x, y⟩ = [.int .i64 kind, .int .u64 (0 : Nat), .int .u64 (0 : Nat), .int .u64 (0 : Nat), .int .u64 (0 : Nat), .int .i64 x, .int .i64 y] := fun x y => by simp [reD, wd]
   rw [l1, hlk, a1, a2, List.map_append (l₁ := t ++ u.map (up t.length)), List.map_cons, List.map_nil, hw]
end
end Go.Ab.R05j
namespace Go.Ab.R05j
set_option maxRecDepth 100000
set_option linter.all false
set_option maxHeartbeats 4000000
variable {T : Tb} [hT : Base T]
theorem add_bit (w j : Nat) (h : w / 2 ^ j % 2 = 0) : w + 2 ^ j = w ||| 2 ^ j := by
 have hl : w % 2 ^ (j + 1) = w % 2 ^ j := by rw [Nat.mod_pow_succ, h]; omega
 have hlt : w % 2 ^ j < 2 ^ j := Nat.mod_lt _ (Nat.two_pow_pos j)
 have hw : w = 2 ^ (j + 1) * (w / 2 ^ (j + 1)) + w % 2 ^ j := by rw [← hl]; exact (Nat.div_add_mod w (2 ^ (j + 1))).symm
 have hp : 2 ^ (j + 1) = 2 ^ j * 2 := Nat.pow_succ 2 j
 generalize w / 2 ^ (j + 1) = q at hw
 generalize w % 2 ^ j = l at *
 have e1 : 2 ^ (j + 1) * q + l = 2 ^ (j + 1) * q ||| l := Nat.two_pow_add_eq_or_of_lt (by omega) q
 have e2 : 2 ^ j * 1 + l = 2 ^ j * 1 ||| l := Nat.two_pow_add_eq_or_of_lt hlt 1
 have e3 : 2 ^ (j + 1) * q + (2 ^ j * 1 + l) = 2 ^ (j + 1) * q ||| (2 ^ j * 1 + l) := Nat.two_pow_add_eq_or_of_lt (by omega) q
 rw [Nat.mul_one] at e2 e3
 rw [hw, e1, Nat.or_assoc, Nat.or_comm l, ← e2, ← e3, ← e1]
 omega
def orTo (n m : Nat) : Nat → Nat
 | 0 => n
 | i + 1 => if m.testBit i then orTo n m i ||| 2 ^ i else orTo n m i
theorem orTo_bit (n m i c : Nat) : (orTo n m i).testBit c = (n.testBit c || (decide (c < i) && m.testBit c)) := by
 induction i with
 | zero => simp [orTo]
 | succ i ih =>
   simp only [orTo]
   by_cases h : m.testBit i
   ·rw [if_pos h, Nat.testBit_or, ih, Nat.testBit_two_pow]
    by_cases hc : i = c
    ·subst hc; simp [h]
    ·rw [show decide (c < i + 1) = decide (c < i) by rw [Bool.eq_iff_iff]; simp; omega]
     simp [hc]
   ·rw [if_neg h, ih]
    by_cases hc : i = c
    ·subst hc; simp [h]
    ·rw [show decide (c < i + 1) = decide (c < i) by rw [Bool.eq_iff_iff]; simp; omega]
theorem orTo_all (n m : Nat) (hm : m < 2 ^ 256) : orTo n m 256 = n ||| m := by
 apply Nat.eq_of_testBit_eq
 intro i
 rw [orTo_bit, Nat.testBit_or]
 by_cases h : i < 256
 ·simp [h]
 ·rw [Nat.testBit_lt_two_pow (Nat.lt_of_lt_of_le hm (Nat.pow_le_pow_right (by omega) (by omega)))]
  simp
def notTo (n : Nat) : Nat → Nat
 | 0 => 0
 | i + 1 => if n.testBit i then notTo n i else notTo n i ||| 2 ^ i
theorem notTo_bit (n i c : Nat) : (notTo n i).testBit c = (decide (c < i) && !n.testBit c) := by
 induction i with
 | zero => simp [notTo]
 | succ i ih =>
   simp only [notTo]
   by_cases h : n.testBit i
   ·rw [if_pos h, ih]
    by_cases hc : i = c
    ·subst hc; simp [h]
    ·rw [show decide (c < i + 1) = decide (c < i) by rw [Bool.eq_iff_iff]; simp; omega]
   ·rw [if_neg h, Nat.testBit_or, ih, Nat.testBit_two_pow]
    by_cases hc : i = c
    ·subst hc; simp [h]
    ·rw [show decide (c < i + 1) = decide (c < i) by rw [Bool.eq_iff_iff]; simp; omega]
     simp [hc]
theorem notTo_all (n : Nat) : notTo n 256 = notN n := by
 apply Nat.eq_of_testBit_eq
 intro i
 rw [notTo_bit, notN_bit]
end Go.Ab.R05j
namespace Go.Ab.R05j
set_option maxRecDepth 100000
set_option linter.all false
set_option maxHeartbeats 4000000
variable {T : Tb} [hT : Base T]
def pieceS (p : UInt8 × UInt8) : List UInt8 :=
 plainS p.1.toNat ++ (if p.2.toNat > p.1.toNat + 1 then 45 :: plainS p.2.toNat else if p.2.toNat > p.1.toNat then plainS p.2.toNat else [])
theorem plainS_length (c : Nat) : (plainS c).length ≤ 4 := by unfold plainS; split <;> simp
theorem textBody_wp (a b : UInt8) (s : List UInt8) (hs : s.length ≤ 2 ^ 30) : WP T r_class_Text_0 ⟨[(3, .ptr 0 0), (4, u8 a.toNat), (5, u8 b.toNat)], [[str s]], [], none, 1⟩
  (fun st => ∃ sl, st = ⟨sl, [[str (s ++ pieceS (a, b))]], [], none, 1⟩) (fun _ _ => False) := by
 have ha := a.toNat_lt
 have hb := b.toNat_lt
 have hpa := plainS_length a.toNat
 have hpb := plainS_length b.toNat
 refine (vc_wp (nb := 1) (N := fun _ rf df pn => rf = [[str (s ++ pieceS (a, b))]] ∧ df = [] ∧ pn = none) (X := fun _ _ _ _ _ => False) _ ?_).mono ?_ ?_
 ·(repeat' (first
   | (intro (u_ : Unit); clear u_)
   | refine condT ?_
   | refine condF ?_
   | refine condp (by assumption) ?_
   | refine condn (by assumption) ?_
   | refine condN ?_
   | refine idxSb (by assumption) ?_
   | refine callE_ev (Plain_ev _ (by omega) _) ?_
   | refine strC (by simp only [List.length_append, List.length_cons, List.length_nil]; omega) ?_
   | (refine condD ?_ ?_ <;> intro hq_ <;> first | (exfalso; omega) | skip)
   | (refine idxS (by omega) ?_; intro b_ hb_; have hl_ := b_.toNat_lt)
   | refine wrA (by omega) ?_
   | refine wrS (by omega) (by omega) ?_
   | refine wrI (by omega) (by omega) ?_
   | refine wrBA (by omega) ?_
   | refine wrB (by omega) (by omega) ?_
   | refine strC (by omega) ?_
   | refine nilB rfl ?_))
  all_goals
   refine ⟨?_, rfl, rfl⟩
   simp only [pieceS, gt_iff_lt]
   first | rw [if_pos (by omega)] | rw [if_neg (by omega), if_pos (by omega)] | rw [if_neg (by omega), if_neg (by omega)]
   simp only [List.append_assoc, List.append_nil, List.cons_append, List.nil_append]
 ·rintro ⟨sl, rf, df, pn, nb⟩ ⟨h1, h2, h3, h4⟩
  simp only at h1 h2 h3 h4
  subst h1 h2 h3 h4
  exact ⟨sl, rfl⟩
 ·rintro e s ⟨_, h⟩
  exact h
end Go.Ab.R05j
