/- Sets of bytes: of both, all others, spans, how many. -/
import Derived.Test.YtpdfcjgehdlheaaClass504
import Derived.Test.YtpdfcjgehdlheaaPop104
namespace Go.Ab.R04
set_option maxRecDepth 100000
set_option linter.all false
set_option maxHeartbeats 4000000
variable {T : Tb} [hT : Base T]

theorem wd_testBit (n i j : Nat) : (wd n i).testBit j = (decide (j < 64) && n.testBit (j + 64 * i)) := by
  unfold wd
  rw [Nat.testBit_mod_two_pow, Nat.testBit_div_two_pow]

theorem wd_or (n m i : Nat) : wd (n ||| m) i = wd n i ||| wd m i := by
  apply Nat.eq_of_testBit_eq
  intro j
  rw [Nat.testBit_or, wd_testBit, wd_testBit, wd_testBit, Nat.testBit_or]
  cases decide (j < 64) <;> simp

theorem wd_lt (n i : Nat) : wd n i < 2 ^ 64 := Nat.mod_lt _ (by omega)

/-- all others -/
def notN (n : Nat) : Nat := 2 ^ 256 - 1 - n % 2 ^ 256

theorem notN_bit (n c : Nat) : (notN n).testBit c = (decide (c < 256) && !n.testBit c) := by
  unfold notN
  rw [show 2 ^ 256 - 1 - n % 2 ^ 256 = 2 ^ 256 - (n % 2 ^ 256 + 1) by omega, Nat.testBit_two_pow_sub_succ (Nat.mod_lt _ (by omega)), Nat.testBit_mod_two_pow]
  cases h : decide (c < 256) <;> simp

theorem wd_not (n i : Nat) (hi : i < 4) : wd (notN n) i = 2 ^ 64 - 1 - wd n i := by
  apply Nat.eq_of_testBit_eq
  intro j
  have hl := wd_lt n i
  rw [show 2 ^ 64 - 1 - wd n i = 2 ^ 64 - (wd n i + 1) by omega, Nat.testBit_two_pow_sub_succ hl, wd_testBit, wd_testBit, notN_bit]
  by_cases h : j < 64
  · have : j + 64 * i < 256 := by omega
    simp [h, this]
  · simp [h]

/-- the words of a mixed set: the first i of one, the rest of another -/
def mixC (n m i : Nat) : List AV := (List.range 4).map fun j => .nat .u64 (if j < i then wd n j else wd m j)

theorem mixC_0 (n m : Nat) : mixC n m 0 = clsC m := rfl
theorem mixC_4 (n m : Nat) : mixC n m 4 = clsC n := rfl
theorem mixC_get {n m i : Nat} (h : i < 4) : (mixC n m i)[i]? = some (.d (.int .u64 (wd m i : Nat))) := by
  rcases i with _ | _ | _ | _ | i <;> first | rfl | omega
theorem mixC_set {n m i : Nat} {v : Nat} (h : i < 4) (hv : v = wd n i) : (mixC n m i).set i (.d (.int .u64 (v : Nat))) = mixC n m (i + 1) := by
  subst hv
  rcases i with _ | _ | _ | _ | i <;> first | rfl | omega
theorem mixC_length (n m i : Nat) : (mixC n m i).length = 4 := rfl

def z4 : List AV := [.nat .u64 0, .nat .u64 0, .nat .u64 0, .nat .u64 0]

theorem bn_not64 {a : Nat} (ha : a < 18446744073709551616) : unA .xor (.d (.int .u64 a)) = some (.d (.int .u64 ((18446744073709551615 - a : Nat) : Int))) := by
  have hm : ((a : Nat) : Int) ≤ IntKind.u64.max := by rw [mU]; omega
  have e1 : BitVec.ofInt IntKind.u64.bits (if IntKind.u64.signed then -1 else IntKind.u64.max) = BitVec.allOnes IntKind.u64.bits := by decide
  have e2 : (BitVec.allOnes IntKind.u64.bits ^^^ BitVec.ofInt IntKind.u64.bits (a : Int)).toNat = 18446744073709551615 - a := by
    rw [BitVec.allOnes_xor, BitVec.toNat_not, toInt_ofInt_nat (max_lt hm)]
    rfl
  simp only [unA]
  rw [e1, e2, wrap_bits (by decide) (by rw [mU]; omega)]

section
variable {sl : Slots} {rf : Refs} {df : List (AV × List AV)} {pn : Option (Option AV)} {nb : Nat} {N : St → Prop} {X : Ex → St → Prop} {r : List AOp} {d : Nat} {g : Option (Nat × Bool)} {may : Bool}
theorem o_not64 {x : Opd} {a : Nat} (hg : wantedL sl g = some true) (hx : getO sl x = some (.d (.int .u64 a))) (ha : a < 18446744073709551616) (h : OP T r ⟨(d, .d (.int .u64 ((18446744073709551615 - a : Nat) : Int))) :: sl, rf, df, pn, nb⟩ N X) : OP T (⟨some d, .un .xor x, g, may⟩ :: r) ⟨sl, rf, df, pn, nb⟩ N X :=
  o_pure hg (by simp only [stepOp, hx, bn_not64 ha]; rfl) h
end

theorem rfget0 (rf : Refs) (a : List AV) (x : List (List AV)) : (rf ++ a :: x)[rf.length]? = some a := by simp
theorem rfget1 (rf : Refs) (a b : List AV) (x : List (List AV)) : (rf ++ a :: b :: x)[rf.length + 1]? = some b := by simp
theorem rfget2 (rf : Refs) (a b c : List AV) (x : List (List AV)) : (rf ++ a :: b :: c :: x)[rf.length + 2]? = some c := by simp
theorem rfset0 (rf : Refs) (a y : List AV) (x : List (List AV)) : (rf ++ a :: x).set rf.length y = rf ++ y :: x := by simp
theorem rfset1 (rf : Refs) (a b y : List AV) (x : List (List AV)) : (rf ++ a :: b :: x).set (rf.length + 1) y = rf ++ a :: y :: x := by simp
theorem rfset2 (rf : Refs) (a b c y : List AV) (x : List (List AV)) : (rf ++ a :: b :: c :: x).set (rf.length + 2) y = rf ++ a :: b :: y :: x := by simp

section
variable {sl : Slots} {rf : Refs} {df : List (AV × List AV)} {pn : Option (Option AV)} {nb : Nat} {N : St → Prop} {X : Ex → St → Prop} {r : List AOp} {d : Nat} {g : Option (Nat × Bool)} {may : Bool}
theorem end_cls {af : AFn} {n t q k : Nat} {rf' : Refs} (hk : af.keep = false) (hr : af.res = [.cell t (some 4)]) (hv : sl.get t = some (.ptr q 0)) (hg : rf[q]? = some (clsC k)) (hrf : rf' = rf.take n) : EndX af n (.ret (cls k)) rf' .ret ⟨sl, rf, [], pn, nb⟩ :=
  .ret (v := cls k) rfl (by rw [hr, hk]; simp only [resOf, resAs, resA, hv, loadAt, Refs.cellsAt, hg]; rfl) (by simp [cls, clsC, wdv, AV.nat, AV.refB, AV.refBs]) rfl hrf

theorem o_lcls {a : Opd} {q k : Nat} (hg : wantedL sl g = some true) (ha : getO sl a = some (.ptr q 0)) (hr : rf[q]? = some (clsC k)) (h : OP T r ⟨(d, cls k) :: sl, rf, df, pn, nb⟩ N X) :
    OP T (⟨some d, .load (some 4) a, g, may⟩ :: r) ⟨sl, rf, df, pn, nb⟩ N X :=
  o_loada hg ha hr (Nat.le_refl 4) rfl h

theorem o_scls {a x : Opd} {q k : Nat} {cs : List AV} {rf' : Refs} (hg : wantedL sl g = some true) (ha : getO sl a = some (.ptr q 0)) (hx : rawO sl x = some (cls k)) (hr : rf[q]? = some cs) (hl : cs.length = 4) (hrf : rf.set q (clsC k) = rf') (h : OP T r ⟨sl, rf', df, pn, nb⟩ N X) :
    OP T (⟨none, .store 4 a x, g, may⟩ :: r) ⟨sl, rf, df, pn, nb⟩ N X := by
  subst hrf
  refine o_store hg ha hx (fun _ h => by cases h) rfl rfl rfl hr (by omega) (.inl (by simp [cls, clsC, wdv, AV.nat, AV.cellsO, AV.strips, AV.strip, AV.refBs, AV.refB])) ?_ h
  obtain ⟨a, b, c, d, rfl⟩ : ∃ a b c d, cs = [a, b, c, d] := by
    rcases cs with _ | ⟨a, _ | ⟨b, _ | ⟨c, _ | ⟨d, _ | ⟨e, cs⟩⟩⟩⟩⟩ <;> simp at hl
    exact ⟨a, b, c, d, rfl⟩
  rfl
end

theorem Or_ev (n m : Nat) (rf : Refs) : Ev T f_class_Or [cls n, cls m] rf (.ret (cls (n ||| m))) rf := by
  refine ev_callB rfl rfl ?_
  repeat (first | (first
      | refine o_movd rfl rfl ?_
      | refine o_movp rfl rfl ?_
      | refine o_mova rfl rfl ?_
      | refine o_mov rfl rfl ?_
      | refine o_lssn rfl rfl rfl ?_
      | refine o_asgd rfl rfl ?_
      | refine o_asgo rfl rfl ?_
      | refine o_orn rfl rfl rfl (by (first | omega | (simp only [m64, mU, m8, n64, nU, n8, b64, bU, b8]; omega))) (by (first | omega | (simp only [m64, mU, m8, n64, nU, n8, b64, bU, b8]; omega))) (by decide) ?_
      | refine o_addkn rfl rfl rfl (by decide) (by (first | omega | (simp only [m64, mU, m8, n64, nU, n8, b64, bU, b8]; omega))) ?_
      | refine o_cat rfl rfl rfl (by (first | omega | (simp only [m64, mU, m8, n64, nU, n8, b64, bU, b8]; omega))) ?_
      | refine o_add rfl rfl rfl (by omega) (by omega) ?_
      | refine op_nil ?_
      | refine o_bin rfl rfl rfl rfl ?_) | (first
      | refine wp_seq ?_
      | refine wp_ops ?_
      | refine wp_keep ?_
      | refine keepN (by (simp +decide only [Slots.keep, Slots.get, reduceIte]); exact rfl) ?_
      | refine wp_block ?_
      | refine wp_skip ?_
      | refine wp_ret ?_
      | refine wp_exit ?_
      | refine bx_ret ?_
      | refine bx_here ?_
      | refine bx_exit rfl ?_))
  refine o_box rfl rfl rfl rfl ?_
  refine o_box rfl rfl rfl rfl ?_
  refine o_alloc rfl ?_
  repeat (first | (first
      | refine o_movd rfl rfl ?_
      | refine o_movp rfl rfl ?_
      | refine o_mova rfl rfl ?_
      | refine o_mov rfl rfl ?_
      | refine o_lssn rfl rfl rfl ?_
      | refine o_asgd rfl rfl ?_
      | refine o_asgo rfl rfl ?_
      | refine o_orn rfl rfl rfl (by (first | omega | (simp only [m64, mU, m8, n64, nU, n8, b64, bU, b8]; omega))) (by (first | omega | (simp only [m64, mU, m8, n64, nU, n8, b64, bU, b8]; omega))) (by decide) ?_
      | refine o_addkn rfl rfl rfl (by decide) (by (first | omega | (simp only [m64, mU, m8, n64, nU, n8, b64, bU, b8]; omega))) ?_
      | refine o_cat rfl rfl rfl (by (first | omega | (simp only [m64, mU, m8, n64, nU, n8, b64, bU, b8]; omega))) ?_
      | refine o_add rfl rfl rfl (by omega) (by omega) ?_
      | refine op_nil ?_
      | refine o_bin rfl rfl rfl rfl ?_) | (first
      | refine wp_seq ?_
      | refine wp_ops ?_
      | refine wp_keep ?_
      | refine keepN (by (simp +decide only [Slots.keep, Slots.get, reduceIte]); exact rfl) ?_
      | refine wp_block ?_
      | refine wp_skip ?_
      | refine wp_ret ?_
      | refine wp_exit ?_
      | refine bx_ret ?_
      | refine bx_here ?_
      | refine bx_exit rfl ?_))
  simp only [List.length_append, List.length_cons, List.length_nil, List.append_assoc, List.cons_append, List.nil_append, Nat.zero_add, Nat.add_assoc, Nat.reduceAdd]
  refine wp_loop (m := 4) (fun k st => ∃ i : Nat, i + k = 4 ∧ st = ⟨[(2, .ptr rf.length 0), (3, .ptr (rf.length + 1) 0), (4, .ptr (rf.length + 2) 0), (6, i64 i)], rf ++ [mixC (n ||| m) n i, clsC m, z4], [], none, rf.length⟩) ⟨0, by omega, rfl⟩ ?_
  rintro k st ⟨i, hik, rfl⟩ -
  repeat (first | (first
      | refine o_movd rfl rfl ?_
      | refine o_movp rfl rfl ?_
      | refine o_mova rfl rfl ?_
      | refine o_mov rfl rfl ?_
      | refine o_lssn rfl rfl rfl ?_
      | refine o_asgd rfl rfl ?_
      | refine o_asgo rfl rfl ?_
      | refine o_orn rfl rfl rfl (by (first | omega | (simp only [m64, mU, m8, n64, nU, n8, b64, bU, b8]; omega))) (by (first | omega | (simp only [m64, mU, m8, n64, nU, n8, b64, bU, b8]; omega))) (by decide) ?_
      | refine o_addkn rfl rfl rfl (by decide) (by (first | omega | (simp only [m64, mU, m8, n64, nU, n8, b64, bU, b8]; omega))) ?_
      | refine o_cat rfl rfl rfl (by (first | omega | (simp only [m64, mU, m8, n64, nU, n8, b64, bU, b8]; omega))) ?_
      | refine o_add rfl rfl rfl (by omega) (by omega) ?_
      | refine op_nil ?_
      | refine o_bin rfl rfl rfl rfl ?_) | (first
      | refine wp_seq ?_
      | refine wp_ops ?_
      | refine wp_keep ?_
      | refine keepN (by (simp +decide only [Slots.keep, Slots.get, reduceIte]); exact rfl) ?_
      | refine wp_block ?_
      | refine wp_skip ?_
      | refine wp_ret ?_
      | refine wp_exit ?_
      | refine bx_ret ?_
      | refine bx_here ?_
      | refine bx_exit rfl ?_))
  refine wp_if rfl ?_ ?_ <;> intro hi
  · have h1 := wd_lt n i
    have h2 := wd_lt m i
    repeat (first | (first
      | refine o_movd rfl rfl ?_
      | refine o_movp rfl rfl ?_
      | refine o_mova rfl rfl ?_
      | refine o_mov rfl rfl ?_
      | refine o_lssn rfl rfl rfl ?_
      | refine o_asgd rfl rfl ?_
      | refine o_asgo rfl rfl ?_
      | refine o_orn rfl rfl rfl (by (first | omega | (simp only [m64, mU, m8, n64, nU, n8, b64, bU, b8]; omega))) (by (first | omega | (simp only [m64, mU, m8, n64, nU, n8, b64, bU, b8]; omega))) (by decide) ?_
      | refine o_addkn rfl rfl rfl (by decide) (by (first | omega | (simp only [m64, mU, m8, n64, nU, n8, b64, bU, b8]; omega))) ?_
      | refine o_cat rfl rfl rfl (by (first | omega | (simp only [m64, mU, m8, n64, nU, n8, b64, bU, b8]; omega))) ?_
      | refine o_add rfl rfl rfl (by omega) (by omega) ?_
      | refine op_nil ?_
      | refine o_bin rfl rfl rfl rfl ?_) | (first
      | refine wp_seq ?_
      | refine wp_ops ?_
      | refine wp_keep ?_
      | refine keepN (by (simp +decide only [Slots.keep, Slots.get, reduceIte]); exact rfl) ?_
      | refine wp_block ?_
      | refine wp_skip ?_
      | refine wp_ret ?_
      | refine wp_exit ?_
      | refine bx_ret ?_
      | refine bx_here ?_
      | refine bx_exit rfl ?_))
    refine o_idxA (j := i) rfl rfl rfl rfl (by omega) ?_
    rw [show 0 + i * 1 = i by omega]
    refine o_load rfl rfl (rfget0 _ _ _) (mixC_get (by omega)) ?_
    repeat (first | (first
      | refine o_movd rfl rfl ?_
      | refine o_movp rfl rfl ?_
      | refine o_mova rfl rfl ?_
      | refine o_mov rfl rfl ?_
      | refine o_lssn rfl rfl rfl ?_
      | refine o_asgd rfl rfl ?_
      | refine o_asgo rfl rfl ?_
      | refine o_orn rfl rfl rfl (by (first | omega | (simp only [m64, mU, m8, n64, nU, n8, b64, bU, b8]; omega))) (by (first | omega | (simp only [m64, mU, m8, n64, nU, n8, b64, bU, b8]; omega))) (by decide) ?_
      | refine o_addkn rfl rfl rfl (by decide) (by (first | omega | (simp only [m64, mU, m8, n64, nU, n8, b64, bU, b8]; omega))) ?_
      | refine o_cat rfl rfl rfl (by (first | omega | (simp only [m64, mU, m8, n64, nU, n8, b64, bU, b8]; omega))) ?_
      | refine o_add rfl rfl rfl (by omega) (by omega) ?_
      | refine op_nil ?_
      | refine o_bin rfl rfl rfl rfl ?_) | (first
      | refine wp_seq ?_
      | refine wp_ops ?_
      | refine wp_keep ?_
      | refine keepN (by (simp +decide only [Slots.keep, Slots.get, reduceIte]); exact rfl) ?_
      | refine wp_block ?_
      | refine wp_skip ?_
      | refine wp_ret ?_
      | refine wp_exit ?_
      | refine bx_ret ?_
      | refine bx_here ?_
      | refine bx_exit rfl ?_))
    refine o_idxA (j := i) rfl rfl rfl rfl (by omega) ?_
    rw [show 0 + i * 1 = i by omega]
    refine o_load rfl rfl (rfget1 _ _ _ _) (clsC_get (by omega)) ?_
    repeat (first | (first
      | refine o_movd rfl rfl ?_
      | refine o_movp rfl rfl ?_
      | refine o_mova rfl rfl ?_
      | refine o_mov rfl rfl ?_
      | refine o_lssn rfl rfl rfl ?_
      | refine o_asgd rfl rfl ?_
      | refine o_asgo rfl rfl ?_
      | refine o_orn rfl rfl rfl (by (first | omega | (simp only [m64, mU, m8, n64, nU, n8, b64, bU, b8]; omega))) (by (first | omega | (simp only [m64, mU, m8, n64, nU, n8, b64, bU, b8]; omega))) (by decide) ?_
      | refine o_addkn rfl rfl rfl (by decide) (by (first | omega | (simp only [m64, mU, m8, n64, nU, n8, b64, bU, b8]; omega))) ?_
      | refine o_cat rfl rfl rfl (by (first | omega | (simp only [m64, mU, m8, n64, nU, n8, b64, bU, b8]; omega))) ?_
      | refine o_add rfl rfl rfl (by omega) (by omega) ?_
      | refine op_nil ?_
      | refine o_bin rfl rfl rfl rfl ?_) | (first
      | refine wp_seq ?_
      | refine wp_ops ?_
      | refine wp_keep ?_
      | refine keepN (by (simp +decide only [Slots.keep, Slots.get, reduceIte]); exact rfl) ?_
      | refine wp_block ?_
      | refine wp_skip ?_
      | refine wp_ret ?_
      | refine wp_exit ?_
      | refine bx_ret ?_
      | refine bx_here ?_
      | refine bx_exit rfl ?_))
    refine o_idxA (j := i) rfl rfl rfl rfl (by omega) ?_
    rw [show 0 + i * 1 = i by omega]
    refine o_store1 rfl rfl rfl (rfget0 _ _ _) (by rw [mixC_length]; omega) (mixC_set (by omega) (wd_or n m i).symm) (rfset0 _ _ _ _) ?_
    repeat (first | (first
      | refine o_movd rfl rfl ?_
      | refine o_movp rfl rfl ?_
      | refine o_mova rfl rfl ?_
      | refine o_mov rfl rfl ?_
      | refine o_lssn rfl rfl rfl ?_
      | refine o_asgd rfl rfl ?_
      | refine o_asgo rfl rfl ?_
      | refine o_orn rfl rfl rfl (by (first | omega | (simp only [m64, mU, m8, n64, nU, n8, b64, bU, b8]; omega))) (by (first | omega | (simp only [m64, mU, m8, n64, nU, n8, b64, bU, b8]; omega))) (by decide) ?_
      | refine o_addkn rfl rfl rfl (by decide) (by (first | omega | (simp only [m64, mU, m8, n64, nU, n8, b64, bU, b8]; omega))) ?_
      | refine o_cat rfl rfl rfl (by (first | omega | (simp only [m64, mU, m8, n64, nU, n8, b64, bU, b8]; omega))) ?_
      | refine o_add rfl rfl rfl (by omega) (by omega) ?_
      | refine op_nil ?_
      | refine o_bin rfl rfl rfl rfl ?_) | (first
      | refine wp_seq ?_
      | refine wp_ops ?_
      | refine wp_keep ?_
      | refine keepN (by (simp +decide only [Slots.keep, Slots.get, reduceIte]); exact rfl) ?_
      | refine wp_block ?_
      | refine wp_skip ?_
      | refine wp_ret ?_
      | refine wp_exit ?_
      | refine bx_ret ?_
      | refine bx_here ?_
      | refine bx_exit rfl ?_))
    refine ⟨by simp, k - 1, by omega, i + 1, by omega, rfl⟩
  · have : i = 4 := by omega
    subst this
    rw [mixC_4]
    repeat (first | (first
      | refine o_movd rfl rfl ?_
      | refine o_movp rfl rfl ?_
      | refine o_mova rfl rfl ?_
      | refine o_mov rfl rfl ?_
      | refine o_lssn rfl rfl rfl ?_
      | refine o_asgd rfl rfl ?_
      | refine o_asgo rfl rfl ?_
      | refine o_orn rfl rfl rfl (by (first | omega | (simp only [m64, mU, m8, n64, nU, n8, b64, bU, b8]; omega))) (by (first | omega | (simp only [m64, mU, m8, n64, nU, n8, b64, bU, b8]; omega))) (by decide) ?_
      | refine o_addkn rfl rfl rfl (by decide) (by (first | omega | (simp only [m64, mU, m8, n64, nU, n8, b64, bU, b8]; omega))) ?_
      | refine o_cat rfl rfl rfl (by (first | omega | (simp only [m64, mU, m8, n64, nU, n8, b64, bU, b8]; omega))) ?_
      | refine o_add rfl rfl rfl (by omega) (by omega) ?_
      | refine op_nil ?_
      | refine o_bin rfl rfl rfl rfl ?_) | (first
      | refine wp_seq ?_
      | refine wp_ops ?_
      | refine wp_keep ?_
      | refine keepN (by (simp +decide only [Slots.keep, Slots.get, reduceIte]); exact rfl) ?_
      | refine wp_block ?_
      | refine wp_skip ?_
      | refine wp_ret ?_
      | refine wp_exit ?_
      | refine bx_ret ?_
      | refine bx_here ?_
      | refine bx_exit rfl ?_))
    refine o_lcls rfl rfl (rfget0 _ _ _) ?_
    refine o_scls rfl rfl rfl (rfget2 _ _ _ _ _) rfl (rfset2 _ _ _ _ _ _) ?_
    repeat (first | (first
      | refine o_movd rfl rfl ?_
      | refine o_movp rfl rfl ?_
      | refine o_mova rfl rfl ?_
      | refine o_mov rfl rfl ?_
      | refine o_lssn rfl rfl rfl ?_
      | refine o_asgd rfl rfl ?_
      | refine o_asgo rfl rfl ?_
      | refine o_orn rfl rfl rfl (by (first | omega | (simp only [m64, mU, m8, n64, nU, n8, b64, bU, b8]; omega))) (by (first | omega | (simp only [m64, mU, m8, n64, nU, n8, b64, bU, b8]; omega))) (by decide) ?_
      | refine o_addkn rfl rfl rfl (by decide) (by (first | omega | (simp only [m64, mU, m8, n64, nU, n8, b64, bU, b8]; omega))) ?_
      | refine o_cat rfl rfl rfl (by (first | omega | (simp only [m64, mU, m8, n64, nU, n8, b64, bU, b8]; omega))) ?_
      | refine o_add rfl rfl rfl (by omega) (by omega) ?_
      | refine op_nil ?_
      | refine o_bin rfl rfl rfl rfl ?_) | (first
      | refine wp_seq ?_
      | refine wp_ops ?_
      | refine wp_keep ?_
      | refine keepN (by (simp +decide only [Slots.keep, Slots.get, reduceIte]); exact rfl) ?_
      | refine wp_block ?_
      | refine wp_skip ?_
      | refine wp_ret ?_
      | refine wp_exit ?_
      | refine bx_ret ?_
      | refine bx_here ?_
      | refine bx_exit rfl ?_))
    refine end_cls rfl rfl rfl (rfget2 _ _ _ _ _) (by simp)

theorem Not_ev (n : Nat) (rf : Refs) : Ev T f_class_Not [cls n] rf (.ret (cls (notN n))) rf := by
  refine ev_callB rfl rfl ?_
  repeat (first | (first
      | refine o_movd rfl rfl ?_
      | refine o_movp rfl rfl ?_
      | refine o_mova rfl rfl ?_
      | refine o_mov rfl rfl ?_
      | refine o_lssn rfl rfl rfl ?_
      | refine o_asgd rfl rfl ?_
      | refine o_asgo rfl rfl ?_
      | refine o_addkn rfl rfl rfl (by decide) (by (first | omega | (simp only [m64, mU, m8, n64, nU, n8, b64, bU, b8]; omega))) ?_
      | refine o_cat rfl rfl rfl (by (first | omega | (simp only [m64, mU, m8, n64, nU, n8, b64, bU, b8]; omega))) ?_
      | refine o_add rfl rfl rfl (by omega) (by omega) ?_
      | refine op_nil ?_
      | refine o_bin rfl rfl rfl rfl ?_) | (first
      | refine wp_seq ?_
      | refine wp_ops ?_
      | refine wp_keep ?_
      | refine keepN (by (simp +decide only [Slots.keep, Slots.get, reduceIte]); exact rfl) ?_
      | refine wp_block ?_
      | refine wp_skip ?_
      | refine wp_ret ?_
      | refine wp_exit ?_
      | refine bx_ret ?_
      | refine bx_here ?_
      | refine bx_exit rfl ?_))
  refine o_box rfl rfl rfl rfl ?_
  refine o_alloc rfl ?_
  repeat (first | (first
      | refine o_movd rfl rfl ?_
      | refine o_movp rfl rfl ?_
      | refine o_mova rfl rfl ?_
      | refine o_mov rfl rfl ?_
      | refine o_lssn rfl rfl rfl ?_
      | refine o_asgd rfl rfl ?_
      | refine o_asgo rfl rfl ?_
      | refine o_addkn rfl rfl rfl (by decide) (by (first | omega | (simp only [m64, mU, m8, n64, nU, n8, b64, bU, b8]; omega))) ?_
      | refine o_cat rfl rfl rfl (by (first | omega | (simp only [m64, mU, m8, n64, nU, n8, b64, bU, b8]; omega))) ?_
      | refine o_add rfl rfl rfl (by omega) (by omega) ?_
      | refine op_nil ?_
      | refine o_bin rfl rfl rfl rfl ?_) | (first
      | refine wp_seq ?_
      | refine wp_ops ?_
      | refine wp_keep ?_
      | refine keepN (by (simp +decide only [Slots.keep, Slots.get, reduceIte]); exact rfl) ?_
      | refine wp_block ?_
      | refine wp_skip ?_
      | refine wp_ret ?_
      | refine wp_exit ?_
      | refine bx_ret ?_
      | refine bx_here ?_
      | refine bx_exit rfl ?_))
  simp only [List.length_append, List.length_cons, List.length_nil, List.append_assoc, List.cons_append, List.nil_append, Nat.zero_add, Nat.add_assoc, Nat.reduceAdd]
  refine wp_loop (m := 4) (fun k st => ∃ i : Nat, i + k = 4 ∧ st = ⟨[(1, .ptr rf.length 0), (2, .ptr (rf.length + 1) 0), (4, i64 i)], rf ++ [mixC (notN n) n i, z4], [], none, rf.length⟩) ⟨0, by omega, rfl⟩ ?_
  rintro k st ⟨i, hik, rfl⟩ -
  repeat (first | (first
      | refine o_movd rfl rfl ?_
      | refine o_movp rfl rfl ?_
      | refine o_mova rfl rfl ?_
      | refine o_mov rfl rfl ?_
      | refine o_lssn rfl rfl rfl ?_
      | refine o_asgd rfl rfl ?_
      | refine o_asgo rfl rfl ?_
      | refine o_addkn rfl rfl rfl (by decide) (by (first | omega | (simp only [m64, mU, m8, n64, nU, n8, b64, bU, b8]; omega))) ?_
      | refine o_cat rfl rfl rfl (by (first | omega | (simp only [m64, mU, m8, n64, nU, n8, b64, bU, b8]; omega))) ?_
      | refine o_add rfl rfl rfl (by omega) (by omega) ?_
      | refine op_nil ?_
      | refine o_bin rfl rfl rfl rfl ?_) | (first
      | refine wp_seq ?_
      | refine wp_ops ?_
      | refine wp_keep ?_
      | refine keepN (by (simp +decide only [Slots.keep, Slots.get, reduceIte]); exact rfl) ?_
      | refine wp_block ?_
      | refine wp_skip ?_
      | refine wp_ret ?_
      | refine wp_exit ?_
      | refine bx_ret ?_
      | refine bx_here ?_
      | refine bx_exit rfl ?_))
  refine wp_if rfl ?_ ?_ <;> intro hi
  · have h1 := wd_lt n i
    repeat (first | (first
      | refine o_movd rfl rfl ?_
      | refine o_movp rfl rfl ?_
      | refine o_mova rfl rfl ?_
      | refine o_mov rfl rfl ?_
      | refine o_lssn rfl rfl rfl ?_
      | refine o_asgd rfl rfl ?_
      | refine o_asgo rfl rfl ?_
      | refine o_addkn rfl rfl rfl (by decide) (by (first | omega | (simp only [m64, mU, m8, n64, nU, n8, b64, bU, b8]; omega))) ?_
      | refine o_cat rfl rfl rfl (by (first | omega | (simp only [m64, mU, m8, n64, nU, n8, b64, bU, b8]; omega))) ?_
      | refine o_add rfl rfl rfl (by omega) (by omega) ?_
      | refine op_nil ?_
      | refine o_bin rfl rfl rfl rfl ?_) | (first
      | refine wp_seq ?_
      | refine wp_ops ?_
      | refine wp_keep ?_
      | refine keepN (by (simp +decide only [Slots.keep, Slots.get, reduceIte]); exact rfl) ?_
      | refine wp_block ?_
      | refine wp_skip ?_
      | refine wp_ret ?_
      | refine wp_exit ?_
      | refine bx_ret ?_
      | refine bx_here ?_
      | refine bx_exit rfl ?_))
    refine o_idxA (j := i) rfl rfl rfl rfl (by omega) ?_
    rw [show 0 + i * 1 = i by omega]
    refine o_load rfl rfl (rfget0 _ _ _) (mixC_get (by omega)) ?_
    refine o_not64 rfl rfl (by omega) ?_
    refine o_idxA (j := i) rfl rfl rfl rfl (by omega) ?_
    rw [show 0 + i * 1 = i by omega]
    refine o_store1 rfl rfl rfl (rfget0 _ _ _) (by rw [mixC_length]; omega) (mixC_set (by omega) (wd_not n i (by omega)).symm) (rfset0 _ _ _ _) ?_
    repeat (first | (first
      | refine o_movd rfl rfl ?_
      | refine o_movp rfl rfl ?_
      | refine o_mova rfl rfl ?_
      | refine o_mov rfl rfl ?_
      | refine o_lssn rfl rfl rfl ?_
      | refine o_asgd rfl rfl ?_
      | refine o_asgo rfl rfl ?_
      | refine o_addkn rfl rfl rfl (by decide) (by (first | omega | (simp only [m64, mU, m8, n64, nU, n8, b64, bU, b8]; omega))) ?_
      | refine o_cat rfl rfl rfl (by (first | omega | (simp only [m64, mU, m8, n64, nU, n8, b64, bU, b8]; omega))) ?_
      | refine o_add rfl rfl rfl (by omega) (by omega) ?_
      | refine op_nil ?_
      | refine o_bin rfl rfl rfl rfl ?_) | (first
      | refine wp_seq ?_
      | refine wp_ops ?_
      | refine wp_keep ?_
      | refine keepN (by (simp +decide only [Slots.keep, Slots.get, reduceIte]); exact rfl) ?_
      | refine wp_block ?_
      | refine wp_skip ?_
      | refine wp_ret ?_
      | refine wp_exit ?_
      | refine bx_ret ?_
      | refine bx_here ?_
      | refine bx_exit rfl ?_))
    refine ⟨by simp, k - 1, by omega, i + 1, by omega, rfl⟩
  · have : i = 4 := by omega
    subst this
    rw [mixC_4]
    repeat (first | (first
      | refine o_movd rfl rfl ?_
      | refine o_movp rfl rfl ?_
      | refine o_mova rfl rfl ?_
      | refine o_mov rfl rfl ?_
      | refine o_lssn rfl rfl rfl ?_
      | refine o_asgd rfl rfl ?_
      | refine o_asgo rfl rfl ?_
      | refine o_addkn rfl rfl rfl (by decide) (by (first | omega | (simp only [m64, mU, m8, n64, nU, n8, b64, bU, b8]; omega))) ?_
      | refine o_cat rfl rfl rfl (by (first | omega | (simp only [m64, mU, m8, n64, nU, n8, b64, bU, b8]; omega))) ?_
      | refine o_add rfl rfl rfl (by omega) (by omega) ?_
      | refine op_nil ?_
      | refine o_bin rfl rfl rfl rfl ?_) | (first
      | refine wp_seq ?_
      | refine wp_ops ?_
      | refine wp_keep ?_
      | refine keepN (by (simp +decide only [Slots.keep, Slots.get, reduceIte]); exact rfl) ?_
      | refine wp_block ?_
      | refine wp_skip ?_
      | refine wp_ret ?_
      | refine wp_exit ?_
      | refine bx_ret ?_
      | refine bx_here ?_
      | refine bx_exit rfl ?_))
    refine o_lcls rfl rfl (rfget0 _ _ _) ?_
    refine o_scls rfl rfl rfl (rfget1 _ _ _ _) rfl (rfset1 _ _ _ _ _) ?_
    repeat (first | (first
      | refine o_movd rfl rfl ?_
      | refine o_movp rfl rfl ?_
      | refine o_mova rfl rfl ?_
      | refine o_mov rfl rfl ?_
      | refine o_lssn rfl rfl rfl ?_
      | refine o_asgd rfl rfl ?_
      | refine o_asgo rfl rfl ?_
      | refine o_addkn rfl rfl rfl (by decide) (by (first | omega | (simp only [m64, mU, m8, n64, nU, n8, b64, bU, b8]; omega))) ?_
      | refine o_cat rfl rfl rfl (by (first | omega | (simp only [m64, mU, m8, n64, nU, n8, b64, bU, b8]; omega))) ?_
      | refine o_add rfl rfl rfl (by omega) (by omega) ?_
      | refine op_nil ?_
      | refine o_bin rfl rfl rfl rfl ?_) | (first
      | refine wp_seq ?_
      | refine wp_ops ?_
      | refine wp_keep ?_
      | refine keepN (by (simp +decide only [Slots.keep, Slots.get, reduceIte]); exact rfl) ?_
      | refine wp_block ?_
      | refine wp_skip ?_
      | refine wp_ret ?_
      | refine wp_exit ?_
      | refine bx_ret ?_
      | refine bx_here ?_
      | refine bx_exit rfl ?_))
    refine end_cls rfl rfl rfl (rfget1 _ _ _ _) (by simp)
end Go.Ab.R04
